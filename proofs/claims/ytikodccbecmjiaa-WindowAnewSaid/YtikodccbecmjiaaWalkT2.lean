/-
  The walks of the window of things, more: Push.
-/
import Derived.Test.YtikodccbecmjiaaWalkT
namespace Go.Proofs.Ytikodccbecmjiaa
open Go.RowKit Go.Win

section
variable {F : FuncId} {cap : Array Value} {f : T → T → T} {J : Nat → World → Prop} {Lo : List Nat} {ok : T → Prop}

set_option maxHeartbeats 1000000 in
theorem push9 (hF : OpOk F cap f J Lo ok) {w : World} {p : Nat} {L : List Nat} {s : WSt T} (h : THas F cap J Lo w p s L) (hl : s.len < 4096) (hc : s.calls < 8000000000000000000) (x : T) (hx : ok x) (hs : s.behind ≠ [] → ok s.sum) :
    Calls Try.prog 9 #[.pointer (some ⟨p,0,none⟩), tv x] w (TPost F cap J Lo p w L (s.push f x) (.int .i64 0)) := by
  obtain ⟨⟨va, vb, h, rfl⟩, hJ, hoff⟩ := h
  have hlen := fun o => len28 (w := w.alloc o) (F := F) (cap := cap) (va := va) (vb := vb) (p := p) (s := s) ⟨heap_alloc_some h.cells _, h.ahead.alloc _, h.behind.alloc _, h.pa, h.pb, h.ab⟩ (by omega)
  have Hl := Lib.hid hlen; clear hlen
  obtain ⟨hp, ha, hb, hpa, hpb, hab⟩ := h
  obtain ⟨ab, cb, hvb, _, _⟩ := hb.shape
  have hpl := lt_of_heap hp
  have hn1 : s.behind.length < 4096 := by unfold WSt.len at hl; omega
  obtain ⟨i0, hi, hz0, hz1, hz2⟩ := info_parts infoT
  have hd1 : decide ((4096 : Int) ≤ (s.len : Int)) = false := decide_eq_false (by omega)
  have hd2 : decide (4096 ≤ s.len) = false := decide_eq_false (by omega)
  clear hl
  generalize s.len = N at *
  have Hp := Lib.hid hp; have Ha := Lib.hid ha; have Hb := Lib.hid hb; have HJ := Lib.hid hJ; have Hoff := Lib.hid hoff; have Hc := Lib.hid hc; have Hx := Lib.hid hx; have Hs := Lib.hid hs; have Hn1 := Lib.hid hn1; clear hp ha hb hJ hoff hc hx hs hn1
  cases hbe : s.behind with
  | nil =>
    have hz : s.behind.length = 0 := by rw [hbe]; rfl
    rw [hz] at hvb
    subst hvb
    have hps : (s.push f x) = { s with behind := [x], sum := x } := by unfold WSt.push; rw [hbe]
    have Hps := Lib.hid hps; have Hbe := Lib.hid hbe; have Hz := Lib.hid hz; clear hps hbe hz
    go_enter Try.func9, Try.ntmps9
    go_wp2_with fail
    refine (Hl.out _).mono ?_
    rintro e w' ⟨rfl, nq, rfl⟩
    generalize hW : World.drewN (World.alloc w _) nq = W
    have q1 : W.heap[p]? = some (.cells (wcells F cap s.nothing va (.slice ab 0 cb) s.sum s.calls) 60 (0, 0)) := by
      rw [← hW]; exact heap_alloc_some Hp.out _
    have q2 : W.heap[w.heap.size]? = some (.cells #[.int .u64 x.1, .int .u64 x.2] 26 (0, 0)) := by
      rw [← hW]; exact heap_alloc_at _ _ _ (by simp)
    have q3 : w.Fr W [] := by rw [← hW]; exact ((World.Fr.refl w []).alloc _).of_drewN nq
    clear hW
    obtain ⟨a0, a1, a2, a3, a4, a5, a6, a7, af⟩ := eight q1
    obtain ⟨b0, b1, bf⟩ := two q2
    have Q1 := Lib.hid q1; have Q2 := Lib.hid q2; have Q3 := Lib.hid q3; clear q1 q2 q3
    have hne : ¬ w.heap.size = p := by omega
    have hne2 : ¬ p = w.heap.size := by omega
    go_upto_region 6 with (fail)
    generalize hW : World.setCell (World.setCell W _ _) _ _ = W2
    have q1 : W2.heap[p]? = some (.cells (wcells F cap s.nothing va (.slice ab 0 cb) x s.calls) 60 (0, 0)) := by
      rw [← hW]; exact heap_set_same (heap_set_same Q1.out 5 _) 6 _
    have q2 : W2.heap[w.heap.size]? = some (.cells #[.int .u64 x.1, .int .u64 x.2] 26 (0, 0)) := by
      rw [← hW]; exact heap_set_other (heap_set_other Q2.out _ hne _) _ hne _
    have q3 : w.Fr W2 [p] := by rw [← hW]; exact (((Q3.out.mono (by simp)).setCell (by simp) _).setCell (by simp) _)
    clear hW a0 a1 a2 a3 a4 a5 a6 a7 af b0 b1 bf Q1 Q2 Q3
    have hb2 : W2.Sl 26 2 (.slice ab 0 cb) 0 [] := by
      have := Hb.out.fr q3 (fun k hk => by simp; exact fun e => hpb (e ▸ hk))
      rw [Hbe.out] at this; exact this
    have ha2 := Ha.out.fr q3 (fun k hk => by simp; exact fun e => hpa (e ▸ hk))
    obtain ⟨a0, a1, a2, a3, a4, a5, a6, a7, af⟩ := eight q1
    obtain ⟨b0, b1, bf⟩ := two q2
    have hpl2 := lt_of_heap q1
    have hbl2 := lt_of_heap q2
    have Q1 := Lib.hid q1; have Q2 := Lib.hid q2; have Q3 := Lib.hid q3; have Hb2 := Lib.hid hb2; have Ha2 := Lib.hid ha2; clear q1 q2 q3 hb2 ha2
    go_region_law (first | (refine step_append_one _ rfl (.tmp 32) (.tmp 34) 51 rfl 26 i0 (.agg #[.int .u64 0, .int .u64 0]) 2 16 Try.underlying51 hi hz0 hz1 hz2 rfl (.slice ab 0 cb) 0 [] (by simp [Act.eval]) (World.Sl.alloc Hb2.out _) W2.heap.size 1 [.int .u64 x.1, .int .u64 x.2] 26 (by simp [Act.eval]) (heap_alloc_at _ _ _ rfl) rfl rfl (by omega) ?_; intro g off c w1 hsl hfr hat hlt; have hW1 := hfr.heap (heap_alloc_some Q1.out _) hpb; obtain ⟨k0, k1, k2, k3, k4, k5, k6, k7, kf⟩ := eight hW1; have HW1 := Lib.hid hW1; have Hsl := Lib.hid hsl; have Hfr := Lib.hid hfr; have Hat := Lib.hid hat; clear hW1 hsl hfr hat))
    all_goals
      have hfin := TPost.pushed (s' := { s with behind := [x], sum := x }) (r := .int .i64 0) hF (heap_set_same HW1.out 4 (.slice (some ⟨g, off, none⟩) 1 c)) (World.Sl.alloc (w := W2.drew) Ha2.out _) Hsl.out
        (hF.stay _ _ _ [p] HJ.out (World.Fr.alloc Q3.out.drew _) (fun k hk => by simp; rintro rfl; exact Hoff.out k (by simp [foot]) hk)) HJ.out Hoff.out ((World.Fr.alloc Q3.out.drew _).mono (L' := foot p va (.slice ab 0 cb) ++ Lo) (by simp [foot])) Hfr.out
        ((World.Fr.refl w1 [p]).setCell (a := ⟨p, 4, none⟩) (by simp) _) (by simpa using Hat.out) hpa hpb hpl hab
      have Hfin := Lib.hid hfin
      clear hfin HW1 Hsl Hfr Hat k0 k1 k2 k3 k4 k5 k6 k7 kf
      go_wp2
      go_ret
      rw [Hps.out]
      exact Hfin.out
  | cons b r =>
    subst hvb
    have hps : (s.push f x) = { s with behind := s.behind ++ [x], sum := f s.sum x, calls := s.calls + 1 } := by unfold WSt.push; rw [hbe]
    have hbl : 0 < s.behind.length := by rw [hbe]; simp
    have hsum := Hs.out (by rw [hbe]; simp)
    have hd3 : decide ((s.behind.length : Int) = 0) = false := decide_eq_false (by omega)
    have hd4 : ((s.behind.length : Int) == 0) = false := beq_eq_false_iff_ne.2 (by omega)
    have hlen1 : (s.behind ++ [x]).length = s.behind.length + 1 := by simp
    have hfl : (s.behind ++ [x]).flatMap thK.enc = s.behind.flatMap thK.enc ++ [.int .u64 x.1, .int .u64 x.2] := by simp
    have Hps := Lib.hid hps; have Hbe := Lib.hid hbe; have Hlen := Lib.hid hlen1; have Hfl := Lib.hid hfl; have Hsum := Lib.hid hsum; clear hps hbe hlen1 hfl hsum
    generalize hB : s.behind.length = B at *
    have HB := Lib.hid hB; clear hB
    go_enter Try.func9, Try.ntmps9
    go_wp2_with fail
    refine (Hl.out _).mono ?_
    rintro e w' ⟨rfl, nq, rfl⟩
    generalize hW : World.drewN (World.alloc w _) nq = W
    have q1 : W.heap[p]? = some (.cells (wcells F cap s.nothing va (.slice ab B cb) s.sum s.calls) 60 (0, 0)) := by
      rw [← hW]; exact heap_alloc_some Hp.out _
    have q2 : W.heap[w.heap.size]? = some (.cells #[.int .u64 x.1, .int .u64 x.2] 26 (0, 0)) := by
      rw [← hW]; exact heap_alloc_at _ _ _ (by simp)
    have q3 : w.Fr W [] := by rw [← hW]; exact ((World.Fr.refl w []).alloc _).of_drewN nq
    clear hW
    have hdoes := does29 hF p (Hoff.out p (by simp [foot])) s.nothing s.sum va (.slice ab B cb) s.calls s.sum x W.drew q1 Hc.out (hF.stay _ _ _ [] HJ.out q3.drew (by simp)) Hsum.out Hx.out
    obtain ⟨a0, a1, a2, a3, a4, a5, a6, a7, af⟩ := eight q1
    obtain ⟨b0, b1, bf⟩ := two q2
    have Q1 := Lib.hid q1; have Q2 := Lib.hid q2; have Q3 := Lib.hid q3; have Hd := Lib.hid hdoes; clear q1 q2 q3 hdoes
    have hne : ¬ w.heap.size = p := by omega
    have hne2 : ¬ p = w.heap.size := by omega
    have hlo := hF.lo _ _ HJ.out
    have Hlo := Lib.hid hlo; clear hlo
    go_upto_region 5 with (fail)
    go_region_with (go_at_call 29; refine Hd.out.mono ?_; rintro e w2 ⟨rfl, hf2, hp2, hJ2⟩; have hx2 := hf2.heap Q2.out (by simp; exact ⟨hne, fun hk => by have := Hlo.out _ hk; omega⟩); obtain ⟨k0, k1, k2, k3, k4, k5, k6, k7, kf⟩ := eight hp2; obtain ⟨l0, l1, lf⟩ := two hx2; have HP2 := Lib.hid hp2; have HX2 := Lib.hid hx2; have HF2 := Lib.hid hf2; have HJ2 := Lib.hid hJ2; clear hp2 hx2 hf2 hJ2)
    all_goals
      clear a0 a1 a2 a3 a4 a5 a6 a7 af b0 b1 bf
      go_upto_region 6 with (fail)
      generalize hW : World.setCell (World.setCell w2 _ _) _ _ = W2
      have q1 : W2.heap[p]? = some (.cells (wcells F cap s.nothing va (.slice ab B cb) (f s.sum x) (s.calls + 1)) 60 (0, 0)) := by
        rw [← hW]; exact heap_set_same (heap_set_same HP2.out 5 _) 6 _
      have q2 : W2.heap[w.heap.size]? = some (.cells #[.int .u64 x.1, .int .u64 x.2] 26 (0, 0)) := by
        rw [← hW]; exact heap_set_other (heap_set_other HX2.out _ hne _) _ hne _
      have q4 : w2.Fr W2 [p] := by rw [← hW]; exact (((World.Fr.refl w2 [p]).setCell (by simp) _).setCell (by simp) _)
      clear hW k0 k1 k2 k3 k4 k5 k6 k7 kf l0 l1 lf
      have hJ3 := hF.stay _ _ _ [p] HJ2.out q4 (fun k hk => by simp; rintro rfl; exact Hoff.out k (by simp [foot]) hk)
      have hdis : ∀ k, (k ∈ va.blk ∨ k ∈ (Value.slice ab B cb).blk) → k ∉ Lo := fun k hk => Hoff.out k (by simp [foot]; exact .inr hk)
      have hb2 := ((Hb.out.fr Q3.out.drew (by simp)).fr HF2.out (fun k hk => by simp; exact ⟨fun e => hpb (e ▸ hk), hdis k (.inr hk)⟩)).fr q4 (fun k hk => by simp; exact fun e => hpb (e ▸ hk))
      have ha2 := ((Ha.out.fr Q3.out.drew (by simp)).fr HF2.out (fun k hk => by simp; exact ⟨fun e => hpa (e ▸ hk), hdis k (.inl hk)⟩)).fr q4 (fun k hk => by simp; exact fun e => hpa (e ▸ hk))
      have q3 : w.Fr W2 (foot p va (.slice ab B cb) ++ Lo) := ((Q3.out.drew.mono (L' := foot p va (.slice ab B cb) ++ Lo) (by simp)).trans HF2.out (by intro j hj; simp at hj; simp [foot]; rcases hj with h | h <;> simp [h])).trans q4 (by simp [foot])
      obtain ⟨a0, a1, a2, a3, a4, a5, a6, a7, af⟩ := eight q1
      obtain ⟨b0, b1, bf⟩ := two q2
      have hpl2 := lt_of_heap q1
      have hbl2 := lt_of_heap q2
      have Q1' := Lib.hid q1; have Q2' := Lib.hid q2; have Q3' := Lib.hid q3; have Hb2 := Lib.hid hb2; have Ha2 := Lib.hid ha2; have HJ3 := Lib.hid hJ3; clear q1 q2 q3 q4 hb2 ha2 hJ3 hdis
      go_region_law (first | (refine step_append_one _ rfl (.tmp 32) (.tmp 34) 51 rfl 26 i0 (.agg #[.int .u64 0, .int .u64 0]) 2 16 Try.underlying51 hi hz0 hz1 hz2 rfl (.slice ab B cb) B (s.behind.flatMap thK.enc) (by simp [Act.eval]) (World.Sl.alloc Hb2.out _) W2.heap.size 1 [.int .u64 x.1, .int .u64 x.2] 26 (by simp [Act.eval]) (heap_alloc_at _ _ _ rfl) rfl rfl ⟨by have := Hn1.out; omega, by have := Hn1.out; omega⟩ ?_; intro g off c w1 hsl hfr hat hlt; have hW1 := hfr.heap (heap_alloc_some Q1'.out _) hpb; obtain ⟨k0, k1, k2, k3, k4, k5, k6, k7, kf⟩ := eight hW1; have HW1 := Lib.hid hW1; have Hsl := Lib.hid hsl; have Hfr := Lib.hid hfr; have Hat := Lib.hid hat; clear hW1 hsl hfr hat))
      all_goals
        have hfin := TPost.pushed (s' := { s with behind := s.behind ++ [x], sum := f s.sum x, calls := s.calls + 1 }) (r := .int .i64 0) hF (heap_set_same HW1.out 4 (.slice (some ⟨g, off, none⟩) (B + 1) c)) (World.Sl.alloc (w := W2.drew) Ha2.out _) (by rw [Hlen.out, Hfl.out]; exact Hsl.out)
          (hF.stay _ _ _ [] HJ3.out (((World.Fr.refl W2 []).drew).alloc _) (by simp)) HJ.out Hoff.out (World.Fr.alloc Q3'.out.drew _) Hfr.out
          ((World.Fr.refl w1 [p]).setCell (a := ⟨p, 4, none⟩) (by simp) _) (by simpa using Hat.out) hpa hpb hpl hab
        have Hfin := Lib.hid hfin
        clear hfin HW1 Hsl Hfr Hat k0 k1 k2 k3 k4 k5 k6 k7 kf
        go_wp2
        go_ret
        rw [Hps.out]
        exact Hfin.out
end
end Go.Proofs.Ytikodccbecmjiaa
