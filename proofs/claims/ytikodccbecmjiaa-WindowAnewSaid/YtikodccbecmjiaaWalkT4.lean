/-
  The walks of the window of things, more: turn.
-/
import Derived.Test.YtikodccbecmjiaaWalkT3
import Derived.Test.YtikodccbecmjiaaWalkS4
namespace Go.Proofs.Ytikodccbecmjiaa
open Go.RowKit Go.Win

theorem infoPT : (Try.prog.info? 62).map (fun i => (i.zero, i.size, i.bytes)) = some (some (.agg #[.int .u64 0, .int .u64 0, .int .u64 0, .int .u64 0]), 4, 32) := by kernel_rfl

theorem flatT_get (l : List T) (j : Nat) (x : T) (h : l[j]? = some x) : (l.flatMap thK.enc)[2 * j]? = some (.int .u64 x.1) ∧ (l.flatMap thK.enc)[2 * j + 1]? = some (.int .u64 x.2) := by
  induction l generalizing j with
  | nil => simp at h
  | cons a r ih =>
    cases j with
    | zero => simp at h; subst h; simp
    | succ j =>
      obtain ⟨h1, h2⟩ := ih j (by simpa using h)
      have e1 : 2 * (j + 1) = 2 * j + 1 + 1 := by omega
      simp only [List.flatMap_cons, List.cons_append, List.nil_append, e1, List.getElem?_cons_succ]
      exact ⟨h1, h2⟩

section
variable {F : FuncId} {cap : Array Value} {f : T → T → T} {J : Nat → World → Prop} {Lo : List Nat} {ok : T → Prop}

structure TurnT (F : FuncId) (cap : Array Value) (f : T → T → T) (J : Nat → World → Prop) (Lo : List Nat) (w : World) (p : Nat) (va vb : Value) (s : WSt T) (k : Nat) (wr : World) (vk : Value) : Prop where
  cells : wr.heap[p]? = some (.cells (wcells F cap s.nothing vk vb s.sum (turnAt f s k).2) 60 (0, 0))
  ahead : wr.Sl 62 4 vk (turnAt f s k).1.length ((turnAt f s k).1.flatMap thK.pair)
  behind : wr.Sl 26 2 vb s.behind.length (s.behind.flatMap thK.enc)
  st : J (turnAt f s k).2 wr
  fr : w.Fr wr (foot p va vb ++ Lo)
  new : ∀ k, k ∈ vk.blk → k ∈ va.blk ∨ w.heap.size ≤ k

theorem TurnT.next (hF : OpOk F cap f J Lo ok) {w W w1 : World} {p : Nat} {va vb vk : Value} {s : WSt T} {j g off c n n0 : Nat} {Ta : List (T × T)} {Tc : Nat}
    (hT : turnAt f s j = (Ta, Tc)) (hn : Ta.length = n)
    (hp : W.heap[p]? = some (.cells (wcells F cap s.nothing vk vb s.sum Tc) 60 (0, 0)))
    (hb : W.Sl 26 2 vb s.behind.length (s.behind.flatMap thK.enc)) (hJ : J Tc W) (hJ0 : J n0 w) (hoff : ∀ k, k ∈ foot p va vb → k ∉ Lo) (h0 : w.Fr W (foot p va vb ++ Lo)) (hnew : ∀ k, k ∈ vk.blk → k ∈ va.blk ∨ w.heap.size ≤ k)
    (hsl : w1.Sl 62 4 (.slice (some ⟨g, off, none⟩) n c) n (Ta.flatMap thK.pair)) (hfr : W.Fr w1 vk.blk) (hat : g ∈ vk.blk ∨ g = W.heap.size)
    (hpa : p ∉ va.blk) (hpb : p ∉ vb.blk) (hpl : p < w.heap.size) (hab : ∀ k, k ∈ va.blk → k ∉ vb.blk) (hbl : ∀ k, k ∈ vb.blk → k < w.heap.size) :
    TurnT F cap f J Lo w p va vb s j (w1.setCell ⟨p, 3, none⟩ (.slice (some ⟨g, off, none⟩) n c)) (.slice (some ⟨g, off, none⟩) n c) := by
  have hpk : p ∉ vk.blk := fun e => (hnew p e).elim hpa (fun h => by omega)
  have hkb : ∀ k, k ∈ vb.blk → k ∉ vk.blk := fun k hk e => (hnew k e).elim (fun h => hab k h hk) (fun h => by have := hbl k hk; omega)
  have hkl : ∀ k, k ∈ Lo → k ∉ vk.blk := fun k hk e => (hnew k e).elim (fun h => hoff k (by simp [foot, h]) hk) (fun h => by have := hF.lo _ _ hJ0 k hk; omega)
  have hg : g ∈ va.blk ∨ w.heap.size ≤ g := hat.elim (hnew g) (fun e => .inr (by have := h0.size; omega))
  refine ⟨?_, ?_, (hb.fr hfr hkb).setCell hpb _, ?_, ?_, fun k hk => ?_⟩
  · rw [hT]; exact heap_set_same (hfr.heap hp hpk) 3 _
  · rw [hT]; subst hn
    exact hsl.setCell (by simp [Value.blk]; rintro rfl; exact hg.elim hpa (fun h => by omega)) _
  · rw [hT]
    exact hF.stay _ _ _ [p] (hF.stay _ _ _ _ hJ hfr hkl) ((World.Fr.refl w1 [p]).setCell (by simp) _) (fun k hk => by simp; rintro rfl; exact hoff k (by simp [foot]) hk)
  · exact (h0.trans hfr fun k hk => (hnew k hk).imp (fun h => by simp [foot, h]) id).setCell (by simp [foot]) _
  · simp [Value.blk] at hk; subst hk; exact hg

set_option maxHeartbeats 2000000 in
theorem turn33 (hF : OpOk F cap f J Lo ok) {w : World} {p : Nat} {L : List Nat} {s : WSt T} (h : THas F cap J Lo w p s L) (hl : s.len < 1000000) (hc : ∀ k, (turnAt f s k).2 < 8000000000000000000)
    (hx : ∀ x, x ∈ s.behind → ok x) (hq : ∀ k q, (turnAt f s k).1.getLast? = some q → ok q.2) :
    Calls Try.prog 33 #[.pointer (some ⟨p,0,none⟩)] w (TPost F cap J Lo p w L (s.turn f) (.tuple #[])) := by
  obtain ⟨⟨va, vb, h, rfl⟩, hJ, hoff⟩ := h
  obtain ⟨hp, ha, hb, hpa, hpb, hab⟩ := h
  have hpl := lt_of_heap hp
  obtain ⟨ab, cb, rfl, hcb1, hcb2⟩ := hb.shape
  obtain ⟨h0, h1, h2, h3, h4, h5, h6, h7, hf⟩ := eight hp
  have hBl : s.behind.length < 1000000 := by unfold WSt.len at hl; omega
  obtain ⟨i0, hi, hz0, hz1, hz2⟩ := info_parts infoPT
  have hinv : TurnT F cap f J Lo w p va (.slice ab s.behind.length cb) s s.behind.length w va := by
    refine ⟨?_, ?_, hb, ?_, World.Fr.refl _ _, fun k hk => .inl hk⟩
    · rw [turnAt_end]; exact hp
    · rw [turnAt_end]; exact ha
    · rw [turnAt_end]; exact hJ
  have Hinv := Lib.hid hinv; clear hinv
  have Hp := Lib.hid hp; have Ha := Lib.hid ha; have Hb := Lib.hid hb; have Hc := Lib.hid hc; have Hx := Lib.hid hx; have Hq := Lib.hid hq; have Hl := Lib.hid hl; have HJ := Lib.hid hJ; have Hoff := Lib.hid hoff; clear hp ha hb hc hx hq hl hJ hoff
  have hw1 : IntKind.i64.wrap ((s.behind.length : Int) - 1) = (s.behind.length : Int) - 1 := IntWalk.i64_in _ (by omega)
  go_enter Try.func33, Try.ntmps33
  go_wp2
  go_loopw [2] (fun i wr => ∃ k vk, k ≤ s.behind.length ∧ i = .int .i64 ((k : Int) - 1) ∧ Hid (TurnT F cap f J Lo w p va (.slice ab s.behind.length cb) s k wr vk)) (fun i _ => (intOf i + 1).toNat)
  case atStart => exact ⟨s.behind.length, va, Nat.le_refl _, rfl, Hinv⟩
  case round =>
    obtain ⟨k, vk, hk, rfl, HI⟩ := hrel
    clear h0 h1 h2 h3 h4 h5 h6 h7 hf
    obtain ⟨i1, i2, i3, i4, i5, i6⟩ := HI.out
    obtain ⟨h0, h1, h2, h3, h4, h5, h6, h7, hf⟩ := eight i1
    have hpr := lt_of_heap i1
    have hpr1 : p < wr.heap.size + 1 := by omega
    have hpr2 : p < wr.heap.size + 1 + 1 := by omega
    cases k with
    | zero =>
      have HI1 := Lib.hid i1; have HI2 := Lib.hid i2; have HI3 := Lib.hid i3; have HI4 := Lib.hid i4; have HI5 := Lib.hid i5; have HI6 := Lib.hid i6; clear i1 i2 i3 i4 i5 i6 HI
      have hz : (((0 : Nat) : Int) - 1) = -1 := rfl
      rw [hz]
      clear hz
      go_wp2
      go_end0
      have hp' := heap_set_same HI1.out 4 (.slice none 0 0)
      rw [turnAt_zero]
      have hnp : p ∉ vk.blk := fun e => (HI6.out p e).elim hpa (fun h => by omega)
      exact TPost.mk hF (va' := vk) (vb' := .slice none 0 0) (s' := { s with ahead := (turnAt f s 0).1, calls := (turnAt f s 0).2, behind := [] }) hp' (HI2.out.setCell hnp _) (World.Sl.nil _ _ _)
        (hF.stay _ _ _ [p] HI4.out ((World.Fr.refl wr [p]).setCell (by simp) _) (fun k hk => by simp; rintro rfl; exact Hoff.out k (by simp [foot]) hk)) HJ.out Hoff.out
        (HI5.out.setCell (by simp [foot]) _) HI6.out (by simp [Value.blk]) hpa hpb hpl (by simp [Value.blk])
    | succ j =>
      have hz : (((j + 1 : Nat) : Int) - 1) = (j : Int) := by omega
      rw [hz]
      clear hz
      have hjB : j < s.behind.length := by omega
      obtain ⟨g, off, cp, he, _, _, hgl, hcells, _⟩ := i3.form (by omega)
      cases he
      have hxj : s.behind[j]? = some s.behind[j] := List.getElem?_eq_getElem hjB
      have hfl := flatT_get s.behind j _ hxj
      have hx1 := hcells (2 * j) (by omega)
      have hx2 := hcells (2 * j + 1) (by omega)
      rw [hfl.1, show off + 2 * j = off + j * 2 from by omega] at hx1
      rw [hfl.2, show off + (2 * j + 1) = off + j * 2 + 1 from by omega] at hx2
      have hc1 := Hc.out (j + 1)
      have hts := turnAt_succ f s j hjB
      have hokx := Hx.out s.behind[j] (List.getElem_mem hjB)
      have hokq := Hq.out (j + 1)
      have hTl := turnAt_len f s (j + 1) hk
      generalize hxv : s.behind[j] = x at *
      generalize hT : turnAt f s (j + 1) = TT at *
      obtain ⟨Ta, Tc⟩ := TT
      simp only at i1 i2 i4 h3 h7 hc1 hokq hTl
      have hgl1 : g < wr.heap.size + 1 := by omega
      have HI1 := Lib.hid i1; have HI2 := Lib.hid i2; have HI3 := Lib.hid i3; have HI4 := Lib.hid i4; have HI5 := Lib.hid i5; have HI6 := Lib.hid i6; clear i1 i2 i3 i4 i5 i6 HI hcells hfl
      have Hxj := Lib.hid hxj; have Hc1 := Lib.hid hc1; have Hts := Lib.hid hts; have Hokx := Lib.hid hokx; have Hokq := Lib.hid hokq; have Hxv := Lib.hid hxv; have HT := Lib.hid hT; have HTl := Lib.hid hTl; clear hxj hc1 hts hokx hokq hxv hT hTl
      have hjI : (j : Int) < (s.behind.length : Int) := by omega
      obtain ⟨ak, ck, rfl, hck1, hck2⟩ := HI2.out.shape
      have hnp : p ∉ (Value.slice ak Ta.length ck).blk := fun e => (HI6.out p e).elim hpa (fun h => by omega)
      rcases List.eq_nil_or_concat Ta with hTa | ⟨a0, q, hTa⟩
      · subst hTa
        simp only [List.length_nil] at h3 HI1 HI2 hnp
        go_upto_region 8 with (fail)
        generalize hW : World.alloc (World.alloc wr _) _ = W
        have q1 : W.heap[p]? = some (.cells (wcells F cap s.nothing (.slice ak 0 ck) (.slice (some ⟨g, off, none⟩) s.behind.length cb) s.sum Tc) 60 (0, 0)) := by
          rw [← hW]; exact heap_alloc_some (heap_alloc_some HI1.out _) _
        have q2 : W.heap[wr.heap.size]? = some (.cells #[.int .u64 x.1, .int .u64 x.2] 26 (0, 0)) := by
          rw [← hW]; exact heap_alloc_some (heap_alloc_at _ _ _ rfl) _
        have q3 : W.heap[wr.heap.size + 1]? = some (.cells #[.int .u64 x.1, .int .u64 x.2] 26 (0, 0)) := by
          rw [← hW]; exact heap_alloc_at _ _ _ (by simp)
        have q4 : wr.Fr W [] := by rw [← hW]; exact ((World.Fr.refl wr []).alloc _).alloc _
        clear hW h0 h1 h2 h3 h4 h5 h6 h7 hf hx1 hx2
        have hts : turnAt f s j = ([(x, x)], Tc) := by rw [Hts.out]; rfl
        have hf8 := HI5.out.trans (q4.mono (L' := foot p va (.slice (some ⟨g, off, none⟩) s.behind.length cb) ++ Lo) (by simp)) (fun k hk => .inl hk)
        have ha8 := HI2.out.fr q4 (by simp)
        have hb8 := HI3.out.fr q4 (by simp)
        have hj8 := hF.stay _ _ _ _ HI4.out q4 (by simp)
        obtain ⟨a0, a1, a2, a3, a4, a5, a6, a7, af⟩ := eight q1
        obtain ⟨b0, b1, bf⟩ := two q2
        obtain ⟨c0, c1, cf⟩ := two q3
        have hpl2 := lt_of_heap q1
        have hbl2 := lt_of_heap q2
        have hcl2 := lt_of_heap q3
        have Q1 := Lib.hid q1; have Q4 := Lib.hid q4; have Hts2 := Lib.hid hts; have Hf8 := Lib.hid hf8; have Ha8 := Lib.hid ha8; have Hb8 := Lib.hid hb8; have Hj8 := Lib.hid hj8; clear q1 q2 q3 q4 hts hf8 ha8 hb8 hj8
        go_region_law (first | (refine step_append_one _ rfl (.tmp 47) (.tmp 51) 58 rfl 62 i0 (.agg #[.int .u64 0, .int .u64 0, .int .u64 0, .int .u64 0]) 4 32 Try.underlying58 hi hz0 hz1 hz2 rfl (.slice ak 0 ck) 0 [] (by simp [Act.eval]) (World.Sl.alloc Ha8.out _) W.heap.size 1 [.int .u64 x.1, .int .u64 x.2, .int .u64 x.1, .int .u64 x.2] 62 (by simp [Act.eval]) (heap_alloc_at _ _ _ rfl) rfl rfl ⟨by omega, by omega⟩ ?_; intro g2 off2 c2 w1 hsl hfr hat hlt; have hW1 := hfr.heap (heap_alloc_some Q1.out _) hnp; obtain ⟨k0, k1, k2, k3, k4, k5, k6, k7, kf⟩ := eight hW1; have HW1 := Lib.hid hW1; have Hsl := Lib.hid hsl; have Hfr := Lib.hid hfr; have Hat := Lib.hid hat; clear hW1 hsl hfr hat))
        all_goals
          have hnext := TurnT.next (F := F) (cap := cap) (n := 1) hF Hts2.out rfl (heap_alloc_some (w := W.drew) Q1.out _) (World.Sl.alloc (w := W.drew) Hb8.out _) (hF.stay _ _ _ [] Hj8.out (((World.Fr.refl W []).drew).alloc _) (by simp)) HJ.out Hoff.out (World.Fr.alloc Hf8.out.drew _) HI6.out (by simpa [Kind.pair] using Hsl.out) Hfr.out (by simpa using Hat.out) hpa hpb hpl hab Hb.out.lt
          have Hnext := Lib.hid hnext
          clear hnext HW1 Hsl Hfr Hat k0 k1 k2 k3 k4 k5 k6 k7 kf
          go_wp2
          go_roundw
          case rel => exact ⟨j, _, by omega, rfl, Hnext.out⟩
          case measure => simp [intOf]
      · rw [List.concat_eq_append] at hTa
        have hn : Ta.length = a0.length + 1 := by rw [hTa]; simp
        have hal : a0.length < 1000000 := by have := HTl.out; have h2 := Hl.out; unfold WSt.len at h2; omega
        have hlast : Ta.getLast? = some q := by rw [hTa]; simp
        have hok2 : ok q.2 := Hokq.out q hlast
        have hts : turnAt f s j = (Ta ++ [(x, f x q.2)], Tc + 1) := by rw [Hts.out]; unfold turn1; simp [hlast]
        have hq0 := HI2.out
        rw [hn] at hq0 h3 HI1 HI2 hnp
        obtain ⟨gk, offk, capk, hek, _, _, hgkl, hcellk, _⟩ := hq0.form (by omega)
        cases hek
        have hq1 := hcellk (4 * a0.length + 2) (by omega)
        have hq2 := hcellk (4 * a0.length + 3) (by omega)
        rw [hTa, pairT_get, show offk + (4 * a0.length + 2) = offk + a0.length * 4 + 2 from by omega] at hq1
        rw [hTa, pairT_get, show offk + (4 * a0.length + 3) = offk + a0.length * 4 + 2 + 1 from by omega] at hq2
        simp only [Kind.pair, List.cons_append, List.nil_append, List.getElem?_cons_succ, List.getElem?_cons_zero] at hq1 hq2
        have Hq0 := Lib.hid hq0; have Hn := Lib.hid hn; have Hts2 := Lib.hid hts; have Hok2 := Lib.hid hok2; have HTa := Lib.hid hTa
        clear hcellk hq0 hn hts hok2 hTa hlast
        generalize a0.length = n at *
        have hgk1 : gk < wr.heap.size + 1 := by omega
        have hs1 : IntKind.i64.wrap ((n : Int) + 1 - 1) = n := by rw [IntWalk.i64_in _ (by omega)]; omega
        have hs2 : IntKind.i64.wrap (n : Int) = n := IntWalk.i64_in _ (by omega)
        have hs3 : (n : Int) < n + 1 := by omega
        have hpos : decide ((0 : Int) < (n : Int) + 1) = true := decide_eq_true (by omega)
        have hlo := hF.lo _ _ HI4.out
        have Hlo := Lib.hid hlo; clear hlo
        go_upto_region 7 with (fail)
        generalize hW : World.alloc (World.alloc wr _) _ = W
        have q1 : W.heap[p]? = some (.cells (wcells F cap s.nothing (.slice (some ⟨gk, offk, none⟩) (n + 1) ck) (.slice (some ⟨g, off, none⟩) s.behind.length cb) s.sum Tc) 60 (0, 0)) := by
          rw [← hW]; exact heap_alloc_some (heap_alloc_some HI1.out _) _
        have q2 : W.heap[wr.heap.size]? = some (.cells #[.int .u64 x.1, .int .u64 x.2] 26 (0, 0)) := by
          rw [← hW]; exact heap_alloc_some (heap_alloc_at _ _ _ rfl) _
        have q3 : W.heap[wr.heap.size + 1]? = some (.cells #[.int .u64 x.1, .int .u64 x.2] 26 (0, 0)) := by
          rw [← hW]; exact heap_alloc_at _ _ _ (by simp)
        have q4 : wr.Fr W [] := by rw [← hW]; exact ((World.Fr.refl wr []).alloc _).alloc _
        clear hW h0 h1 h2 h3 h4 h5 h6 h7 hf hx1 hx2
        have q5 : W.cell? ⟨gk, offk + n * 4 + 2, none⟩ = some (.int .u64 q.2.1) := (World.cell?_of_block (a := ⟨gk, offk + n * 4 + 2, none⟩) (q4.block gk hgkl (by simp))).trans hq1
        have q6 : W.cell? ⟨gk, offk + n * 4 + 2 + 1, none⟩ = some (.int .u64 q.2.2) := (World.cell?_of_block (a := ⟨gk, offk + n * 4 + 2 + 1, none⟩) (q4.block gk hgkl (by simp))).trans hq2
        clear hq1 hq2
        have hJ1 := hF.stay _ _ _ [] HI4.out q4.drew (by simp)
        have hdoes := does29 hF p (Hoff.out p (by simp [foot])) s.nothing s.sum _ (.slice (some ⟨g, off, none⟩) s.behind.length cb) Tc x q.2 W.drew q1 Hc1.out hJ1 Hokx.out Hok2.out
        obtain ⟨a0', a1, a2, a3, a4, a5, a6, a7, af⟩ := eight q1
        obtain ⟨b0, b1, bf⟩ := two q2
        have Q1 := Lib.hid q1; have Q2 := Lib.hid q2; have Q3 := Lib.hid q3; have Q4 := Lib.hid q4; have Hd := Lib.hid hdoes; clear q1 q2 q3 q4 hdoes hJ1
        go_still_tail 11, (by kernel_rfl)
        change wpList _ _ _ _ _ W.drew
        go_wp2_with fail
        refine Hd.out.mono ?_
        rintro e w2 ⟨rfl, hf2, hp2, hJ2⟩
        have hx2 := hf2.heap Q2.out (by simp; exact ⟨by omega, fun hk => by have := Hlo.out _ hk; omega⟩)
        have hx3 := hf2.heap Q3.out (by simp; exact ⟨by omega, fun hk => by have := Hlo.out _ hk; omega⟩)
        obtain ⟨l0, l1, lf⟩ := two hx3
        have HP2 := Lib.hid hp2; have HX2 := Lib.hid hx2; have HX3 := Lib.hid hx3; have HF2 := Lib.hid hf2; have HJ2 := Lib.hid hJ2; clear hp2 hx2 hx3 hf2 hJ2 a0' a1 a2 a3 a4 a5 a6 a7 af b0 b1 bf q5 q6
        go_upto_region 8 with (fail)
        generalize hW : World.setCell (World.setCell w2 _ _) _ _ = W3
        have hst : w2.Fr W3 [wr.heap.size + 1] := by rw [← hW]; exact ((World.Fr.refl w2 [wr.heap.size + 1]).setCell (by simp) _).setCell (by simp) _
        have q1 := hst.heap HP2.out (by simp; omega)
        have q2 := hst.heap HX2.out (by simp)
        have q3 : W3.heap[wr.heap.size + 1]? = some (.cells #[.int .u64 (f x q.2).1, .int .u64 (f x q.2).2] 26 (0, 0)) := by
          rw [← hW]; exact heap_set_same (heap_set_same HX3.out 0 _) 1 _
        clear hW l0 l1 lf
        have hoffk : ∀ k, k ∈ (Value.slice (some ⟨gk, offk, none⟩) (n + 1) ck).blk → k ∉ p :: Lo := fun k hk => by
          have h1 := HI2.out.lt k hk
          have h2 := HI6.out k (by simpa [Value.blk] using hk)
          simp
          refine ⟨fun e => hnp (e ▸ hk), fun hl => h2.elim (fun h => Hoff.out k (by simp [foot, h]) hl) (fun h => by have := hF.lo _ _ HJ.out k hl; omega)⟩
        have hoffb : ∀ k, k ∈ (Value.slice (some ⟨g, off, none⟩) s.behind.length cb).blk → k ∉ p :: Lo := fun k hk => by
          simp; exact ⟨fun e => hpb (e ▸ hk), Hoff.out k (by simp [foot, hk])⟩
        have hwf : wr.Fr W3 (p :: Lo) := ((Q4.out.drew.mono (L' := p :: Lo) (by simp)).trans HF2.out (fun k hk => .inl hk)).trans hst (by intro j hj; simp at hj; subst hj; exact .inr (by omega))
        have hf8 := HI5.out.trans (hwf.mono (L' := foot p va (.slice (some ⟨g, off, none⟩) s.behind.length cb) ++ Lo) (by intro k hk; simp at hk; simp [foot]; rcases hk with h | h <;> simp [h])) (fun k hk => .inl hk)
        have ha8 := HI2.out.fr hwf hoffk
        have hb8 := HI3.out.fr hwf hoffb
        have hj8 := hF.stay _ _ _ _ HJ2.out hst (fun k hk => by have := Hlo.out k hk; simp; omega)
        obtain ⟨a0', a1, a2, a3, a4, a5, a6, a7, af⟩ := eight q1
        obtain ⟨b0, b1, bf⟩ := two q2
        obtain ⟨c0, c1, cf⟩ := two q3
        have hpl2 := lt_of_heap q1
        have hbl2 := lt_of_heap q2
        have hcl2 := lt_of_heap q3
        clear Q1
        have Q1 := Lib.hid q1; have Hf8 := Lib.hid hf8; have Ha8 := Lib.hid ha8; have Hb8 := Lib.hid hb8; have Hj8 := Lib.hid hj8; clear q1 q2 q3 hf8 ha8 hb8 hj8 hst hwf
        go_region_law (first | (refine step_append_one _ rfl (.tmp 47) (.tmp 51) 58 rfl 62 i0 (.agg #[.int .u64 0, .int .u64 0, .int .u64 0, .int .u64 0]) 4 32 Try.underlying58 hi hz0 hz1 hz2 rfl (.slice (some ⟨gk, offk, none⟩) (n + 1) ck) (n + 1) (Ta.flatMap thK.pair) (by simp [Act.eval]) (World.Sl.alloc Ha8.out _) W3.heap.size 1 [.int .u64 x.1, .int .u64 x.2, .int .u64 (f x q.2).1, .int .u64 (f x q.2).2] 62 (by simp [Act.eval]) (heap_alloc_at _ _ _ rfl) rfl rfl ⟨by omega, by omega⟩ ?_; intro g2 off2 c2 w1 hsl hfr hat hlt; have hW1 := hfr.heap (heap_alloc_some Q1.out _) hnp; obtain ⟨k0, k1, k2, k3, k4, k5, k6, k7, kf⟩ := eight hW1; have HW1 := Lib.hid hW1; have Hsl := Lib.hid hsl; have Hfr := Lib.hid hfr; have Hat := Lib.hid hat; clear hW1 hsl hfr hat))
        all_goals
          have hnext := TurnT.next (F := F) (cap := cap) (n := n + 1 + 1) hF Hts2.out (by simp [Hn.out]) (heap_alloc_some (w := W3.drew) Q1.out _) (World.Sl.alloc (w := W3.drew) Hb8.out _) (hF.stay _ _ _ [] Hj8.out (((World.Fr.refl W3 []).drew).alloc _) (by simp)) HJ.out Hoff.out (World.Fr.alloc Hf8.out.drew _) HI6.out (by simpa [Kind.pair] using Hsl.out) Hfr.out (by simpa using Hat.out) hpa hpb hpl hab Hb.out.lt
          have Hnext := Lib.hid hnext
          clear hnext HW1 Hsl Hfr Hat k0 k1 k2 k3 k4 k5 k6 k7 kf
          go_wp2
          go_roundw
          case rel => exact ⟨j, _, by omega, rfl, Hnext.out⟩
          case measure => simp [intOf]
end
end Go.Proofs.Ytikodccbecmjiaa
