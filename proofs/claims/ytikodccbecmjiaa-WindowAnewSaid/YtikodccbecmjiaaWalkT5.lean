/-
  The walks of the window of things, more: Pop, New.
-/
import Derived.Test.YtikodccbecmjiaaWalkT4
namespace Go.Proofs.Ytikodccbecmjiaa
open Go.RowKit Go.Win

section
variable {F : FuncId} {cap : Array Value} {f : T → T → T} {J : Nat → World → Prop} {Lo : List Nat} {ok : T → Prop}

def popT (s : WSt T) : T × Int :=
  match s.ahead.getLast? with
  | none => ((0, 0), 110)
  | some q => (q.1, 0)
abbrev popV (s : WSt T) : Value := .tuple #[tv (popT s).1, .int .i64 (popT s).2]

theorem popT_end {w w1 : World} {p : Nat} {L : List Nat} {va vb : Value} {s1 : WSt T} {a0 : List (T × T)} {q : T × T} {g off c : Nat} (hF : OpOk F cap f J Lo ok)
    (h : IsWin thK (fc F cap) w1 p va vb s1) (hJ : J s1.calls w1) (hA : s1.ahead = a0 ++ [q]) (he : va = .slice (some ⟨g, off, none⟩) (a0.length + 1) c) (hfr : w.Fr w1 (L ++ Lo)) (hL : ∀ k, k ∈ foot p va vb → k ∈ L ∨ w.heap.size ≤ k)
    (hoff : ∀ k, k ∈ foot p va vb → k ∉ Lo) {r : Nat} (hr1 : r ∉ foot p va vb) (hr2 : r ∉ Lo) (hr3 : w.heap.size ≤ r) {w' : World} (hw : (w1.setCell ⟨p, 3, none⟩ (.slice (some ⟨g, off, none⟩) a0.length c)).Fr w' [r]) :
    TPost F cap J Lo p w L s1.cut (.tuple #[tv q.1, .int .i64 0]) (.returned (.tuple #[tv q.1, .int .i64 0])) w' := by
  obtain ⟨hp1, ha1, hb1, hpa1, hpb1, hab1⟩ := h
  subst he
  have hn : s1.ahead.length = a0.length + 1 := by rw [hA]; simp
  rw [hn] at ha1
  have ha2 := ha1.take a0.length (by omega)
  have hcut : s1.cut.ahead = a0 := by unfold WSt.cut; simp only; rw [hA]; simp
  have htk : (s1.ahead.flatMap thK.pair).take (a0.length * 4) = a0.flatMap thK.pair := by
    rw [hA, List.flatMap_append, List.take_append_of_le_length (by rw [pairT_len]; omega), List.take_of_length_le (by rw [pairT_len]; omega)]
  have hs1 : w1.Fr w' [p, r] := ((World.Fr.refl w1 [p, r]).setCell (a := ⟨p, 3, none⟩) (by simp) _).trans hw (by simp)
  have hdr : ∀ k, k ∈ foot p (.slice (some ⟨g, off, none⟩) (a0.length + 1) c) vb → k ∉ [r] := fun k hk => by simp; rintro rfl; exact hr1 hk
  refine ⟨rfl, _, ⟨⟨.slice (some ⟨g, off, none⟩) a0.length c, vb, ⟨?_, ?_, ?_, hpa1, hpb1, hab1⟩, rfl⟩, ?_, hoff⟩, ?_, hL⟩
  · exact hw.heap (heap_set_same hp1 3 _) (hdr p (by simp [foot]))
  · rw [hcut]
    have := (ha2.setCell (a := ⟨p, 3, none⟩) hpa1 (.slice (some ⟨g, off, none⟩) a0.length c)).fr hw (fun k hk => hdr k (by simp [Value.blk] at hk; simp [foot, Value.blk, hk]))
    rw [show a0.length * (2 * thK.k) = a0.length * 4 from rfl, htk] at this
    exact this
  · exact (hb1.setCell hpb1 _).fr hw (fun k hk => hdr k (by simp [foot, hk]))
  · exact hF.stay _ _ _ _ hJ hs1 (fun k hk => by simp; exact ⟨fun e => hoff k (by simp [foot, e]) hk, fun e => hr2 (e ▸ hk)⟩)
  · exact hfr.trans hs1 (by intro j hj; simp at hj; rcases hj with h | h <;> subst h; exact (hL j (by simp [foot])).imp (fun h => by simp [h]) id; exact .inr hr3)

structure TurnOkT (f : T → T → T) (ok : T → Prop) (s : WSt T) : Prop where
  calls : ∀ k, (turnAt f s k).2 < 8000000000000000000
  beh : ∀ x, x ∈ s.behind → ok x
  all : ∀ k q, (turnAt f s k).1.getLast? = some q → ok q.2

set_option maxHeartbeats 1000000 in
theorem pop21 (hF : OpOk F cap f J Lo ok) {w : World} {p : Nat} {L : List Nat} {s : WSt T} (h : THas F cap J Lo w p s L) (hl : s.len < 1000000) (ht : s.ahead = [] → TurnOkT f ok s) :
    Calls Try.prog 21 #[.pointer (some ⟨p,0,none⟩)] w (TPost F cap J Lo p w L (s.turned f).cut (popV (s.turned f))) := by
  have hturn := fun (hA : s.ahead = []) (o : Obj) => turn33 (w := w.alloc o) hF ⟨h.has.fr ((World.Fr.refl w []).alloc o) (by simp), hF.stay _ _ _ _ h.st ((World.Fr.refl w []).alloc o) (by simp), h.off⟩ hl (ht hA).calls (ht hA).beh (ht hA).all
  have hlo := hF.lo _ _ h.st
  have hLlt := h.has.lt
  obtain ⟨⟨va, vb, h, rfl⟩, hJ, hoff⟩ := h
  have hpl := lt_of_heap h.cells
  have hpl1 : p < w.heap.size + 1 := by omega
  have Hturn := Lib.hid hturn; have Hlo := Lib.hid hlo; have HLlt := Lib.hid hLlt; clear hturn hlo hLlt
  by_cases hA : s.ahead = []
  · have hturn := Hturn.out hA; clear Hturn; have Hturn := Lib.hid hturn; clear hturn
    have hst : s.turned f = s.turn f := by unfold WSt.turned; rw [if_pos hA]
    obtain ⟨hp, ha, hb, hpa, hpb, hab⟩ := h
    obtain ⟨aa, ca, hva, _, _⟩ := ha.shape
    obtain ⟨h0, h1, h2, h3, h4, h5, h6, h7, hf⟩ := eight hp
    have hz : s.ahead.length = 0 := by rw [hA]; rfl
    rw [hz] at hva
    rw [hva] at h3
    have hs1l : (s.turn f).ahead.length < 1000000 := by
      rw [turnAt_zero]; simp only; rw [turnAt_len _ s 0 (by omega)]; unfold WSt.len at hl; omega
    have Hst := Lib.hid hst; have HA := Lib.hid hA; have Hp := Lib.hid hp; have Ha := Lib.hid ha; have Hb := Lib.hid hb; have Hz := Lib.hid hz; have Hva := Lib.hid hva; have Hl := Lib.hid hl; have Ht := Lib.hid ht; have HJ := Lib.hid hJ; have Hoff := Lib.hid hoff; clear hst hA hp ha hb hz hva hl ht hJ hoff
    generalize s.turn f = s1 at *
    go_enter Try.func21, Try.ntmps21
    go_wp2_with fail
    refine (Hturn.out _).mono ?_
    rintro e w2 ⟨rfl, L', ⟨⟨va1, vb1, hw1, rfl⟩, hJ1, hoff1⟩, hfr, hL'⟩
    obtain ⟨hp1, ha1, hb1, hpa1, hpb1, hab1⟩ := hw1
    -- the result's block, and the frame from w on
    have hres : w2.heap[w.heap.size]? = some (.cells #[.int .u64 0, .int .u64 0] 26 (0, 0)) :=
      hfr.heap (heap_alloc_at w _ _ rfl) (by simp; exact ⟨fun hk => by have := HLlt.out _ hk; omega, fun hk => by have := Hlo.out _ hk; omega⟩)
    have hfrw : w.Fr w2 (foot p va vb ++ Lo) := ((World.Fr.refl w _).alloc _).trans hfr (fun k hk => .inl hk)
    have hLw : ∀ k, k ∈ foot p va1 vb1 → k ∈ foot p va vb ∨ w.heap.size ≤ k := fun k hk => (hL' k hk).imp id (fun h => by simp at h; omega)
    have hnr : w.heap.size ∉ foot p va1 vb1 := fun hk => (hL' _ hk).elim (fun h => by have := HLlt.out _ h; omega) (fun h => absurd h (by simp))
    clear h0 h1 h2 h3 h4 h5 h6 h7 hf hfr hL'
    obtain ⟨aa1, ca1, hva1, _, _⟩ := ha1.shape
    obtain ⟨h0, h1, h2, h3, h4, h5, h6, h7, hf⟩ := eight hp1
    obtain ⟨r0, r1, rf⟩ := two hres
    have hpl2 := lt_of_heap hp1
    have hrl2 := lt_of_heap hres
    have hpl3 : p < w2.heap.size + 1 := by omega
    have hrl3 : w.heap.size < w2.heap.size + 1 := by omega
    have hnpr : ¬ p = w.heap.size := by omega
    have hnpr2 : ¬ w.heap.size = p := by omega
    rcases List.eq_nil_or_concat s1.ahead with hA1 | ⟨a0, q, hA1⟩
    · have hpv : popT s1 = ((0, 0), 110) := by unfold popT; rw [hA1]; rfl
      have hcut : s1.cut = s1 := by unfold WSt.cut; rw [hA1, List.dropLast_nil, ← hA1]
      have hz1 : s1.ahead.length = 0 := by rw [hA1]; rfl
      rw [hva1, hz1] at h3
      have hfin : ∀ w', w2.Fr w' [w.heap.size] → TPost F cap J Lo p w (foot p va vb) s1 (.tuple #[tv (0, 0), .int .i64 110]) (.returned (.tuple #[tv (0, 0), .int .i64 110])) w' := fun w' hw =>
        ⟨rfl, _, ⟨HasWin.fr ⟨va1, vb1, ⟨hp1, ha1, hb1, hpa1, hpb1, hab1⟩, rfl⟩ hw (fun k hk => by simp; rintro rfl; exact hnr hk), hF.stay _ _ _ _ hJ1 hw (fun k hk => by have := Hlo.out _ hk; simp; omega), hoff1⟩, hfrw.trans hw (by intro j hj; simp at hj; subst hj; exact .inr (Nat.le_refl _)), hLw⟩
      have Hfin := Lib.hid hfin
      have Hpv := Lib.hid hpv; have Hcut := Lib.hid hcut; clear hfin hpv hcut hA1 hp1 ha1 hb1 hva1 hz1 hres hJ1 hoff1 hfrw hLw hnr
      go_wp2
      rw [Hst.out, Hcut.out]
      unfold popV
      rw [Hpv.out]
      refine bodyPost_ret (v := .tuple #[tv (0, 0), .int .i64 110]) (by simp [results, Try.results21, go_sem, r0, r1, hrl2]) rfl (Hfin.out _ ?_)
      exact (((World.Fr.refl w2 [w.heap.size]).setCell (by simp) _).setCell (by simp) _).alloc _
    · rw [List.concat_eq_append] at hA1
      have hpv : popT s1 = (q.1, 0) := by unfold popT; rw [hA1]; simp
      have hn : s1.ahead.length = a0.length + 1 := by rw [hA1]; simp
      obtain ⟨g, off, c, he, hnc, _, hgl, hcells, _⟩ := ha1.form (by omega)
      have hq1 := hcells (4 * a0.length) (by rw [hn]; simp; omega)
      have hq2 := hcells (4 * a0.length + 1) (by rw [hn]; simp; omega)
      rw [hA1, ← Nat.add_zero (4 * a0.length), pairT_get, show off + (4 * a0.length + 0) = off + a0.length * 4 from by omega] at hq1
      rw [hA1, pairT_get, show off + (4 * a0.length + 1) = off + a0.length * 4 + 1 from by omega] at hq2
      simp only [Kind.pair, List.cons_append, List.nil_append, List.getElem?_cons_succ, List.getElem?_cons_zero] at hq1 hq2
      have hgl1 : g < w2.heap.size + 1 := by omega
      have hgne : ¬ g = w.heap.size := fun e => hnr (by simp [foot, he, Value.blk, e])
      have hend := fun w' => popT_end (w' := w') hF ⟨hp1, ha1, hb1, hpa1, hpb1, hab1⟩ hJ1 hA1 (by rw [he, hn]) hfrw hLw hoff1 hnr (fun hk => by have := Hlo.out _ hk; omega) (Nat.le_refl _)
      rw [he, hn] at h3
      rw [hn] at hnc
      have hnc : a0.length ≤ c := by omega
      have Hend := Lib.hid hend; clear hend
      have hnl : a0.length < 1000000 := by omega
      have Hpv := Lib.hid hpv; clear hpv hA1 ha1 hb1 hva1 hn he hcells hres hJ1 hoff1 hfrw hLw hnr hs1l
      have Hp1 := Lib.hid hp1; clear hp1
      generalize a0.length = n at *
      have hs1 : IntKind.i64.wrap ((n : Int) + 1 - 1) = n := by rw [IntWalk.i64_in _ (by omega)]; omega
      have hs2 : IntKind.i64.wrap (n : Int) = n := IntWalk.i64_in _ (by omega)
      have hs3 : (n : Int) < n + 1 := by omega
      have hs4 : ((n : Int) + 1 == 0) = false := beq_eq_false_iff_ne.2 (by omega)
      go_wp2
      rw [Hst.out]
      unfold popV
      rw [Hpv.out]
      refine bodyPost_ret (v := .tuple #[tv q.1, .int .i64 0]) (by simp [results, Try.results21, go_sem, r0, r1, hrl2]) rfl (Hend.out _ ?_)
      exact ((((World.Fr.refl _ [w.heap.size]).setCell (by simp) _).setCell (by simp) _).alloc _)
  · have hst : s.turned f = s := by unfold WSt.turned; rw [if_neg hA]
    rcases List.eq_nil_or_concat s.ahead with hA1 | ⟨a0, q, hA1⟩
    · exact absurd hA1 hA
    · rw [List.concat_eq_append] at hA1
      obtain ⟨hp1, ha1, hb1, hpa1, hpb1, hab1⟩ := h
      obtain ⟨h0, h1, h2, h3, h4, h5, h6, h7, hf⟩ := eight hp1
      have hpv : popT s = (q.1, 0) := by unfold popT; rw [hA1]; simp
      have hn : s.ahead.length = a0.length + 1 := by rw [hA1]; simp
      obtain ⟨g, off, c, he, hnc, _, hgl, hcells, _⟩ := ha1.form (by omega)
      have hq1 := hcells (4 * a0.length) (by rw [hn]; simp; omega)
      have hq2 := hcells (4 * a0.length + 1) (by rw [hn]; simp; omega)
      rw [hA1, ← Nat.add_zero (4 * a0.length), pairT_get, show off + (4 * a0.length + 0) = off + a0.length * 4 from by omega] at hq1
      rw [hA1, pairT_get, show off + (4 * a0.length + 1) = off + a0.length * 4 + 1 from by omega] at hq2
      simp only [Kind.pair, List.cons_append, List.nil_append, List.getElem?_cons_succ, List.getElem?_cons_zero] at hq1 hq2
      have hgl1 : g < w.heap.size + 1 := by omega
      have hnr : w.heap.size ∉ foot p va vb := fun hk => by have := HLlt.out _ hk; omega
      have hend := fun w' => popT_end (w := w) (w' := w') (L := foot p va vb) hF ⟨hp1, ha1, hb1, hpa1, hpb1, hab1⟩ hJ hA1 (by rw [he, hn]) (World.Fr.refl w _) (fun k hk => .inl hk) hoff hnr (fun hk => by have := Hlo.out _ hk; omega) (Nat.le_refl _)
      rw [he, hn] at h3
      rw [hn] at hnc
      have hnc : a0.length ≤ c := by omega
      have hnl : a0.length < 1000000 := by unfold WSt.len at hl; omega
      have Hend := Lib.hid hend; clear hend
      have Hst := Lib.hid hst; have HA := Lib.hid hA; have Hl := Lib.hid hl; have Ht := Lib.hid ht; have HJ := Lib.hid hJ; have Hoff := Lib.hid hoff; clear hst hA hl ht hJ hoff
      have Hpv := Lib.hid hpv; have HA1 := Lib.hid hA1; have Hp1 := Lib.hid hp1; have Ha1 := Lib.hid ha1; have Hb1 := Lib.hid hb1; have Hn := Lib.hid hn; have He := Lib.hid he; clear hpv hA1 hp1 ha1 hb1 hn he hcells hnr
      generalize a0.length = n at *
      have hs1 : IntKind.i64.wrap ((n : Int) + 1 - 1) = n := by rw [IntWalk.i64_in _ (by omega)]; omega
      have hs2 : IntKind.i64.wrap (n : Int) = n := IntWalk.i64_in _ (by omega)
      have hs3 : (n : Int) < n + 1 := by omega
      have hs4 : ((n : Int) + 1 == 0) = false := beq_eq_false_iff_ne.2 (by omega)
      go_enter Try.func21, Try.ntmps21
      go_wp2
      rw [Hst.out]
      unfold popV
      rw [Hpv.out]
      refine bodyPost_ret (v := .tuple #[tv q.1, .int .i64 0]) (by simp [results, Try.results21, go_sem]) rfl (Hend.out _ ?_)
      exact ((World.Fr.refl _ _).alloc _).alloc _

theorem new7 (hF : OpOk F cap f J Lo ok) (no : T) (w : World) (hJ : J 0 w) :
    Calls Try.prog 7 #[fc F cap, tv no] w fun e w' => ∃ p, e = .returned (.pointer (some ⟨p, 0, none⟩)) ∧ THas F cap J Lo w' p { nothing := no, ahead := [], behind := [], sum := (0, 0), calls := 0 } [p] ∧ w.Fr w' [] ∧ w.heap.size ≤ p := by
  have hlo := hF.lo _ _ hJ
  have Hlo := Lib.hid hlo; have HJ := Lib.hid hJ; clear hlo hJ
  go_enter Try.func7, Try.ntmps7
  go_wp2
  go_ret
  have hfr : ∀ o1 o2, w.Fr ((w.alloc o1).alloc o2) [] := fun o1 o2 => ((World.Fr.refl w []).alloc _).alloc _
  refine ⟨w.heap.size + 1, rfl, ⟨⟨.slice none 0 0, .slice none 0 0, ⟨?_, World.Sl.nil _ _ _, World.Sl.nil _ _ _, by simp [Value.blk], by simp [Value.blk], by simp [Value.blk]⟩, rfl⟩, hF.stay _ _ _ [] HJ.out (hfr _ _) (by simp), ?_⟩, hfr _ _, by omega⟩
  · exact heap_alloc_at _ _ _ (by simp)
  · intro k hk; simp at hk; subst hk; exact fun h => by have := Hlo.out _ h; omega
end
end Go.Proofs.Ytikodccbecmjiaa
