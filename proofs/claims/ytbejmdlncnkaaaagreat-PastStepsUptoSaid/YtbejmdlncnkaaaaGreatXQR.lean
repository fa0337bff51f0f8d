/-
  The reference of the past: Prev, Once, Since. The reference of the past, as it lies.
-/
import Derived.Test.YtbejmdlncnkaaaaGreatFuD
import Derived.Test.YtbejmdlncnkaaaaGreatXQH
set_option maxRecDepth 100000
set_option maxHeartbeats 16000000
set_option linter.unusedSimpArgs false
namespace Go.Proofs.YtbejmdlncnkaaaaGreat
section
open Go.RowKit
def MadeP (Q : Nat -> Prop) (w w' : World) (kind : Int) (i : Iv) (nt : Bool) (l r : List BA) (p : Value) : Prop :=
 beginE i l r ≠ 0 /\ p = .pointer none ∨ beginE i l r = 0 /\ ∃ k vl vr, p = .pointer (some ⟨k, 0, none⟩) /\ w.heap.size <= k /\ w'.heap[k]? = some (.cells (rcells10 kind i nt vl vr (.slice none 0 0) (.slice none 0 0) (.slice none 0 0)) 107 (0, 0)) /\ NamesIn Q w' vl (sortS l) /\ NamesIn Q w' vr (sortS r)
theorem makeP136 {cf : V -> V -> Int} (hRC : RCtx cf) {Q : Nat -> Prop} {w : World} (hQ : ∀ k, w.heap.size <= k -> Q k) {kind : Int} {i : Iv} {nt : Bool} {v1 v2 : Value} {l r : List BA} (h1 : RdStr w v1 l) (h2 : RdStr w v2 r) (hl : l.length <= 8796093021952) (hr : r.length <= 8796093021952) :
  Calls Tryz.prog 136 #[.int .i64 kind, ivV i, .bool nt, v1, v2] w fun e w' => (∃ p, e = .returned (.tuple #[p, .int .i64 (beginE i l r)]) /\ MadeP Q w w' kind i nt l r p) /\ w.Fr w' [] :=
 make136 hRC hQ h1 h2 hl hr
theorem rprev71 {cf : V -> V -> Int} (hRC : RCtx cf) {Q : Nat -> Prop} {w : World} (hQ : ∀ k, w.heap.size <= k -> Q k) {i : Iv} {v2 : Value} {r : List BA} (h2 : RdStr w v2 r) (hr : r.length <= 8796093021952) :
  Calls Tryz.prog 71 #[ivV i, v2] w fun e w' => (∃ p, e = .returned (.tuple #[p, .int .i64 (beginE i [] r)]) /\ MadeP Q w w' 11 i false [] r p) /\ w.Fr w' [] := by
 obtain ⟨lo, hi, op⟩ := i
 have q1 := heap_alloc_at w (.cells #[.int .i64 lo, .int .i64 hi, .bool op] 23) _ rfl
 have f1 := (World.Fr.refl w []).alloc (.cells #[.int .i64 lo, .int .i64 hi, .bool op] 23)
 have hc := makeP136 hRC (Q := Q) (w := w.alloc (.cells #[.int .i64 lo, .int .i64 hi, .bool op] 23)) (fun k hk => hQ k (by have := f1.size; omega)) (kind := 11) (i := ⟨lo, hi, op⟩) (nt := false) (RdStr.none _) (h2.fr f1 (by simp)) (by simp) hr
 have hmk : ∀ w' p, MadeP Q (w.alloc (.cells #[.int .i64 lo, .int .i64 hi, .bool op] 23)) w' 11 ⟨lo, hi, op⟩ false [] r p -> MadeP Q w w' 11 ⟨lo, hi, op⟩ false [] r p := fun w' p h => h.elim .inl (fun ⟨h0, k, vl, vr, h1, h2, h3⟩ => .inr ⟨h0, k, vl, vr, h1, Nat.le_trans f1.size h2, h3⟩)
 obtain ⟨c0, c1, c2, cf0⟩ := tri q1
 have hz := lt_of_heap q1
 have Hc := Hz hc; have F := Hz f1; have Hmk := Hz hmk
 clear hc f1 q1 h2 hr hRC hQ hmk
 obtain ⟨R, hR⟩ : ∃ R, beginE ⟨lo, hi, op⟩ [] r = R := ⟨_, rfl⟩
 rw [hR] at Hc
 rw [hR]
 clear hR
 go_enter Tryz.func71, Tryz.ntmps71
 go_upto_region 1 with (fail)
 generalize hW : World.alloc w _ = W at *
 clear hW
 go_wp2_with fail
 (with_reducible refine Hc.out.mono ?_)
 rintro e w1 ⟨⟨p, rfl, hp⟩, fx⟩
 have F := Hz (F.out.trans fx (by simp))
 have Hp := Hz hp
 clear hp fx c0 c1 c2 cf0 hz
 go_wp2
 exact bodyPost_ret (v := .tuple #[p, .int .i64 R]) (by simp [results, Tryz.results71, go_sem]) rfl ⟨⟨p, rfl, Hmk.out _ _ Hp.out⟩, F.out⟩
theorem ronce69 {cf : V -> V -> Int} (hRC : RCtx cf) {Q : Nat -> Prop} {w : World} (hQ : ∀ k, w.heap.size <= k -> Q k) {i : Iv} {v2 : Value} {r : List BA} (h2 : RdStr w v2 r) (hr : r.length <= 8796093021952) :
  Calls Tryz.prog 69 #[ivV i, v2] w fun e w' => (∃ p, e = .returned (.tuple #[p, .int .i64 (beginE i [] r)]) /\ MadeP Q w w' 13 i false [] r p) /\ w.Fr w' [] := by
 obtain ⟨lo, hi, op⟩ := i
 have q1 := heap_alloc_at w (.cells #[.int .i64 lo, .int .i64 hi, .bool op] 23) _ rfl
 have f1 := (World.Fr.refl w []).alloc (.cells #[.int .i64 lo, .int .i64 hi, .bool op] 23)
 have hc := makeP136 hRC (Q := Q) (w := w.alloc (.cells #[.int .i64 lo, .int .i64 hi, .bool op] 23)) (fun k hk => hQ k (by have := f1.size; omega)) (kind := 13) (i := ⟨lo, hi, op⟩) (nt := false) (RdStr.none _) (h2.fr f1 (by simp)) (by simp) hr
 have hmk : ∀ w' p, MadeP Q (w.alloc (.cells #[.int .i64 lo, .int .i64 hi, .bool op] 23)) w' 13 ⟨lo, hi, op⟩ false [] r p -> MadeP Q w w' 13 ⟨lo, hi, op⟩ false [] r p := fun w' p h => h.elim .inl (fun ⟨h0, k, vl, vr, h1, h2, h3⟩ => .inr ⟨h0, k, vl, vr, h1, Nat.le_trans f1.size h2, h3⟩)
 obtain ⟨c0, c1, c2, cf0⟩ := tri q1
 have hz := lt_of_heap q1
 have Hc := Hz hc; have F := Hz f1; have Hmk := Hz hmk
 clear hc f1 q1 h2 hr hRC hQ hmk
 obtain ⟨R, hR⟩ : ∃ R, beginE ⟨lo, hi, op⟩ [] r = R := ⟨_, rfl⟩
 rw [hR] at Hc
 rw [hR]
 clear hR
 go_enter Tryz.func69, Tryz.ntmps69
 go_upto_region 1 with (fail)
 generalize hW : World.alloc w _ = W at *
 clear hW
 go_wp2_with fail
 (with_reducible refine Hc.out.mono ?_)
 rintro e w1 ⟨⟨p, rfl, hp⟩, fx⟩
 have F := Hz (F.out.trans fx (by simp))
 have Hp := Hz hp
 clear hp fx c0 c1 c2 cf0 hz
 go_wp2
 exact bodyPost_ret (v := .tuple #[p, .int .i64 R]) (by simp [results, Tryz.results69, go_sem]) rfl ⟨⟨p, rfl, Hmk.out _ _ Hp.out⟩, F.out⟩
theorem rsince70 {cf : V -> V -> Int} (hRC : RCtx cf) {Q : Nat -> Prop} {w : World} (hQ : ∀ k, w.heap.size <= k -> Q k) {i : Iv} {nt : Bool} {v1 v2 : Value} {l r : List BA} (h1 : RdStr w v1 l) (h2 : RdStr w v2 r) (hl : l.length <= 8796093021952) (hr : r.length <= 8796093021952) :
  Calls Tryz.prog 70 #[ivV i, .bool nt, v1, v2] w fun e w' => (∃ p, e = .returned (.tuple #[p, .int .i64 (beginE i l r)]) /\ MadeP Q w w' 15 i nt l r p) /\ w.Fr w' [] := by
 obtain ⟨lo, hi, op⟩ := i
 have q1 := heap_alloc_at w (.cells #[.int .i64 lo, .int .i64 hi, .bool op] 23) _ rfl
 have f1 := (World.Fr.refl w []).alloc (.cells #[.int .i64 lo, .int .i64 hi, .bool op] 23)
 have hc := makeP136 hRC (Q := Q) (w := w.alloc (.cells #[.int .i64 lo, .int .i64 hi, .bool op] 23)) (fun k hk => hQ k (by have := f1.size; omega)) (kind := 15) (i := ⟨lo, hi, op⟩) (nt := nt) (h1.fr f1 (by simp)) (h2.fr f1 (by simp)) hl hr
 have hmk : ∀ w' p, MadeP Q (w.alloc (.cells #[.int .i64 lo, .int .i64 hi, .bool op] 23)) w' 15 ⟨lo, hi, op⟩ nt l r p -> MadeP Q w w' 15 ⟨lo, hi, op⟩ nt l r p := fun w' p h => h.elim .inl (fun ⟨h0, k, vl, vr, h1, h2, h3⟩ => .inr ⟨h0, k, vl, vr, h1, Nat.le_trans f1.size h2, h3⟩)
 obtain ⟨c0, c1, c2, cf0⟩ := tri q1
 have hz := lt_of_heap q1
 have Hc := Hz hc; have F := Hz f1; have Hmk := Hz hmk
 clear hc f1 q1 h2 h1 hl hr hRC hQ hmk
 obtain ⟨R, hR⟩ : ∃ R, beginE ⟨lo, hi, op⟩ l r = R := ⟨_, rfl⟩
 rw [hR] at Hc
 rw [hR]
 clear hR
 go_enter Tryz.func70, Tryz.ntmps70
 go_upto_region 1 with (fail)
 generalize hW : World.alloc w _ = W at *
 clear hW
 go_wp2_with fail
 (with_reducible refine Hc.out.mono ?_)
 rintro e w1 ⟨⟨p, rfl, hp⟩, fx⟩
 have F := Hz (F.out.trans fx (by simp))
 have Hp := Hz hp
 clear hp fx c0 c1 c2 cf0 hz
 go_wp2
 exact bodyPost_ret (v := .tuple #[p, .int .i64 R]) (by simp [results, Tryz.results70, go_sem]) rfl ⟨⟨p, rfl, Hmk.out _ _ Hp.out⟩, F.out⟩
end
section
open Go.RowKit
structure RefP (w0 w : World) (p : Nat) (S : RP) (vl vr vt vL vR : Value) : Prop where
 box : w.heap[p]? = some (.cells (rcells10 S.kind S.i S.nt vl vr vt vL vR) 107 (0, 0))
 nl : NamesIn anyB w vl S.left
 nr : NamesIn anyB w vr S.right
 ts : w.Sl 2 1 vt S.T.length (tms S.T)
 l : Hdr w0 w vL S.L
 r : Hdr w0 w vR S.R
 dj : ∀ k, k ∈ vL.blk -> k ∉ vR.blk
 new : ∀ k, k ∈ p :: (vt.blk ++ (vL.blk ++ vR.blk)) -> w0.heap.size <= k
 fr : w0.Fr w []
theorem RefP.still {w0 w w' : World} {p : Nat} {S : RP} {vl vr vt vL vR : Value} (h : RefP w0 w p S vl vr vt vL vR) (hf : w.Fr w' []) : RefP w0 w' p S vl vr vt vL vR :=
 ⟨hf.heap h.box (by simp), h.nl.still hf, h.nr.still hf, h.ts.fr hf (by simp), h.l.still hf, h.r.still hf, h.dj, h.new, h.fr.trans hf (by simp)⟩
theorem RefP.setT {w0 w w1 : World} {p : Nat} {S : RP} {vl vr vt vt' vL vR : Value} {n : Int} (h : RefP w0 w p S vl vr vt vL vR) (hf : w.Fr w1 vt.blk) (hs : w1.Sl 2 1 vt' (S.T.length + 1) (tms S.T ++ [.int .i64 n])) (hn : ∀ k, k ∈ vt'.blk -> k ∈ vt.blk ∨ w.heap.size <= k) :
  RefP w0 (w1.setCell ⟨p, 7, none⟩ vt') p { S with T := S.T ++ [n] } vl vr vt' vL vR := by
 obtain ⟨xl, hl⟩ := h.l.sl
 obtain ⟨xr, hr⟩ := h.r.sl
 have hb1 := hf.heap h.box (Sl.off_box h.ts h.box (by decide))
 have hset : w1.Fr (w1.setCell ⟨p, 7, none⟩ vt') [p] := (World.Fr.refl w1 [p]).setCell (a := ⟨p, 7, none⟩) (.inl (by simp)) _
 have hp : ∀ {e : TypeId} {size n : Nat} {v : Value} {xs : List Value}, w1.Sl e size v n xs -> e ≠ 107 -> ∀ k, k ∈ v.blk -> k ∉ [p] := fun hs he k hk hm => by
  simp at hm
  subst hm
  exact Sl.off_box hs hb1 he hk
 have hl1 := h.l.fr hf (Sl.apart hl h.ts (by decide))
 have hr1 := h.r.fr hf (Sl.apart hr h.ts (by decide))
 obtain ⟨xl1, hl2⟩ := hl1.sl
 obtain ⟨xr1, hr2⟩ := hr1.sl
 have hnl := h.nl.sl.fr hf (Sl.apart h.nl.sl h.ts (by decide))
 have hnr := h.nr.sl.fr hf (Sl.apart h.nr.sl h.ts (by decide))
 refine ⟨heap_set_same hb1 7 vt', ⟨hnl.fr hset (hp hnl (by decide)), h.nl.wf, h.nl.blk⟩, ⟨hnr.fr hset (hp hnr (by decide)), h.nr.wf, h.nr.blk⟩, ?_, hl1.fr hset (hp hl2 (by decide)), hr1.fr hset (hp hr2 (by decide)), h.dj, fun k hk => ?_, ?_⟩
 ·have := hs.fr hset (hp hs (by decide))
  simpa [tms] using this
 ·simp only [List.mem_cons, List.mem_append] at hk
  rcases hk with rfl | hk | hk
  ·exact h.new _ (by simp)
  ·rcases hn k hk with h1 | h1
   ·exact h.new k (by simp [h1])
   ·exact Nat.le_trans h.fr.size h1
  ·exact h.new k (by simp [hk])
 ·exact (h.fr.trans hf (fun k hk => .inr (h.new k (by simp [hk])))).trans hset (fun k hk => .inr (by simp at hk; subst hk; exact h.new k (by simp)))
theorem RefP.setL {w0 w w1 : World} {p : Nat} {S : RP} {vl vr vt vL vL' vR : Value} {a : Tb} (h : RefP w0 w p S vl vr vt vL vR) (hf : w.Fr w1 vL.blk) (hs : Hdr w0 w1 vL' (S.L ++ [a])) (hn : ∀ k, k ∈ vL'.blk -> k ∈ vL.blk ∨ w.heap.size <= k) :
  RefP w0 (w1.setCell ⟨p, 8, none⟩ vL') p { S with L := S.L ++ [a] } vl vr vt vL' vR := by
 obtain ⟨xl, hl⟩ := h.l.sl
 obtain ⟨xr, hr⟩ := h.r.sl
 obtain ⟨xs, hss⟩ := hs.sl
 have hb1 := hf.heap h.box (Sl.off_box hl h.box (by decide))
 have hset : w1.Fr (w1.setCell ⟨p, 8, none⟩ vL') [p] := (World.Fr.refl w1 [p]).setCell (a := ⟨p, 8, none⟩) (.inl (by simp)) _
 have hp : ∀ {e : TypeId} {size n : Nat} {v : Value} {xs : List Value}, w1.Sl e size v n xs -> e ≠ 107 -> ∀ k, k ∈ v.blk -> k ∉ [p] := fun hs he k hk hm => by
  simp at hm
  subst hm
  exact Sl.off_box hs hb1 he hk
 have ht1 := h.ts.fr hf (Sl.apart h.ts hl (by decide))
 have hr1 := h.r.fr hf (fun k hk hm => h.dj k hm hk)
 obtain ⟨xr1, hr2⟩ := hr1.sl
 have hnl := h.nl.sl.fr hf (Sl.apart h.nl.sl hl (by decide))
 have hnr := h.nr.sl.fr hf (Sl.apart h.nr.sl hl (by decide))
 refine ⟨heap_set_same hb1 8 vL', ⟨hnl.fr hset (hp hnl (by decide)), h.nl.wf, h.nl.blk⟩, ⟨hnr.fr hset (hp hnr (by decide)), h.nr.wf, h.nr.blk⟩, ht1.fr hset (hp ht1 (by decide)), hs.fr hset (hp hss (by decide)), hr1.fr hset (hp hr2 (by decide)), fun k hk hm => ?_, fun k hk => ?_, ?_⟩
 ·rcases hn k hk with h1 | h1
  ·exact h.dj k h1 hm
  ·have := hr.lt k hm; omega
 ·simp only [List.mem_cons, List.mem_append] at hk
  rcases hk with rfl | hk | hk | hk
  ·exact h.new _ (by simp)
  ·exact h.new k (by simp [hk])
  ·rcases hn k hk with h1 | h1
   ·exact h.new k (by simp [h1])
   ·exact Nat.le_trans h.fr.size h1
  ·exact h.new k (by simp [hk])
 ·exact (h.fr.trans hf (fun k hk => .inr (h.new k (by simp [hk])))).trans hset (fun k hk => .inr (by simp at hk; subst hk; exact h.new k (by simp)))
theorem RefP.setR {w0 w w1 : World} {p : Nat} {S : RP} {vl vr vt vL vR vR' : Value} {a : Tb} (h : RefP w0 w p S vl vr vt vL vR) (hf : w.Fr w1 vR.blk) (hs : Hdr w0 w1 vR' (S.R ++ [a])) (hn : ∀ k, k ∈ vR'.blk -> k ∈ vR.blk ∨ w.heap.size <= k) :
  RefP w0 (w1.setCell ⟨p, 9, none⟩ vR') p { S with R := S.R ++ [a] } vl vr vt vL vR' := by
 obtain ⟨xl, hl⟩ := h.l.sl
 obtain ⟨xr, hr⟩ := h.r.sl
 obtain ⟨xs, hss⟩ := hs.sl
 have hb1 := hf.heap h.box (Sl.off_box hr h.box (by decide))
 have hset : w1.Fr (w1.setCell ⟨p, 9, none⟩ vR') [p] := (World.Fr.refl w1 [p]).setCell (a := ⟨p, 9, none⟩) (.inl (by simp)) _
 have hp : ∀ {e : TypeId} {size n : Nat} {v : Value} {xs : List Value}, w1.Sl e size v n xs -> e ≠ 107 -> ∀ k, k ∈ v.blk -> k ∉ [p] := fun hs he k hk hm => by
  simp at hm
  subst hm
  exact Sl.off_box hs hb1 he hk
 have ht1 := h.ts.fr hf (Sl.apart h.ts hr (by decide))
 have hl1 := h.l.fr hf h.dj
 obtain ⟨xl1, hl2⟩ := hl1.sl
 have hnl := h.nl.sl.fr hf (Sl.apart h.nl.sl hr (by decide))
 have hnr := h.nr.sl.fr hf (Sl.apart h.nr.sl hr (by decide))
 refine ⟨heap_set_same hb1 9 vR', ⟨hnl.fr hset (hp hnl (by decide)), h.nl.wf, h.nl.blk⟩, ⟨hnr.fr hset (hp hnr (by decide)), h.nr.wf, h.nr.blk⟩, ht1.fr hset (hp ht1 (by decide)), hl1.fr hset (hp hl2 (by decide)), hs.fr hset (hp hss (by decide)), fun k hk hm => ?_, fun k hk => ?_, ?_⟩
 ·rcases hn k hm with h1 | h1
  ·exact h.dj k hk h1
  ·have := hl.lt k hk; omega
 ·simp only [List.mem_cons, List.mem_append] at hk
  rcases hk with rfl | hk | hk | hk
  ·exact h.new _ (by simp)
  ·exact h.new k (by simp [hk])
  ·exact h.new k (by simp [hk])
  ·rcases hn k hk with h1 | h1
   ·exact h.new k (by simp [h1])
   ·exact Nat.le_trans h.fr.size h1
 ·exact (h.fr.trans hf (fun k hk => .inr (h.new k (by simp [hk])))).trans hset (fun k hk => .inr (by simp at hk; subst hk; exact h.new k (by simp)))
structure ROutP (cf : V -> V -> Int) (w0 w w' : World) (p : Nat) (S : RP) (vl vr vt vL vR : Value) (n : Int) (ts : List Tb) (u : Value) (S' : RP) (vt' vL' vR' : Value) : Prop where
 ref : RefP w0 w' p S' vl vr vt' vL' vR'
 ok : RPOk cf S'
 told : TT w0 w' u (stepP cf (S.X cf) n ts).2.1
 eq : (stepP cf (S.X cf) n ts).2.2 = S'.X cf
 fr : w.Fr w' (p :: (vt.blk ++ (vL.blk ++ vR.blk)))
 len : S'.T.length <= S.T.length + 1
 own : ∀ k, k ∈ vt'.blk ++ (vL'.blk ++ vR'.blk) -> k ∈ vt.blk ++ (vL.blk ++ vR.blk) ∨ w.heap.size <= k
theorem rpush_okP {cf : V -> V -> Int} (hRC : RCtx cf) {S : RP} {n : Int} {ts : List Tb} {ta tb : Tb} (hO : RPOk cf S) (he : wrongP cf (S.X cf) n ts = 0) (hf : ∀ t, t ∈ ts -> Fits V.wf t) (hr : wrongP cf (S.X cf) n ts = 0 -> ∀ t, t ∈ ts -> t.rows.length <= 600) (hm : S.T.length + 1 <= 1000) (h0 : ts[0]? = some ta) (h1 : ts[ts.length - 1]? = some tb) :
  RPOk cf (S.push n ta tb) /\ stepP cf (S.X cf) n ts = (0, (S.push n ta tb).tell cf n, (S.push n ta tb).X cf) /\ 0 <= n /\ n <= 1099511627776 := by
 have hp : S.parts = 1 ∨ S.parts = 2 := by unfold RP.parts; split <;> simp
 obtain ⟨z1, z2, _, _, h5, _⟩ := wrongE_zero (S := (S.X cf).ps) hp he
 have e1 : firstT ts = ta := by unfold firstT; rw [List.getD_eq_getElem?_getD, h0]; rfl
 have e2 : lastT ts = tb := by unfold lastT; rw [List.getD_eq_getElem?_getD, h1]; rfl
 have hg : ∀ t, t ∈ ts -> Good cf t /\ t.rows.length <= 600 := fun t ht => ⟨good_of hRC.ord (h5 t ht) (hf t ht).ok, hr he t ht⟩
 have k1 := hO.push hm he hg
 have k2 := RP.step hRC.ord hO hm he hg
 rw [e1, e2] at k1 k2
 exact ⟨k1, k2, z1, z2⟩
theorem RdTab.nil (w : World) : RdTab w (.agg #[.slice none 0 0, .slice none 0 0]) ⟨[], []⟩ := (TabIn.none (fun _ => True) w).rd
end
end Go.Proofs.YtbejmdlncnkaaaaGreat
