/-
  The reference of the future: what its stores leave, and the points that it tells. A region that draws its order and ends in a store into a cell that it loads: a condition on the world that need not hold behind the last operation.
-/
import Derived.Test.YtbejmdlncnkaaaaGreatFuG
import Derived.Test.YtbejmdlncnkaaaaGreatXF19
import Derived.Test.YtbejmdlncnkaaaaGreatFuF
import Derived.Deep.RegionHeld3
namespace Go.Proofs.YtbejmdlncnkaaaaGreat
open Go.RowKit
theorem World.Sl.cut {w : World} {e : TypeId} {size n c : Nat} {a : Option Addr} {xs : List Value} (h : w.Sl e size (.slice a n c) n xs) : w.Sl e size (.slice a n n) n xs := by
 refine ⟨h.1, ?_⟩
 rcases h.2 with ⟨he, h0⟩ | ⟨g, off, cap, cur, he, hg, h1, h2, h3, h4⟩
 ·cases he
  exact .inl ⟨rfl, rfl⟩
 ·cases he
  exact .inr ⟨g, off, n, cur, rfl, hg, Nat.le_refl _, Nat.le_trans h1 h2, by have := Nat.mul_le_mul_right size h1; omega, h4⟩
theorem RefF.odd {w0 w : World} {p : Nat} {S : RF} {vl vr vt vL vR : Value} (h : RefF w0 w p S vl vr vt vL vR) : Odd w (p :: (vt.blk ++ (vL.blk ++ vR.blk))) := by
 have hs : ∀ {e : TypeId} {size : Nat} {v : Value} {n : Nat} {xs : List Value}, w.Sl e size v n xs -> e ≠ 9 -> e ≠ 81 -> e ≠ 83 -> ∀ k, k ∈ v.blk -> ∃ cs T, w.heap[k]? = some (.cells cs T (0, 0)) /\ T ≠ 9 /\ T ≠ 81 /\ T ≠ 83 := fun hs h1 h2 h3 k hk => by
  rcases hs.2 with ⟨rfl, _⟩ | ⟨g, off, cap, cur, rfl, hg, _⟩
  ·simp [Value.blk] at hk
  ·simp [Value.blk] at hk
   subst hk
   exact ⟨_, _, hg, h1, h2, h3⟩
 intro k hk
 simp only [List.mem_cons, List.mem_append] at hk
 rcases hk with rfl | hk | hk | hk
 ·exact ⟨_, _, h.box, by decide, by decide, by decide⟩
 ·exact hs h.ts (by decide) (by decide) (by decide) k hk
 ·obtain ⟨hd, h1, _⟩ := h.l.ex
  exact hs h1 (by decide) (by decide) (by decide) k hk
 ·obtain ⟨hd, h1, _⟩ := h.r.ex
  exact hs h1 (by decide) (by decide) (by decide) k hk
theorem Sl.ty {w : World} {e : TypeId} {size n : Nat} {v : Value} {xs : List Value} (h : w.Sl e size v n xs) : ∀ k, k ∈ v.blk -> ∃ cs, w.heap[k]? = some (.cells cs e (0, 0)) := by
 intro k hk
 rcases h.2 with ⟨rfl, _⟩ | ⟨g, off, cap, cur, rfl, hg, _⟩
 ·simp [Value.blk] at hk
 ·simp [Value.blk] at hk
  subst hk
  exact ⟨_, hg⟩
theorem Sl.apart {w : World} {e e' : TypeId} {size n size' n' : Nat} {v v' : Value} {xs xs' : List Value} (h : w.Sl e size v n xs) (h' : w.Sl e' size' v' n' xs') (hne : e ≠ e') : ∀ k, k ∈ v.blk -> k ∉ v'.blk := by
 intro k hk hk'
 obtain ⟨c1, h1⟩ := Sl.ty h k hk
 obtain ⟨c2, h2⟩ := Sl.ty h' k hk'
 rw [h1] at h2
 cases h2
 exact hne rfl
theorem Sl.off_box {w : World} {e T : TypeId} {size n g : Nat} {v : Value} {xs : List Value} {cs : Array Value} (h : w.Sl e size v n xs) (hg : w.heap[g]? = some (.cells cs T (0, 0))) (hne : e ≠ T) : g ∉ v.blk := by
 intro hk
 obtain ⟨c1, h1⟩ := Sl.ty h g hk
 rw [h1] at hg
 cases hg
 exact hne rfl
theorem Hdr.sl {w0 w : World} {v : Value} {ts : List Tb} (h : Hdr w0 w v ts) : ∃ xs, w.Sl 34 2 v ts.length xs := by
 obtain ⟨hd, h1, _⟩ := h.ex
 exact ⟨_, h1⟩
theorem RefF.setT {w0 w w1 : World} {p : Nat} {S : RF} {vl vr vt vt' vL vR : Value} {n : Int} (h : RefF w0 w p S vl vr vt vL vR) (hf : w.Fr w1 vt.blk) (hs : w1.Sl 2 1 vt' (S.T.length + 1) (tms S.T ++ [.int .i64 n])) (hn : ∀ k, k ∈ vt'.blk -> k ∈ vt.blk ∨ w.heap.size <= k) :
  RefF w0 (w1.setCell ⟨p, 7, none⟩ vt') p { S with T := S.T ++ [n] } vl vr vt' vL vR := by
 obtain ⟨xl, hl⟩ := h.l.sl
 obtain ⟨xr, hr⟩ := h.r.sl
 have hb1 := hf.heap h.box (Sl.off_box h.ts h.box (by decide))
 have hset : w1.Fr (w1.setCell ⟨p, 7, none⟩ vt') [p] := (World.Fr.refl w1 [p]).setCell (a := ⟨p, 7, none⟩) (.inl (by simp)) _
 have hp : ∀ {e : TypeId} {size n : Nat} {v : Value} {xs : List Value}, w1.Sl e size v n xs -> e ≠ 128 -> ∀ k, k ∈ v.blk -> k ∉ [p] := fun hs he k hk hm => by
  simp at hm
  subst hm
  exact Sl.off_box hs hb1 he hk
 have hl1 := h.l.fr hf (Sl.apart hl h.ts (by decide))
 have hr1 := h.r.fr hf (Sl.apart hr h.ts (by decide))
 obtain ⟨xl1, hl2⟩ := hl1.sl
 obtain ⟨xr1, hr2⟩ := hr1.sl
 have hnl := h.nl.sl.fr hf (Sl.apart h.nl.sl h.ts (by decide))
 have hnr := h.nr.sl.fr hf (Sl.apart h.nr.sl h.ts (by decide))
 refine ⟨heap_set_same hb1 7 vt', ⟨hnl.fr hset (hp hnl (by decide)), h.nl.wf, h.nl.blk⟩, ⟨hnr.fr hset (hp hnr (by decide)), h.nr.wf, h.nr.blk⟩, ?_, hl1.fr hset (hp hl2 (by decide)), hr1.fr hset (hp hr2 (by decide)), h.dj, fun k hk => ?_, ?_⟩
 ·have := hs.fr hset (hp hs (by decide))
  simpa [tms] using this
 ·simp only [List.mem_cons, List.mem_append] at hk
  rcases hk with rfl | hk | hk
  ·exact h.new _ (by simp)
  ·rcases hn k hk with h1 | h1
   ·exact h.new k (by simp [h1])
   ·exact Nat.le_trans h.fr.size h1
  ·exact h.new k (by simp [hk])
 ·exact (h.fr.trans hf (fun k hk => .inr (h.new k (by simp [hk])))).trans hset (fun k hk => .inr (by simp at hk; subst hk; exact h.new k (by simp)))
theorem RefF.setL {w0 w w1 : World} {p : Nat} {S : RF} {vl vr vt vL vL' vR : Value} {a : Tb} (h : RefF w0 w p S vl vr vt vL vR) (hf : w.Fr w1 vL.blk) (hs : Hdr w0 w1 vL' (S.L ++ [a])) (hn : ∀ k, k ∈ vL'.blk -> k ∈ vL.blk ∨ w.heap.size <= k) :
  RefF w0 (w1.setCell ⟨p, 8, none⟩ vL') p { S with L := S.L ++ [a] } vl vr vt vL' vR := by
 obtain ⟨xl, hl⟩ := h.l.sl
 obtain ⟨xr, hr⟩ := h.r.sl
 obtain ⟨xs, hss⟩ := hs.sl
 have hb1 := hf.heap h.box (Sl.off_box hl h.box (by decide))
 have hset : w1.Fr (w1.setCell ⟨p, 8, none⟩ vL') [p] := (World.Fr.refl w1 [p]).setCell (a := ⟨p, 8, none⟩) (.inl (by simp)) _
 have hp : ∀ {e : TypeId} {size n : Nat} {v : Value} {xs : List Value}, w1.Sl e size v n xs -> e ≠ 128 -> ∀ k, k ∈ v.blk -> k ∉ [p] := fun hs he k hk hm => by
  simp at hm
  subst hm
  exact Sl.off_box hs hb1 he hk
 have ht1 := h.ts.fr hf (Sl.apart h.ts hl (by decide))
 have hr1 := h.r.fr hf (fun k hk hm => h.dj k hm hk)
 obtain ⟨xr1, hr2⟩ := hr1.sl
 have hnl := h.nl.sl.fr hf (Sl.apart h.nl.sl hl (by decide))
 have hnr := h.nr.sl.fr hf (Sl.apart h.nr.sl hl (by decide))
 refine ⟨heap_set_same hb1 8 vL', ⟨hnl.fr hset (hp hnl (by decide)), h.nl.wf, h.nl.blk⟩, ⟨hnr.fr hset (hp hnr (by decide)), h.nr.wf, h.nr.blk⟩, ht1.fr hset (hp ht1 (by decide)), hs.fr hset (hp hss (by decide)), hr1.fr hset (hp hr2 (by decide)), fun k hk hm => ?_, fun k hk => ?_, ?_⟩
 ·rcases hn k hk with h1 | h1
  ·exact h.dj k h1 hm
  ·have := hr.lt k hm; omega
 ·simp only [List.mem_cons, List.mem_append] at hk
  rcases hk with rfl | hk | hk | hk
  ·exact h.new _ (by simp)
  ·exact h.new k (by simp [hk])
  ·rcases hn k hk with h1 | h1
   ·exact h.new k (by simp [h1])
   ·exact Nat.le_trans h.fr.size h1
  ·exact h.new k (by simp [hk])
 ·exact (h.fr.trans hf (fun k hk => .inr (h.new k (by simp [hk])))).trans hset (fun k hk => .inr (by simp at hk; subst hk; exact h.new k (by simp)))
theorem RefF.setR {w0 w w1 : World} {p : Nat} {S : RF} {vl vr vt vL vR vR' : Value} {a : Tb} (h : RefF w0 w p S vl vr vt vL vR) (hf : w.Fr w1 vR.blk) (hs : Hdr w0 w1 vR' (S.R ++ [a])) (hn : ∀ k, k ∈ vR'.blk -> k ∈ vR.blk ∨ w.heap.size <= k) :
  RefF w0 (w1.setCell ⟨p, 9, none⟩ vR') p { S with R := S.R ++ [a] } vl vr vt vL vR' := by
 obtain ⟨xl, hl⟩ := h.l.sl
 obtain ⟨xr, hr⟩ := h.r.sl
 obtain ⟨xs, hss⟩ := hs.sl
 have hb1 := hf.heap h.box (Sl.off_box hr h.box (by decide))
 have hset : w1.Fr (w1.setCell ⟨p, 9, none⟩ vR') [p] := (World.Fr.refl w1 [p]).setCell (a := ⟨p, 9, none⟩) (.inl (by simp)) _
 have hp : ∀ {e : TypeId} {size n : Nat} {v : Value} {xs : List Value}, w1.Sl e size v n xs -> e ≠ 128 -> ∀ k, k ∈ v.blk -> k ∉ [p] := fun hs he k hk hm => by
  simp at hm
  subst hm
  exact Sl.off_box hs hb1 he hk
 have ht1 := h.ts.fr hf (Sl.apart h.ts hr (by decide))
 have hl1 := h.l.fr hf h.dj
 obtain ⟨xl1, hl2⟩ := hl1.sl
 have hnl := h.nl.sl.fr hf (Sl.apart h.nl.sl hr (by decide))
 have hnr := h.nr.sl.fr hf (Sl.apart h.nr.sl hr (by decide))
 refine ⟨heap_set_same hb1 9 vR', ⟨hnl.fr hset (hp hnl (by decide)), h.nl.wf, h.nl.blk⟩, ⟨hnr.fr hset (hp hnr (by decide)), h.nr.wf, h.nr.blk⟩, ht1.fr hset (hp ht1 (by decide)), hl1.fr hset (hp hl2 (by decide)), hs.fr hset (hp hss (by decide)), fun k hk hm => ?_, fun k hk => ?_, ?_⟩
 ·rcases hn k hm with h1 | h1
  ·exact h.dj k hk h1
  ·have := hl.lt k hk; omega
 ·simp only [List.mem_cons, List.mem_append] at hk
  rcases hk with rfl | hk | hk | hk
  ·exact h.new _ (by simp)
  ·exact h.new k (by simp [hk])
  ·exact h.new k (by simp [hk])
  ·rcases hn k hk with h1 | h1
   ·exact h.new k (by simp [h1])
   ·exact Nat.le_trans h.fr.size h1
 ·exact (h.fr.trans hf (fun k hk => .inr (h.new k (by simp [hk])))).trans hset (fun k hk => .inr (by simp at hk; subst hk; exact h.new k (by simp)))
theorem RefF.setTold {w0 w : World} {p : Nat} {S : RF} {vl vr vt vL vR : Value} (h : RefF w0 w p S vl vr vt vL vR) : RefF w0 (w.setCell ⟨p, 10, none⟩ (.int .i64 ((S.told + 1 : Nat) : Int))) p S.off vl vr vt vL vR := by
 obtain ⟨xl, hl⟩ := h.l.sl
 obtain ⟨xr, hr⟩ := h.r.sl
 have hset : w.Fr (w.setCell ⟨p, 10, none⟩ (.int .i64 ((S.told + 1 : Nat) : Int))) [p] := (World.Fr.refl w [p]).setCell (a := ⟨p, 10, none⟩) (.inl (by simp)) _
 have hp : ∀ {e : TypeId} {size n : Nat} {v : Value} {xs : List Value}, w.Sl e size v n xs -> e ≠ 128 -> ∀ k, k ∈ v.blk -> k ∉ [p] := fun hs he k hk hm => by
  simp at hm
  subst hm
  exact Sl.off_box hs h.box he hk
 exact ⟨heap_set_same h.box 10 _, ⟨h.nl.sl.fr hset (hp h.nl.sl (by decide)), h.nl.wf, h.nl.blk⟩, ⟨h.nr.sl.fr hset (hp h.nr.sl (by decide)), h.nr.wf, h.nr.blk⟩, h.ts.fr hset (hp h.ts (by decide)), h.l.fr hset (hp hl (by decide)), h.r.fr hset (hp hr (by decide)), h.dj, h.new, h.fr.trans hset (fun k hk => .inr (by simp at hk; subst hk; exact h.new k (by simp)))⟩
theorem rdns_one {w : World} {g : Nat} {a : Value} {l : List BA} (hg : w.heap[g]? = some (.cells #[a] 24 (0, 0))) (h : RdStr w a l) : RdNs w (.slice (some ⟨g, 0, none⟩) 1 1) [l] := by
 have hs : w.Sl 24 1 (.slice (some ⟨g, 0, none⟩) 1 1) 1 [a] := ⟨by simp, .inr ⟨g, 0, 1, _, rfl, hg, Nat.le_refl _, by simp [maxLen], by simp, by simp⟩⟩
 refine ⟨[a], rfl, hs.rd, fun i x l' e1 e2 => ?_⟩
 cases i with
 | zero => simp at e1 e2; subst e1 e2; exact h
 | succ i => simp at e1
theorem rdns_two {w : World} {g : Nat} {a b : Value} {l m : List BA} (hg : w.heap[g]? = some (.cells #[a, b] 24 (0, 0))) (h1 : RdStr w a l) (h2 : RdStr w b m) : RdNs w (.slice (some ⟨g, 0, none⟩) 2 2) [l, m] := by
 have hs : w.Sl 24 1 (.slice (some ⟨g, 0, none⟩) 2 2) 2 [a, b] := ⟨by simp, .inr ⟨g, 0, 2, _, rfl, hg, Nat.le_refl _, by simp [maxLen], by simp, by simp⟩⟩
 refine ⟨[a, b], rfl, hs.rd, fun i x l' e1 e2 => ?_⟩
 match i with
 | 0 => simp at e1 e2; subst e1 e2; exact h1
 | 1 => simp at e1 e2; subst e1 e2; exact h2
 | i + 2 => simp at e1
structure VdR (w0 w : World) (v : Value) (ks : List Vd) : Prop where
 sl : w.Sl 74 4 v ks.length (ks.flatMap Vd.cells)
 tab : ∀ k, k ∈ ks -> TT w0 w (.agg #[k.a, k.b]) k.t
theorem VdR.odd {w0 w : World} {v : Value} {ks : List Vd} (h : VdR w0 w v ks) : Odd w v.blk := by
 intro k hk
 obtain ⟨cs, hg⟩ := Sl.ty h.sl k hk
 exact ⟨_, _, hg, by decide, by decide, by decide⟩
theorem VdR.still {w0 w w' : World} {v : Value} {ks : List Vd} (h : VdR w0 w v ks) (hf : w.Fr w' []) : VdR w0 w' v ks :=
 ⟨h.sl.fr hf (by simp), fun k hk => (h.tab k hk).still hf⟩
theorem VdR.nil (w0 w : World) : VdR w0 w (.slice none 0 0) [] := ⟨World.Sl.nil _ _ _, by simp⟩
theorem VdR.shape {w0 w : World} {v : Value} {ks : List Vd} (h : VdR w0 w v ks) : ∃ a c, v = .slice a ks.length c := by
 obtain ⟨a, c, e, _⟩ := h.sl.shape
 exact ⟨a, c, e⟩
theorem RefF.frV {w0 w w' : World} {p : Nat} {S : RF} {vl vr vt vL vR v : Value} {n : Nat} {xs : List Value} (h : RefF w0 w p S vl vr vt vL vR) (hs : w.Sl 74 4 v n xs) (hf : w.Fr w' v.blk) (hn : ∀ k, k ∈ v.blk -> w0.heap.size <= k) : RefF w0 w' p S vl vr vt vL vR := by
 obtain ⟨xl, hl⟩ := h.l.sl
 obtain ⟨xr, hr⟩ := h.r.sl
 exact ⟨hf.heap h.box (Sl.off_box hs h.box (by decide)), ⟨h.nl.sl.fr hf (Sl.apart h.nl.sl hs (by decide)), h.nl.wf, h.nl.blk⟩, ⟨h.nr.sl.fr hf (Sl.apart h.nr.sl hs (by decide)), h.nr.wf, h.nr.blk⟩, h.ts.fr hf (Sl.apart h.ts hs (by decide)), h.l.fr hf (Sl.apart hl hs (by decide)), h.r.fr hf (Sl.apart hr hs (by decide)), h.dj, h.new, h.fr.trans hf (fun k hk => .inr (hn k hk))⟩
structure RInv (cf : V -> V -> Int) (w0 w wr : World) (p : Nat) (S1 S : RF) (vl vr vt vL vR vo : Value) (vs : List Vd) : Prop where
 ref : RefF w0 wr p S vl vr vt vL vR
 ok : RfOk S
 fok : FOk cf S.X
 told : VdR w0 wr vo vs
 new : ∀ k, k ∈ vo.blk -> w.heap.size <= k
 eq : drainF cf S1.X = (vs.map Vd.tt ++ (drainF cf S.X).1, (drainF cf S.X).2)
 fr : w.Fr wr [p]
 same : S = { S1 with told := S.told }
 len : S1.told + vs.length = S.told
 lo : w0.heap.size <= w.heap.size
theorem RInv.still {cf : V -> V -> Int} {w0 w wr w' : World} {p : Nat} {S1 S : RF} {vl vr vt vL vR vo : Value} {vs : List Vd} (h : RInv cf w0 w wr p S1 S vl vr vt vL vR vo vs) (hf : wr.Fr w' []) : RInv cf w0 w w' p S1 S vl vr vt vL vR vo vs :=
 ⟨h.ref.still hf, h.ok, h.fok, h.told.still hf, h.new, h.eq, h.fr.trans hf (by simp), h.same, h.len, h.lo⟩
theorem RInv.step {cf : V -> V -> Int} {w0 w wr w' : World} {p : Nat} {S1 S : RF} {vl vr vt vL vR vo vo' a b : Value} {vs : List Vd} {tm : Int} {T : Tb} (h : RInv cf w0 w wr p S1 S vl vr vt vL vR vo vs) (hlt : S.told < S.T.length) (hs : settledB S.X (S.pt S.told) = true) (htm : S.T[S.told]? = some tm) (hT : T = tellF cf S.X (S.pt S.told)) (hf : wr.Fr w' vo.blk)
  (hsl : w'.Sl 74 4 vo' (vs.length + 1) (vs.flatMap Vd.cells ++ [.int .i64 S.told, .int .i64 tm, a, b])) (hnew : ∀ k, k ∈ vo'.blk -> k ∈ vo.blk ∨ wr.heap.size <= k) (htab : TT w0 w' (.agg #[a, b]) T) :
  RInv cf w0 w (w'.setCell ⟨p, 10, none⟩ (.int .i64 ((S.told + 1 : Nat) : Int))) p S1 S.off vl vr vt vL vR vo' (vs ++ [⟨S.told, tm, a, b, T⟩]) := by
 have hr1 := h.ref.frV h.told.sl hf (fun k hk => Nat.le_trans h.lo (h.new k hk))
 have hr2 := hr1.setTold
 have hset : w'.Fr (w'.setCell ⟨p, 10, none⟩ (.int .i64 ((S.told + 1 : Nat) : Int))) [p] := (World.Fr.refl w' [p]).setCell (a := ⟨p, 10, none⟩) (.inl (by simp)) _
 have hop : Odd w' [p] := Odd.one hr1.box (by decide)
 have hp0 : S.X.pts[0]? = some (S.pt S.told) := S.pts_at (q := 0) (by omega)
 have hpl : S.X.pts.length = S.T.length - S.told := S.pts_len
 have hmany := h.ok.many
 have ht0 : S.X.told = (S.told : Int) := rfl
 refine ⟨hr2, h.ok.off hlt, ?_, ⟨?_, fun k hk => ?_⟩, fun k hk => (hnew k hk).elim (h.new k) (fun h1 => Nat.le_trans h.fr.size h1), ?_, (h.fr.trans hf (fun k hk => .inr (h.new k hk))).trans hset (fun k hk => .inl hk), ?_, ?_, h.lo⟩
 ·rw [S.off_X hlt]
  exact h.fok.off (by omega) (by omega)
 ·have := hsl.fr hset (fun k hk hm => by simp at hm; subst hm; exact Sl.off_box hsl hr1.box (by decide) hk)
  simpa using this
 ·rcases List.mem_append.1 hk with hk | hk
  ·exact ((h.told.tab k hk).fr hf h.told.odd).fr hset hop
  ·simp at hk
   subst hk
   exact htab.fr hset hop
 ·have := h.eq
  rw [drainF_yes hp0 hs] at this
  rw [this, hT, S.off_X hlt, S.pt_time htm]
  simp [ht0]
 ·have := h.same
  show ({ S with told := S.told + 1 } : RF) = _
  conv => lhs; rw [this]
  rfl
 ·have := h.len
  show S1.told + (vs ++ [_]).length = S.told + 1
  simp
  omega
theorem rpush_ok {cf : V -> V -> Int} (hRC : RCtx cf) {S : RF} {n : Int} {ts : List Tb} {ta tb : Tb} (hO : RfOk S) (hF : FOk cf S.X) (he : wrongE cf S.X.ps n ts = 0) (hf : ∀ t, t ∈ ts -> Fits V.wf t) (hr : wrongE cf S.X.ps n ts = 0 -> ∀ t, t ∈ ts -> t.rows.length <= 600) (hm : S.T.length + 1 <= 1000) (h0 : ts[0]? = some ta) (h1 : ts[ts.length - 1]? = some tb) :
  FOk cf (S.push n ta tb).X /\ stepX cf S.X n ts = (0, drainF cf (S.push n ta tb).X) /\ 0 <= n /\ n <= 1099511627776 := by
 obtain ⟨z1, z2, _⟩ := wrongE_zero (S := S.X.ps) hF.parts he
 have h00 := zero_h0 hF he
 have e1 : firstT ts = ta := by unfold firstT; rw [List.getD_eq_getElem?_getD, h0]; rfl
 have e2 : lastT ts = tb := by unfold lastT; rw [List.getD_eq_getElem?_getD, h1]; rfl
 have hX : (S.push n ta tb).X = pushF S.X (newK S.X n ts) := by
  rw [S.push_X hO]
  unfold newK
  rw [e1, e2]
  rfl
 have hpl : S.X.pts.length = S.T.length - S.told := S.pts_len
 refine ⟨?_, ?_, z1, z2⟩
 ·rw [hX]
  exact pushF_ok hF he (fun t ht => ⟨good_of hRC.ord (h00.2 t ht) (hf t ht).ok, hr he t ht⟩) (by omega) (newK_point (n := n) hF.parts h00.1)
 ·unfold stepX stepF
  rw [if_pos he, he, hX]
theorem RInv.begin {cf : V -> V -> Int} {w0 w : World} {p : Nat} {S : RF} {vl vr vt vL vR : Value} (h : RefF w0 w p S vl vr vt vL vR) (hO : RfOk S) (hF : FOk cf S.X) : RInv cf w0 w w p S S vl vr vt vL vR (.slice none 0 0) [] :=
 ⟨h, hO, hF, VdR.nil _ _, by simp [Value.blk], by simp, World.Fr.refl _ _, rfl, rfl, h.fr.size⟩
theorem RInv.no {cf : V -> V -> Int} {w0 w wr : World} {p : Nat} {S1 S : RF} {vl vr vt vL vR vo : Value} {vs : List Vd} (h : RInv cf w0 w wr p S1 S vl vr vt vL vR vo vs) (hn : S.told < S.T.length -> settledB S.X (S.pt S.told) = false) : drainF cf S1.X = (vs.map Vd.tt, S.X) := by
 have hpl : S.X.pts.length = S.T.length - S.told := S.pts_len
 have hd : drainF cf S.X = ([], S.X) := by
  rcases Nat.lt_or_ge S.told S.T.length with hl | hl
  ·exact drainF_no (S.pts_at (q := 0) (by omega)) (hn hl)
  ·exact drainF_none (by omega)
 rw [h.eq, hd]
 simp
structure ROut (cf : V -> V -> Int) (w0 w w' : World) (p : Nat) (S : RF) (vl vr vt vL vR : Value) (n : Int) (ts : List Tb) (u : Value) (vs : List Vd) (S' : RF) (vt' vL' vR' : Value) : Prop where
 ref : RefF w0 w' p S' vl vr vt' vL' vR'
 ok : RfOk S'
 told : VdR w0 w' u vs
 eq : (stepX cf S.X n ts).2 = (vs.map Vd.tt, S'.X)
 fr : w.Fr w' (p :: (vt.blk ++ (vL.blk ++ vR.blk)))
 len : S'.T.length <= S.T.length + 1
 new : ∀ k, k ∈ u.blk -> w.heap.size <= k
 own : ∀ k, k ∈ vt'.blk ++ (vL'.blk ++ vR'.blk) -> k ∈ vt.blk ++ (vL.blk ++ vR.blk) ∨ w.heap.size <= k
end Go.Proofs.YtbejmdlncnkaaaaGreat
namespace Go
section
variable {P : Program} {ops : Array Oper} {Q : Exit -> Act -> World -> Prop} {md : Region.Mode} {S : World -> Prop} {z : Nat}
def wpAnyE (P : Program) (md : Region.Mode) (ops : Array Oper) (Q : Exit -> Act -> World -> Prop) (S : World -> Prop) (z : Nat) : Nat -> Array Bool -> Act -> World -> Prop
 | 0, listed, a, w => Region.ready md ops listed = [] /\ Q .normal a w
 | fuel + 1, listed, a, w =>
  (Region.ready md ops listed = [] -> Q .normal a w) /\
  ∀ i ∈ Region.ready md ops listed, wpOp P ops Q i (fun a' w' => (i ≠ z -> S w') /\ wpAnyE P md ops Q S z fuel (listed.setIfInBounds i true) a' w') a w
theorem wpAny_of_E : ∀ (fuel : Nat) (listed : Array Bool) (a : Act) (w : World), wpAnyE P md ops Q S z fuel listed a w -> wpAny P md ops Q fuel listed a w
 | 0, _, _, _, h => h
 | fuel + 1, _, _, _, h => ⟨h.1, fun i hi => wpOp_mono (fun a' w' h' => wpAny_of_E fuel _ a' w' h'.2) (h.2 i hi)⟩
def Region.shutB (md : Region.Mode) (ops : Array Oper) (listed : Array Bool) : Bool :=
 (List.range ops.size).all fun j => !listed.getD j false || ((ops[j]?).map (·.after.all fun e => !Region.binds md e || listed.getD e.on false)).getD true
def Region.Shut (md : Region.Mode) (ops : Array Oper) (listed : Array Bool) : Prop :=
 ∀ j oj, ops[j]? = some oj -> listed.getD j false = true -> ∀ e ∈ oj.after, Region.binds md e = true -> listed.getD e.on false = true
theorem Region.shut_spec {listed : Array Bool} (h : Region.shutB md ops listed = true) : Region.Shut md ops listed := by
 intro j oj hj hl e he hb
 unfold Region.shutB at h
 rw [List.all_eq_true] at h
 have h1 := h j (List.mem_range.2 (by rcases Nat.lt_or_ge j ops.size with h' | h'; exact h'; rw [Array.getElem?_eq_none h'] at hj; cases hj))
 rw [hl, hj] at h1
 simp only [Bool.not_true, Bool.false_or, Option.map_some, Option.getD_some] at h1
 rw [Array.all_eq_true_iff_forall_mem] at h1
 have := h1 e he
 rw [hb] at this
 simpa using this
theorem Region.Shut.set {listed : Array Bool} {i : Nat} (h : Region.Shut md ops listed) (hi : i ∈ Region.ready md ops listed) : Region.Shut md ops (listed.setIfInBounds i true) := by
 intro j oj hj hl e he hb
 refine getD_set_true ?_
 by_cases hji : j = i
 ·subst hji
  obtain ⟨_, o, ho, hall⟩ := mem_ready.1 hi
  rw [ho] at hj
  cases hj
  exact hall e he hb
 ·refine h j oj hj ?_ e he hb
  rw [getD_set_ne false (Ne.symm hji)] at hl
  exact hl
def Region.waitB (md : Region.Mode) (ops : Array Oper) (i : Nat) : Nat -> Nat -> Bool
 | 0, _ => false
 | f + 1, j => ((ops[j]?).map (·.after.any fun e => Region.binds md e && (e.on == i || Region.waitB md ops i f e.on))).getD false
theorem Region.wait_listed {listed : Array Bool} {i : Nat} (h : Region.Shut md ops listed) : ∀ (f j : Nat), listed.getD j false = true -> Region.waitB md ops i f j = true -> listed.getD i false = true
 | 0, _, _, hw => by cases hw
 | f + 1, j, hl, hw => by
  unfold Region.waitB at hw
  cases ho : ops[j]? with
  | none => rw [ho] at hw; cases hw
  | some o =>
   rw [ho] at hw
   simp only [Option.map_some, Option.getD_some] at hw
   rw [Array.any_eq_true] at hw
   obtain ⟨k, hk, hw⟩ := hw
   simp only [Bool.and_eq_true, Bool.or_eq_true, beq_iff_eq] at hw
   have hl2 := h j o ho hl _ (Array.getElem_mem hk) hw.1
   rcases hw.2 with he | he
   ·rw [he] at hl2; exact hl2
   ·exact Region.wait_listed h f _ hl2 he
theorem Region.wait_ready {listed : Array Bool} {i : Nat} (h : Region.Shut md ops listed) (hz : z ∈ Region.ready md ops listed) {f : Nat} (hw : Region.waitB md ops i (f + 1) z = true) : listed.getD i false = true := by
 obtain ⟨_, o, ho, hall⟩ := mem_ready.1 hz
 unfold Region.waitB at hw
 rw [ho] at hw
 simp only [Option.map_some, Option.getD_some] at hw
 rw [Array.any_eq_true] at hw
 obtain ⟨k, hk, hw⟩ := hw
 simp only [Bool.and_eq_true, Bool.or_eq_true, beq_iff_eq] at hw
 have hl2 := hall _ (Array.getElem_mem hk) hw.1
 rcases hw.2 with he | he
 ·rw [he] at hl2; exact hl2
 ·exact Region.wait_listed h f _ hl2 he
theorem getD_ready {listed : Array Bool} {i : Nat} (hi : i ∈ Region.ready md ops listed) : listed.getD i false = false := by
 have h0 := (mem_ready.1 hi).1
 rcases Nat.lt_or_ge i listed.size with h' | h'
 ·simp [h'] at h0 ⊢; exact h0
 ·simp [Array.getElem?_eq_none h'] at h0
theorem wpAnyE_first {i : Nat} {oi : Oper} {v : Value} {f : Nat} (hi : ops[i]? = some oi) (hsel : ∀ (j : Nat) (o : Oper) cs b, ops[j]? = some o -> o.op ≠ .select cs b)
  (hQ : ∀ c a w, Q (.panic c) (a.put oi.dst v) w -> Q (.panic c) a w) (hwz : Region.waitB md ops i (f + 1) z = true) :
  ∀ (fuel : Nat) (listed : Array Bool) (a : Act) (w : World), Region.Shut md ops listed ->
   (∀ j oj, ops[j]? = some oj -> j ≠ i -> listed.getD j true = false -> (∀ e ∈ oj.after, Region.binds md e = true -> e.on ≠ i) -> oi.apart ops oj = true) ->
   i ∈ Region.ready md ops listed -> YieldsIf P ops S oi v a -> S w ->
   wpAnyE P md ops Q S z fuel (listed.setIfInBounds i true) (a.put oi.dst v) w -> wpAnyE P md ops Q S z (fuel + 1) listed a w := by
 intro fuel
 induction fuel with
 | zero =>
  intro listed a w _ _ hr hy hS H
  refine ⟨fun h => (by rw [h] at hr; cases hr), fun j hj => ?_⟩
  by_cases hji : j = i
  ·subst hji; exact hy.wpOp hi hS ⟨fun _ => hS, H⟩
  ·have := ready_mono hj hji
   rw [H.1] at this
   cases this
 | succ fuel ih =>
  intro listed a w hsh hfree hr hy hS H
  refine ⟨fun h => (by rw [h] at hr; cases hr), fun j hj => ?_⟩
  by_cases hji : j = i
  ·subst hji; exact hy.wpOp hi hS ⟨fun _ => hS, H⟩
  ·have hjz : j ≠ z := fun e => by
    subst e
    have h1 := Region.wait_ready hsh hj hwz
    rw [getD_ready hr] at h1
    cases h1
   have h1 := H.2 j (ready_mono hj hji)
   obtain ⟨hjun, oj, hoj, hall⟩ := mem_ready.1 hj
   have hnot : ∀ e ∈ oj.after, Region.binds md e = true -> e.on ≠ i := fun e he hb heq => by
    have h1 := hall e he hb
    rw [heq, getD_ready hr] at h1
    cases h1
   have h2 := wpOp_putIf hoj (hfree j oj hoj hji hjun hnot) (fun cs b => hsel i oi cs b hi) (fun cs b => hsel j oj cs b hoj) hQ hy h1
   have hfree' : ∀ k ok, ops[k]? = some ok -> k ≠ i -> (listed.setIfInBounds j true).getD k true = false ->
     (∀ e ∈ ok.after, Region.binds md e = true -> e.on ≠ i) -> oi.apart ops ok = true := fun k ok hk hki hun hno => by
    refine hfree k ok hk hki ?_ hno
    by_cases hjk : j = k
    ·subst hjk; exact hjun
    ·rw [getD_set_ne true hjk] at hun; exact hun
   refine wpOp_mono (fun a' w' h3 => ⟨h3.2.1, ih (listed.setIfInBounds j true) a' w' (hsh.set hj) hfree' (ready_mono hr (Ne.symm hji)) h3.1 (h3.2.1 hjz) ?_⟩) h2
   rw [Array.setIfInBounds_comm _ _ hji]
   exact h3.2.2
theorem wpAnyE_take {i f : Nat} {oi : Oper} {v : Value} {fuel : Nat} {listed : Array Bool} {a : Act} {w : World} (hi : ops[i]? = some oi)
  (hs : Region.noSelect ops = true) (hf : Region.free md ops listed i = true) (hr : (Region.ready md ops listed).contains i = true) (hsh : Region.shutB md ops listed = true) (hwz : Region.waitB md ops i (f + 1) z = true)
  (hQ : ∀ c a w, Q (.panic c) (a.put oi.dst v) w -> Q (.panic c) a w) (hy : YieldsIf P ops S oi v a) (hS : S w)
  (h : wpAnyE P md ops Q S z fuel (listed.setIfInBounds i true) (a.put oi.dst v) w) : wpAnyE P md ops Q S z (fuel + 1) listed a w :=
 wpAnyE_first hi (Region.noSelect_spec hs) hQ hwz fuel listed a w (Region.shut_spec hsh) (Region.free_spec hi hf) (by simpa using hr) hy hS h
theorem wpAnyE_step {i fuel : Nat} {o : Oper} {listed : Array Bool} {a : Act} {w : World} (hr : Region.ready md ops listed = [i]) (ho : ops[i]? = some o)
  (h : ∀ K' : Act -> World -> Prop, Shut (∀ a w, (i ≠ z -> S w) -> ((i ≠ z -> S w) -> wpAnyE P md ops Q S z fuel (listed.setIfInBounds i true) a w) -> K' a w) -> if Region.wanted o (yielded ops a.tmps) = true then Oper.wp P o a w K' Q else K' (a.put o.dst undef) w) : wpAnyE P md ops Q S z (fuel + 1) listed a w :=
 ⟨fun h0 => (by rw [h0] at hr; cases hr), fun j hj => by
  rw [hr] at hj
  obtain rfl : j = i := by simpa using hj
  exact wpOp_step ho (fun K' hK => h K' (fun a w hS hW => hK a w ⟨hS, hW hS⟩))⟩
theorem wpAnyE_done {listed : Array Bool} {a : Act} {w : World} (hr : Region.ready md ops listed = []) (h : Q .normal a w) : ∀ fuel, wpAnyE P md ops Q S z fuel listed a w
 | 0 => ⟨hr, h⟩
 | _ + 1 => ⟨fun _ => h, by rw [hr]; simp⟩
theorem wp_region_E {id : Nat} {a : Act} {w : World} (z : Nat) (hm : P.follows .mixedOrders = true) (hS : S w.drew)
  (h : S w.drew -> wpAnyE P .any ops Q S z ops.size (Array.replicate ops.size false) a w.drew) : (Code.region id ops true).wp P Q a w :=
 wp_region_any hm (wpAny_of_E _ _ _ _ (h hS))
end
end Go
