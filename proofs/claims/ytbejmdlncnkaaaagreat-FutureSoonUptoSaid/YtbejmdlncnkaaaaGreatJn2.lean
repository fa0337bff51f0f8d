/-
  The document's Anti, Join.
-/
import Derived.Test.YtbejmdlncnkaaaaGreatSe1
import Derived.Test.YtbejmdlncnkaaaaGreatJoin
import Derived.Test.YtbejmdlncnkaaaaGreatRsr
namespace Go.Proofs.YtbejmdlncnkaaaaGreat
open Go.RowKit

theorem joinRows_mem {a b : Tb} {r : Row} (h : r ∈ joinRows a b) : ∃ x y, x ∈ a.rows ∧ y ∈ b.rows ∧ r = x ++ pick b.vars y (leftL b.vars a.vars) := by
  unfold joinRows at h
  obtain ⟨x, hx, h⟩ := List.mem_flatMap.1 h
  obtain ⟨y, hy, rfl⟩ := List.mem_map.1 h
  exact ⟨x, y, hx, (List.mem_filter.1 hy).1, rfl⟩
theorem joinNames_nodup {l m : List BA} (hl : l.Nodup) (hm : m.Nodup) : (l ++ leftL m l).Nodup := by
  rw [List.nodup_append]
  refine ⟨hl, hm.sublist List.filter_sublist, fun x hx y hy e => ?_⟩
  subst e
  exact (leftL_mem.1 hy).2 hx
theorem joinRows_fine {a b : Tb} {P : V → Prop} (ha : ∀ r, r ∈ a.rows → r.length = a.vars.length ∧ ∀ x, x ∈ r → P x) (hb : ∀ r, r ∈ b.rows → r.length = b.vars.length ∧ ∀ x, x ∈ r → P x) : ∀ r, r ∈ joinRows a b → r.length = (a.vars ++ leftL b.vars a.vars).length ∧ ∀ x, x ∈ r → P x := by
  intro r hr
  obtain ⟨x, y, hx, hy, rfl⟩ := joinRows_mem hr
  refine ⟨by rw [List.length_append, List.length_append, pick_len, (ha x hx).1], fun v hv => ?_⟩
  rcases List.mem_append.1 hv with h | h
  · exact (ha x hx).2 v h
  · exact (hb y hy).2 v (pick_mem (fun s hs => (leftL_mem.1 hs).1) (hb y hy).1 h)
theorem OwnRow.two {w w1 w2 : World} {v v' : Value} {x y : Row} (_h1 : w1.Sl 83 4 v x.length (x.flatMap V.enc)) (f1 : w.Fr w1 []) (n1 : ∀ k, k ∈ v.blk → w.heap.size ≤ k) (h2 : w2.Sl 83 4 v' (x.length + y.length) (x.flatMap V.enc ++ y.flatMap V.enc)) (f2 : w1.Fr w2 v.blk) (n2 : ∀ k, k ∈ v'.blk → k ∈ v.blk ∨ k = w1.heap.size) : OwnRow w w2 v' (x ++ y) := by
  refine ⟨by rw [List.length_append, List.flatMap_append]; exact h2, fun k hk => ?_, f1.trans f2 (fun k hk => .inr (n1 k hk))⟩
  rcases n2 k hk with h | h
  · exact n1 k h
  · have := f1.size; omega

end Go.Proofs.YtbejmdlncnkaaaaGreat
