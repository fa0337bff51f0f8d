/-
  The document's both, Union, Minus.
-/
import Derived.Test.YtbejmdlncnkaaaaGreatRmB
import Derived.Test.YtbejmdlncnkaaaaGreatRvs
import Derived.Test.YtbejmdlncnkaaaaGreatCol
import Derived.Test.YtbejmdlncnkaaaaGreatUni
namespace Go.Proofs.YtbejmdlncnkaaaaGreat
open Go.RowKit

theorem pick_all {l : List BA} (hn : l.Nodup) {r : Row} (hr : r.length = l.length) : pick l r l = r := by
  apply List.ext_getElem?
  intro i
  unfold pick
  rw [List.getElem?_map]
  by_cases hi : i < l.length
  · rw [List.getElem?_eq_getElem hi, Option.map_some, idx_self hn i hi, Int.toNat_natCast, List.getD_eq_getElem?_getD, List.getElem?_eq_getElem (by omega)]
    rfl
  · rw [List.getElem?_eq_none (by omega), List.getElem?_eq_none (by omega)]
    rfl
theorem RdRows.one {w : World} {v : Value} {rs : List Row} {hs : List Value} (h : RdRows w v rs hs) : hs.all Value.oneCell' = true := by
  rw [List.all_eq_true]
  intro x hx
  obtain ⟨i, hi⟩ := List.getElem?_of_mem hx
  obtain ⟨a, m, he, _⟩ := (h.row i x (rs[i]'(by have := (List.getElem?_eq_some_iff.1 hi).1; have := h.len; omega)) hi (List.getElem?_eq_getElem _)).rd.shape
  rw [he]; rfl
/-- two gatherings of rows, one behind the other -/
theorem RdRows.append {w : World} {v v1 v2 : Value} {rs qs : List Row} {hs gs : List Value} (h1 : RdRows w v1 rs hs) (h2 : RdRows w v2 qs gs) (hv : w.Rd 1 v (hs.length + gs.length) (hs ++ gs)) : RdRows w v (rs ++ qs) (hs ++ gs) := by
  refine ⟨by rw [List.length_append]; exact hv, by simp [h1.len, h2.len], fun i hv r e1 e2 => ?_⟩
  have hln := h1.len
  rcases Nat.lt_or_ge i hs.length with hi | hi
  · rw [List.getElem?_append_left hi] at e1
    rw [List.getElem?_append_left (by omega)] at e2
    exact h1.row i hv r e1 e2
  · rw [List.getElem?_append_right hi] at e1
    rw [List.getElem?_append_right (by omega), ← hln] at e2
    exact h2.row _ hv r e1 e2

end Go.Proofs.YtbejmdlncnkaaaaGreat
