/-
  slices.CompactFunc of a table's rows: what is kept, plainly.
-/
import Derived.Test.YtikodapgceokhaaGreatSet
namespace Go.Proofs.YtikodapgceokhaaGreat
open Go.RowKit

abbrev HR := Value × Row
/-- each whose row is not that of the one ahead -/
noncomputable def keep : Option Row → List HR → List HR
  | _, [] => []
  | p, x :: t => if eqB p (some x.2) = true then keep (some x.2) t else x :: keep (some x.2) t
noncomputable def compactP (ps : List HR) : List HR := keep none ps
def lastRow (p : Option Row) (l : List HR) : Option Row := match l.getLast? with | none => p | some x => some x.2
theorem keep_append (p : Option Row) (l m : List HR) : keep p (l ++ m) = keep p l ++ keep (lastRow p l) m := by
  induction l generalizing p with
  | nil => rfl
  | cons x t ih =>
    have e : lastRow p (x :: t) = lastRow (some x.2) t := by
      unfold lastRow
      cases t with
      | nil => rfl
      | cons y t => simp [List.getLast?_cons_cons]; cases h : (y :: t).getLast? with
        | none => simp at h
        | some z => rfl
    simp only [List.cons_append, keep]
    split
    · rw [ih, e]
    · rw [ih, e]; rfl
theorem keep_len (p : Option Row) (l : List HR) : (keep p l).length ≤ l.length := by
  induction l generalizing p with
  | nil => exact Nat.le_refl _
  | cons x t ih =>
    unfold keep
    split
    · have := ih (some x.2); simp; omega
    · have := ih (some x.2); simp; omega
theorem compact_take_eq (ps : List HR) (m : Nat) {x y : HR} (hx : ps[m]? = some x) (hy : ps[m + 1]? = some y) (h : x.2 = y.2) :
    compactP (ps.take (m + 2)) = compactP (ps.take (m + 1)) := by
  have hl := (List.getElem?_eq_some_iff.1 hy).1
  have e1 : ps.take (m + 2) = ps.take (m + 1) ++ [y] := by
    rw [List.take_succ_eq_append_getElem hl, (List.getElem?_eq_some_iff.1 hy).2]
  have e2 : lastRow none (ps.take (m + 1)) = some x.2 := by
    unfold lastRow
    have hl' := (List.getElem?_eq_some_iff.1 hx).1
    rw [List.take_succ_eq_append_getElem hl', (List.getElem?_eq_some_iff.1 hx).2]
    simp
  unfold compactP
  rw [e1, keep_append, e2]
  simp [keep, eqB_true (show some x.2 = some y.2 by rw [h])]
theorem compact_take_ne (ps : List HR) (m : Nat) {x y : HR} (hx : ps[m]? = some x) (hy : ps[m + 1]? = some y) (h : x.2 ≠ y.2) :
    compactP (ps.take (m + 2)) = compactP (ps.take (m + 1)) ++ [y] := by
  have hl := (List.getElem?_eq_some_iff.1 hy).1
  have e1 : ps.take (m + 2) = ps.take (m + 1) ++ [y] := by
    rw [List.take_succ_eq_append_getElem hl, (List.getElem?_eq_some_iff.1 hy).2]
  have e2 : lastRow none (ps.take (m + 1)) = some x.2 := by
    unfold lastRow
    have hl' := (List.getElem?_eq_some_iff.1 hx).1
    rw [List.take_succ_eq_append_getElem hl', (List.getElem?_eq_some_iff.1 hx).2]
    simp
  unfold compactP
  rw [e1, keep_append, e2]
  simp [keep, eqB_false (show some x.2 ≠ some y.2 from fun e => h (by injection e))]
theorem compact_one (ps : List HR) (h : 0 < ps.length) : compactP (ps.take 1) = ps.take 1 := by
  cases ps with
  | nil => simp at h
  | cons a t => simp [compactP, keep, eqB_false (show none ≠ some a.2 by simp)]
theorem compact_small (ps : List HR) (h : ps.length < 2) : compactP ps = ps := by
  match ps, h with
  | [], _ => rfl
  | [a], _ => simp [compactP, keep, eqB_false (show none ≠ some a.2 by simp)]
end Go.Proofs.YtikodapgceokhaaGreat
