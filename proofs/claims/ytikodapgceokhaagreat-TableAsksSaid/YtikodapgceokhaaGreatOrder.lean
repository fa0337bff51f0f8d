/-
  The walk of table.made's first closure, and what slices.SortFunc makes of the places of names with it.
-/
import Derived.Test.YtikodapgceokhaaGreatMore
namespace Go.Proofs.YtikodapgceokhaaGreat
open Go.RowKit

/-- which of two places' names is ahead -/
def pcmp (l : List BA) (i j : Fin l.length) : Int := if ltS l[i] l[j] = true then -1 else 1

set_option maxRecDepth 100000 in
theorem order100 {w : World} {v : Value} {l : List BA} (h : RdStr w v l) (cb : Nat) (hb : w.heap[cb]? = some (.cells #[v] 22 (0, 0))) (i j : Fin l.length) :
    Calls Tryz.prog 100 #[.int .i64 (i.1 : Int), .int .i64 (j.1 : Int), .pointer (some ⟨cb, 0, none⟩)] w fun e w' => e = .returned (.int .i64 (pcmp l i j)) ∧ ∃ q, w' = w.drewN q := by
  obtain ⟨i, hi⟩ := i
  obtain ⟨j, hj⟩ := j
  have hx : l[i]? = some l[i] := List.getElem?_eq_getElem hi
  have hy : l[j]? = some l[j] := List.getElem?_eq_getElem hj
  obtain ⟨g, off, c, hv, hg, kx⟩ := h.at hx
  obtain ⟨g2, off2, c2, hv2, hg2, ky⟩ := h.at hy
  subst hv
  cases hv2
  have hcell := one1 hb
  have hiI : (i : Int) < (l.length : Int) := by omega
  have hjI : (j : Int) < (l.length : Int) := by omega
  have hcf : pcmp l ⟨i, hi⟩ ⟨j, hj⟩ = if ltS l[i] l[j] = true then -1 else 1 := rfl
  rw [hcf]
  clear hcf hx hy h hb
  generalize l[i] = x at *
  generalize l[j] = y at *
  cases hlt : ltS x y with
  | true =>
    have hb : Op.bytesLess x.toList y.toList = true := hlt
    rw [if_pos rfl]
    clear hlt
    go_enter Tryz.func100, Tryz.ntmps100
    go_wp2
    go_quiet (fail)
    go_wp2
    go_ret
    exact ⟨rfl, _, rfl⟩
  | false =>
    have hb : Op.bytesLess x.toList y.toList = false := hlt
    rw [if_neg (by simp)]
    clear hlt
    go_enter Tryz.func100, Tryz.ntmps100
    go_wp2
    go_quiet (fail)
    go_wp2
    go_ret
    exact ⟨rfl, _, rfl⟩
end Go.Proofs.YtikodapgceokhaaGreat
