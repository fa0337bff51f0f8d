/-
  The walk of the statement TableAsks (live's contract as a hypothesis; joined later). The walk of table.Drop. The walk of the statement TableChecks (live's contract as a hypothesis; joined later).
-/
import Derived.Test.YtbejmdlncnkaaaaGreatRsr
import Derived.Test.YtbejmdlncnkaaaaGreatOpen
import Derived.Deep.RegionHeld3
import Derived.Test.YtbejmdlncnkaaaaGreatCol
import Derived.Test.YtbejmdlncnkaaaaGreatMad
import Derived.Test.YtbejmdlncnkaaaaGreatRvs
namespace Go.Proofs.YtbejmdlncnkaaaaGreat
open Go.RowKit
theorem cellFrA {w w' : World} {b j : Nat} {v : Value} (h : w.Fr w' []) (hc : w.cell? ⟨b, j, none⟩ = some v) : w'.cell? ⟨b, j, none⟩ = some v := by
  rw [World.cell?_of_block (a := ⟨b, j, none⟩) (h.block b (spot_none hc).2 (by simp))]; exact hc
end Go.Proofs.YtbejmdlncnkaaaaGreat
namespace Go.Proofs.YtbejmdlncnkaaaaGreat
open Go.RowKit

/-- the names that stay -/
noncomputable def leftL (a b : List BA) : List BA := a.filter fun x => !hasS b x
theorem leftL_mem {a b : List BA} {x : BA} : x ∈ leftL a b ↔ x ∈ a ∧ x ∉ b := by unfold leftL hasS; simp
end Go.Proofs.YtbejmdlncnkaaaaGreat
namespace Go.Proofs.YtbejmdlncnkaaaaGreat
open Go.RowKit
/-- what the copies want -/
structure Fit14 (t : Tb) : Prop where
  vars : t.vars.length ≤ 8796093021952
  rows : t.rows.length ≤ 5864062014634
  row : ∀ r, r ∈ t.rows → r.length ≤ 3518437208780
theorem Fit14.small {t : Tb} (h : Fit14 t) : Small t := ⟨by have := h.vars; omega, by have := h.rows; omega, fun r hr => by have := h.row r hr; omega⟩
theorem RdTab.wf {w : World} {v : Value} {t : Tb} (h : RdTab w v t) : ∀ r, r ∈ t.rows → ∀ x, x ∈ r → V.wf x := by
  obtain ⟨va, vb, hs, rfl, hv, hr⟩ := h.ex
  intro r hrm
  obtain ⟨i, hi⟩ := List.getElem?_of_mem hrm
  have hlt := (List.getElem?_eq_some_iff.1 hi).1
  have hlen := hr.len
  obtain ⟨hvv, hh⟩ : ∃ x, hs[i]? = some x := ⟨hs[i]'(by omega), List.getElem?_eq_getElem (by omega)⟩
  exact (hr.row i hvv r hh hi).wf

end Go.Proofs.YtbejmdlncnkaaaaGreat
