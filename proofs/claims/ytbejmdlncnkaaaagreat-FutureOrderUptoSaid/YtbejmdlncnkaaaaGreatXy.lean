/-
  The walks of the statement's own one, xy.
-/
import Derived.Test.YtbejmdlncnkaaaaGreatCol
import Derived.Deep.RegionHeld3
namespace Go.Proofs.YtbejmdlncnkaaaaGreat
open Go.RowKit

def vI (n : Int) : V := ⟨1, n, 0, ⟨#[]⟩⟩
def nmX : BA := ⟨#[120]⟩
theorem vI_wf {n : Int} (h : inI64 n) : (vI n).wf := ⟨by unfold inI64 vI; simp, h, by unfold inI64 vI; simp, by simp [vI, ByteArray.size]⟩
theorem cellFr {w w' : World} {L : List Nat} {a : Addr} {v : Value} (hf : w.Fr w' L) (hc : w.cell? a = some v) (hn : a.block ∉ L) : w'.cell? a = some v := by
  rw [← hc]
  exact World.cell?_of_block (hf.block _ (World.block_lt_of_cell? w _ hc) hn)
end Go.Proofs.YtbejmdlncnkaaaaGreat
