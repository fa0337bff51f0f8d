/-
  Package past: since: the walk.
-/
import Derived.Test.YtbejmdlncnkaaaaGreatPaB
import Derived.Deep.RegionHeld3
namespace Go.Proofs.YtbejmdlncnkaaaaGreat
open Go.RowKit

/-- what since's boxes hold -/
structure SBox (w0 w : World) (p p3 : Nat) (S : PS) (n : Int) (vl vr vw : Value) : Prop where
  lo : w0.heap.size ≤ p3
  b3 : w.heap[p3]? = some (.cells #[.pointer (some ⟨p, 0, none⟩)] 28 (0, 0))
  b4 : w.heap[p3 + 1]? = some (.cells #[.int .i64 n] 2 (0, 0))
  b6 : w.heap[p3 + 2]? = some (.cells #[.slice none 0 0, .slice none 0 0] 34 (0, 0))
  box : w.heap[p]? = some (.cells (pcells10 S vl vr vw) 96 (0, 0))
theorem SBox.fr {w0 w w' : World} {p p3 : Nat} {S : PS} {n : Int} {vl vr vw : Value} {M : List Nat} (h : SBox w0 w p p3 S n vl vr vw) (hf : w.Fr w' M) (hp : p ∉ M) (h3 : ∀ k, k ∈ M → k < p3 ∨ p3 + 2 < k) : SBox w0 w' p p3 S n vl vr vw :=
  ⟨h.lo, hf.heap h.b3 (fun hm => by have := h3 _ hm; omega), hf.heap h.b4 (fun hm => by have := h3 _ hm; omega), hf.heap h.b6 (fun hm => by have := h3 _ hm; omega), hf.heap h.box hp⟩
theorem SBox.still {w0 w w' : World} {p p3 : Nat} {S : PS} {n : Int} {vl vr vw : Value} (h : SBox w0 w p p3 S n vl vr vw) (hf : w.Fr w' []) : SBox w0 w' p p3 S n vl vr vw := h.fr hf (by simp) (by simp)
theorem Odd.sl {w : World} {v : Value} {n : Nat} {xs : List Value} (h : w.Sl 115 3 v n xs) : Odd w v.blk := by
  intro k hk
  rcases h.2 with ⟨rfl, _⟩ | ⟨g, off, cap, cur, rfl, hg, _⟩
  · simp [Value.blk] at hk
  · simp [Value.blk] at hk
    subst hk
    exact ⟨_, _, hg, by decide, by decide, by decide⟩
theorem Sl115.ne {w : World} {v : Value} {n : Nat} {xs : List Value} (h : w.Sl 115 3 v n xs) {k : Nat} {cs : Array Value} {T : TypeId} (hk : w.heap[k]? = some (.cells cs T (0, 0))) (hT : T ≠ 115) : k ∉ v.blk := fun hm => by
  rcases h.2 with ⟨rfl, _⟩ | ⟨g, off, cap, cur, rfl, hg, _⟩
  · simp [Value.blk] at hm
  · simp [Value.blk] at hm
    subst hm
    have := hg.symm.trans hk
    injection this with this
    injection this with _ h2
    exact hT h2.symm
end Go.Proofs.YtbejmdlncnkaaaaGreat
