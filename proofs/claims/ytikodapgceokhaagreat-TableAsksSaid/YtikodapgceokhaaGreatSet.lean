/-
  Stores into a slice of the call's own, and what slices.CompactFunc leaves. Over any program, no condition.
-/
import Derived.Test.YtikodapgceokhaaGreatSortR
import Derived.Lib.SliceRun
namespace Go

theorem World.Sl.set {w : World} {e : TypeId} {g off n c : Nat} {xs : List Value} (h : w.Sl e 1 (.slice (some ⟨g, off, none⟩) n c) n xs) (k : Nat) (hk : k < n) (v : Value) :
    (w.setCell ⟨g, off + k, none⟩ v).Sl e 1 (.slice (some ⟨g, off, none⟩) n c) n (xs.set k v) ∧ w.Fr (w.setCell ⟨g, off + k, none⟩ v) [g] := by
  obtain ⟨hlen, h2⟩ := h
  rcases h2 with ⟨h0, _⟩ | ⟨g', off', cap', cur, he, hb, hc, hm, hfit, htake⟩
  · cases h0
  cases he
  refine ⟨⟨by simpa using hlen, .inr ⟨g, off, c, cur.setIfInBounds (off + k) v, rfl, heap_set_same hb (off + k) v, hc, hm, by simpa using hfit, ?_⟩⟩, (World.Fr.refl w [g]).setCell (by simp) _⟩
  subst htake
  apply List.ext_getElem?
  intro j
  rw [List.getElem?_set]
  simp only [List.getElem?_take, List.getElem?_drop, Nat.mul_one, List.length_take, List.length_drop, Array.getElem?_toList, Array.getElem?_setIfInBounds, Array.length_toList]
  have : off + k < cur.size := by omega
  by_cases hj : j < n
  · by_cases hjk : k = j
    · subst hjk
      simp [hj, this]
      omega
    · simp [hj, hjk]
  · simp [hj]
    omega

theorem World.Sl.sets {e : TypeId} {g off n c : Nat} (vs : List Value) : ∀ {w : World} {xs : List Value} (k : Nat), w.Sl e 1 (.slice (some ⟨g, off, none⟩) n c) n xs → k + vs.length ≤ n →
    ∃ ys, (w.setCells g (off + k) vs).Sl e 1 (.slice (some ⟨g, off, none⟩) n c) n ys ∧ ys.take k = xs.take k ∧ w.Fr (w.setCells g (off + k) vs) [g] := by
  induction vs with
  | nil => intro w xs k h _; exact ⟨xs, h, rfl, World.Fr.refl _ _⟩
  | cons v r ih =>
    intro w xs k h hk
    simp only [List.length_cons] at hk
    obtain ⟨h1, h2⟩ := h.set k (by omega) v
    obtain ⟨ys, h3, h4, h5⟩ := ih (k + 1) h1 (by omega)
    refine ⟨ys, h3, ?_, h2.trans h5 (fun j hj => .inl hj)⟩
    have e1 : ys.take k = (ys.take (k + 1)).take k := by rw [List.take_take]; congr 1; omega
    rw [e1, h4, List.take_take]
    have : min k (k + 1) = k := by omega
    rw [this, List.take_set_of_le (by omega)]
end Go
