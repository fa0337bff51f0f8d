/-
  How the library's words for a sorted row ('Holds', 'sortWorld') meet this work's ('World.Sl', 'World.Fr'). Over any program, no condition.
-/
import Derived.Test.YtikodapgceokhaaGreatPlaces
import Derived.Shelf.GgSortFunc.Insertion
namespace Go
open Go.Sort Go.Proofs

section
variable {α : Type} [Inhabited α] {enc : α → Value} {w : World} {e : TypeId} {g off c : Nat} {l : List α}

theorem getBang (l : List α) (j : Nat) (hj : j < l.length) : l.toArray[j]! = l[j] := by
  rw [getElem!_pos l.toArray j (by simpa using hj)]
  simp

theorem World.Sl.holds (h : w.Sl e 1 (.slice (some ⟨g, off, none⟩) l.length c) l.length (l.map enc)) : Holds enc w g off l.toArray := by
  intro j hj
  have hj' : j < l.length := by simpa using hj
  refine ⟨?_, h.free _⟩
  rw [h.cells rfl j (by omega), getBang l j hj']
  simp [hj']

omit [Inhabited α] in
theorem World.Sl.base_lt (h : w.Sl e 1 (.slice (some ⟨g, off, none⟩) l.length c) l.length (l.map enc)) : g < w.heap.size := h.lt g (by simp [Value.blk])

theorem World.Sl.sorted (h : w.Sl e 1 (.slice (some ⟨g, off, none⟩) l.length c) l.length (l.map enc)) (d : Array α) (hd : d.size = l.length) (m : Nat) (os : Array Obj) :
    (sortWorld enc w g off m d os).Sl e 1 (.slice (some ⟨g, off, none⟩) l.length c) l.length (d.toList.map enc) ∧ w.Fr (sortWorld enc w g off m d os) [g] := by
  have hg := h.base_lt
  obtain ⟨hlen, h2⟩ := h
  rcases h2 with ⟨h0, _⟩ | ⟨g', off', cap', cur, he, hb, hc, hm, hfit, htake⟩
  · cases h0
  cases he
  have hheap : ∀ k, k < w.heap.size → (sortWorld enc w g off m d os).heap[k]? = (w.heap.modify g (onCells (putCells enc off d)))[k]? := fun k hk => by
    show ((w.heap.modify g (onCells (putCells enc off d))) ++ os)[k]? = _
    rw [Array.getElem?_append_left (by simpa using hk)]
  have hsize : w.heap.size ≤ (sortWorld enc w g off m d os).heap.size := by
    show w.heap.size ≤ ((w.heap.modify g (onCells (putCells enc off d))) ++ os).size
    simp
  refine ⟨⟨by simp [hd], .inr ⟨g, off, c, putCells enc off d cur, rfl, ?_, hc, hm, by simpa [putCells] using hfit, ?_⟩⟩, rfl, rfl, rfl, hsize, fun k hk hn => ?_⟩
  · rw [hheap g hg, Array.getElem?_modify]
    simp [hb, onCells]
  · apply List.ext_getElem?
    intro j
    rcases Nat.lt_or_ge j l.length with hj | hj
    · have hcur : off + j < cur.size := by omega
      rw [List.getElem?_take, if_pos (by omega), List.getElem?_drop, Array.getElem?_toList]
      unfold putCells
      rw [Array.getElem?_mapIdx]
      rw [Array.getElem?_eq_getElem hcur]
      simp only [Option.map_some]
      rw [if_pos ⟨by omega, by omega⟩]
      have hjd : j < d.size := by omega
      rw [List.getElem?_map, Array.getElem?_toList, Array.getElem?_eq_getElem hjd]
      simp only [Option.map_some, Nat.add_sub_cancel_left]
      rw [getElem!_pos d j hjd]
    · rw [List.getElem?_take, if_neg (by omega), List.getElem?_eq_none (by simp; omega)]
  · rw [hheap k hk, Array.getElem?_modify]
    rw [if_neg (fun h => hn (by simp [← h]))]
end
end Go
