/-
  How a window lies in memory, whatever its things are, and what a call on it may turn.
-/
import Derived.Test.YtikodccbecmjiaaBase
import Derived.Test.YtikodccbecmjiaaPlain
namespace Go.Win

/-- A kind of things: the types' numbers, and how a thing lies in cells. -/
structure Kind (α : Type) where
  tw : TypeId
  tp : TypeId
  te : TypeId
  k : Nat
  enc : α → List Value

section
variable {α : Type} (K : Kind α)
def Kind.pair (q : α × α) : List Value := K.enc q.1 ++ K.enc q.2
def Kind.row (opv : Value) (no : α) (va vb : Value) (sum : α) (calls : Nat) : Array Value :=
  ⟨opv :: (K.enc no ++ va :: vb :: (K.enc sum ++ [.int .i64 calls]))⟩

/-- a window over opv lies at p, its slices are va and vb, its state is s -/
structure IsWin (opv : Value) (w : World) (p : Nat) (va vb : Value) (s : WSt α) : Prop where
  cells : w.heap[p]? = some (.cells (K.row opv s.nothing va vb s.sum s.calls) K.tw (0, 0))
  ahead : w.Sl K.tp (2 * K.k) va s.ahead.length (s.ahead.flatMap K.pair)
  behind : w.Sl K.te K.k vb s.behind.length (s.behind.flatMap K.enc)
  pa : p ∉ va.blk
  pb : p ∉ vb.blk
  ab : ∀ k, k ∈ va.blk → k ∉ vb.blk

def foot (p : Nat) (va vb : Value) : List Nat := p :: (va.blk ++ vb.blk)
def HasWin (opv : Value) (w : World) (p : Nat) (s : WSt α) (L : List Nat) : Prop := ∃ va vb, IsWin K opv w p va vb s ∧ L = foot p va vb

/-- after a call on the window: the world, and the blocks that the window has now -/
def WPost (opv : Value) (p : Nat) (w : World) (L : List Nat) (s' : WSt α) (r : Value) (e : Ending) (w' : World) : Prop :=
  e = .returned r ∧ ∃ L', HasWin K opv w' p s' L' ∧ w.Fr w' L ∧ ∀ k, k ∈ L' → k ∈ L ∨ w.heap.size ≤ k

variable {K}
theorem HasWin.lt {opv : Value} {w : World} {p : Nat} {s : WSt α} {L : List Nat} (h : HasWin K opv w p s L) : ∀ k, k ∈ L → k < w.heap.size := by
  obtain ⟨va, vb, h, rfl⟩ := h
  intro k hk
  simp only [foot, List.mem_cons, List.mem_append] at hk
  rcases hk with rfl | hk | hk
  · exact lt_of_heap h.cells
  · exact h.ahead.lt k hk
  · exact h.behind.lt k hk

theorem HasWin.fr {opv : Value} {w w' : World} {p : Nat} {s : WSt α} {L M : List Nat} (h : HasWin K opv w p s L) (hf : w.Fr w' M) (hd : ∀ k, k ∈ L → k ∉ M) : HasWin K opv w' p s L := by
  obtain ⟨va, vb, h, rfl⟩ := h
  have hd' : ∀ k, (k = p ∨ k ∈ va.blk ∨ k ∈ vb.blk) → k ∉ M := fun k hk => hd k (by simpa [foot] using hk)
  exact ⟨va, vb, ⟨hf.heap h.cells (hd' _ (.inl rfl)), h.ahead.fr hf fun k hk => hd' k (.inr (.inl hk)), h.behind.fr hf fun k hk => hd' k (.inr (.inr hk)), h.pa, h.pb, h.ab⟩, rfl⟩

theorem WPost.mk {opv : Value} {w w' : World} {p : Nat} {va vb va' vb' : Value} {s' : WSt α} {r : Value}
    (hp : w'.heap[p]? = some (.cells (K.row opv s'.nothing va' vb' s'.sum s'.calls) K.tw (0, 0)))
    (ha : w'.Sl K.tp (2 * K.k) va' s'.ahead.length (s'.ahead.flatMap K.pair)) (hb : w'.Sl K.te K.k vb' s'.behind.length (s'.behind.flatMap K.enc))
    (hfr : w.Fr w' (foot p va vb)) (h1 : ∀ k, k ∈ va'.blk → k ∈ va.blk ∨ w.heap.size ≤ k) (h2 : ∀ k, k ∈ vb'.blk → k ∈ vb.blk ∨ w.heap.size ≤ k)
    (hpa : p ∉ va.blk) (hpb : p ∉ vb.blk) (hlt : p < w.heap.size) (hab : ∀ k, k ∈ va'.blk → k ∉ vb'.blk) : WPost K opv p w (foot p va vb) s' r (.returned r) w' := by
  refine ⟨rfl, _, ⟨va', vb', ⟨hp, ha, hb, fun h => ?_, fun h => ?_, hab⟩, rfl⟩, hfr, fun k hk => ?_⟩
  · rcases h1 p h with h | h
    · exact hpa h
    · omega
  · rcases h2 p h with h | h
    · exact hpb h
    · omega
  · simp only [foot, List.mem_cons, List.mem_append] at hk ⊢
    rcases hk with h | h | h
    · exact .inl (.inl h)
    · exact (h1 k h).imp (fun h => .inr (.inl h)) id
    · exact (h2 k h).imp (fun h => .inr (.inr h)) id

/-- behind an append to 'behind', stored back -/
theorem WPost.pushed {opv : Value} {w W w1 w' : World} {p : Nat} {va vb : Value} {s' : WSt α} {r : Value} {g off cap n : Nat}
    (hp : w'.heap[p]? = some (.cells (K.row opv s'.nothing va (.slice (some ⟨g, off, none⟩) n cap) s'.sum s'.calls) K.tw (0, 0)))
    (ha : W.Sl K.tp (2 * K.k) va s'.ahead.length (s'.ahead.flatMap K.pair))
    (hb : w1.Sl K.te K.k (.slice (some ⟨g, off, none⟩) n cap) s'.behind.length (s'.behind.flatMap K.enc))
    (h0 : w.Fr W (foot p va vb)) (h1 : W.Fr w1 vb.blk) (h2 : w1.Fr w' [p]) (hat : g ∈ vb.blk ∨ g = W.heap.size)
    (hpa : p ∉ va.blk) (hpb : p ∉ vb.blk) (hlt : p < w.heap.size) (hab : ∀ k, k ∈ va.blk → k ∉ vb.blk) : WPost K opv p w (foot p va vb) s' r (.returned r) w' := by
  have hpg : p ≠ g := by
    rcases hat with h | h
    · exact fun e => hpb (e ▸ h)
    · have := h0.size; omega
  have hva : ∀ k, k ∈ va.blk → k ∉ vb.blk := hab
  refine WPost.mk hp ((ha.fr h1 hab).fr h2 fun k hk => by simp; exact fun e => hpa (e ▸ hk)) (hb.fr h2 fun k hk => by simp [Value.blk] at hk ⊢; omega) ?_ (fun k hk => .inl hk) (fun k hk => ?_) hpa hpb hlt (fun k hk => ?_)
  · exact (h0.trans h1 fun j hj => .inl (by simp [foot, hj])).trans h2 fun j hj => .inl (by simp at hj; simp [foot, hj])
  · simp [Value.blk] at hk
    subst hk
    exact hat.imp id fun e => by have := h0.size; omega
  · simp [Value.blk]
    rintro rfl
    rcases hat with h | h
    · exact hab _ hk h
    · have := ha.lt _ hk; omega
end
end Go.Win
