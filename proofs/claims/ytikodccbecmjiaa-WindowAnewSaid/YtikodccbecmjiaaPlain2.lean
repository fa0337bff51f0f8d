/-
  The plain law of a window, more: what stays true of a state (how long, how often the operation was called, what its things are), and what it stands for: a list, folded.
-/
import Derived.Test.YtikodccbecmjiaaWalkS4
namespace Go.Proofs.Ytikodccbecmjiaa
open Go.Win

section
variable {α : Type} (f : α → α → α) (ok : α → Prop)

/-- Push, refused at 4096 -/
def pushR (s : WSt α) (x : α) : WSt α := if s.len < 4096 then s.push f x else s
def pot (s : WSt α) : Nat := s.calls + s.behind.length

structure Good (B : Nat) (s : WSt α) : Prop where
  len : s.len ≤ 4096
  pot : pot s ≤ B
  ahead : ∀ q, q ∈ s.ahead → ok q.1 ∧ ok q.2
  behind : ∀ x, x ∈ s.behind → ok x
  sum : s.behind ≠ [] → ok s.sum

variable {f ok}

theorem push_len (s : WSt α) (x : α) : (s.push f x).len = s.len + 1 := by
  unfold WSt.push WSt.len
  cases h : s.behind <;> simp <;> omega

theorem Good.mono {B B' : Nat} {s : WSt α} (h : Good ok B s) (hB : B ≤ B') : Good ok B' s := ⟨h.len, Nat.le_trans h.pot hB, h.ahead, h.behind, h.sum⟩

theorem Good.push {B : Nat} {s : WSt α} {x : α} (h : Good ok B s) (hf : ∀ x y, ok x → ok y → ok (f x y)) (hx : ok x) (hl : s.len < 4096) : Good ok (B + 2) (s.push f x) := by
  have hp := h.pot
  unfold Go.Proofs.Ytikodccbecmjiaa.pot at hp
  refine ⟨by rw [push_len]; omega, ?_, ?_, ?_, ?_⟩
  · unfold WSt.push Go.Proofs.Ytikodccbecmjiaa.pot
    cases hb : s.behind <;> simp [hb] at hp ⊢ <;> omega
  · unfold WSt.push
    cases hb : s.behind <;> exact h.ahead
  · unfold WSt.push
    cases hb : s.behind with
    | nil => intro y hy; simp at hy; subst hy; exact hx
    | cons b r =>
      intro y hy
      simp only [List.mem_append, List.mem_singleton] at hy
      rcases hy with hy | rfl
      · exact h.behind y (by rw [hb]; exact hy)
      · exact hx
  · intro _
    unfold WSt.push
    cases hb : s.behind with
    | nil => exact hx
    | cons b r => exact hf _ _ (h.sum (by rw [hb]; simp)) hx

theorem Good.pushR {B : Nat} {s : WSt α} {x : α} (h : Good ok B s) (hf : ∀ x y, ok x → ok y → ok (f x y)) (hx : ok x) : Good ok (B + 2) (pushR f s x) := by
  unfold Go.Proofs.Ytikodccbecmjiaa.pushR
  split
  · rename_i hl; exact h.push hf hx hl
  · exact h.mono (by omega)

/-- what turn makes, from the back on -/
theorem turnAt_good {B : Nat} {s : WSt α} (h : Good ok B s) (hf : ∀ x y, ok x → ok y → ok (f x y)) (k : Nat) (hk : k ≤ s.behind.length) :
    (turnAt f s k).2 ≤ s.calls + (s.behind.length - k) ∧ ∀ q, q ∈ (turnAt f s k).1 → ok q.1 ∧ ok q.2 := by
  induction hd : s.behind.length - k generalizing k with
  | zero =>
    obtain rfl : k = s.behind.length := by omega
    rw [turnAt_end]
    exact ⟨by simp, h.ahead⟩
  | succ d ih =>
    obtain ⟨h1, h2⟩ := ih (k + 1) (by omega) (by omega)
    have hkl : k < s.behind.length := by omega
    rw [turnAt_succ f s k hkl]
    have hx := h.behind s.behind[k] (List.getElem_mem hkl)
    unfold turn1
    cases hl : (turnAt f s (k + 1)).1.getLast? with
    | none =>
      refine ⟨by simp only; omega, fun q hq => ?_⟩
      simp only [List.mem_append, List.mem_singleton] at hq
      rcases hq with hq | rfl
      · exact h2 q hq
      · exact ⟨hx, hx⟩
    | some q0 =>
      refine ⟨by simp only; omega, fun q hq => ?_⟩
      simp only [List.mem_append, List.mem_singleton] at hq
      rcases hq with hq | rfl
      · exact h2 q hq
      · exact ⟨hx, hf _ _ hx (h2 q0 (List.mem_of_getLast? hl)).2⟩
theorem turnAt_past (s : WSt α) (k : Nat) (hk : s.behind.length ≤ k) : turnAt f s k = (s.ahead, s.calls) := by
  unfold turnAt; rw [List.drop_of_length_le hk]; rfl

theorem Good.turned {B : Nat} {s : WSt α} (h : Good ok B s) (hf : ∀ x y, ok x → ok y → ok (f x y)) : Good ok B (s.turned f) := by
  unfold WSt.turned
  split
  · obtain ⟨h1, h2⟩ := turnAt_good h hf 0 (by omega)
    have hl := turnAt_len f s 0 (by omega)
    have hp := h.pot
    have hll := h.len
    unfold Go.Proofs.Ytikodccbecmjiaa.pot at hp
    rw [turnAt_zero]
    refine ⟨?_, ?_, h2, by simp, by simp⟩
    · unfold WSt.len at hll ⊢; simp only [List.length_nil]; omega
    · unfold Go.Proofs.Ytikodccbecmjiaa.pot; simp only [List.length_nil]; omega
  · exact h
theorem Good.cut {B : Nat} {s : WSt α} (h : Good ok B s) : Good ok B s.cut := by
  refine ⟨?_, h.pot, fun q hq => h.ahead q (List.dropLast_subset _ hq), h.behind, h.sum⟩
  have := h.len
  unfold WSt.len WSt.cut at *
  simp only [List.length_dropLast]
  omega
theorem Good.asked {B : Nat} {s : WSt α} (h : Good ok B s) : Good ok (B + 1) s.asked := by
  unfold WSt.asked
  split
  · exact ⟨h.len, by have := h.pot; unfold Go.Proofs.Ytikodccbecmjiaa.pot at *; simp only; omega, h.ahead, h.behind, h.sum⟩
  · exact h.mono (by omega)
theorem asked_same (s : WSt α) : s.asked.ahead = s.ahead ∧ s.asked.behind = s.behind ∧ s.asked.sum = s.sum ∧ s.asked.nothing = s.nothing := by
  unfold WSt.asked; split <;> exact ⟨rfl, rfl, rfl, rfl⟩
end
end Go.Proofs.Ytikodccbecmjiaa
