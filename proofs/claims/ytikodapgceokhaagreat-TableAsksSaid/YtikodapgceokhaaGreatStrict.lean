/-
  What is kept of sorted rows rises strictly, and has just the same rows: plainly.
-/
import Derived.Test.YtikodapgceokhaaGreatInts
namespace Go.Proofs.YtikodapgceokhaaGreat
open Go.RowKit

section
variable {okv : V → Prop} {cf : V → V → Int} (h : OrdOk okv cf)
include h
theorem rcmp_lt_of {r s : Row} (hr : ∀ x, x ∈ r → okv x) (hs : ∀ x, x ∈ s → okv x) (h1 : ¬ rcmp cf s r < 0) (hne : r ≠ s) : rcmp cf r s < 0 := by
  have a1 := rcmp_anti h s r hs hr
  have a2 := rcmp_anti h r s hr hs
  have a3 : rcmp cf r s ≠ 0 := fun e => hne (rcmp_zero h r s hr hs e)
  omega
theorem keep_strict (l : List HR) : ∀ (p : Option Row), (∀ x, x ∈ l → ∀ y, y ∈ x.2 → okv y) → (∀ q, p = some q → (∀ y, y ∈ q → okv y) ∧ ∀ x, x ∈ l → ¬ rcmp cf x.2 q < 0) → (l.Pairwise fun x y => ¬ rcmp cf y.2 x.2 < 0) →
    ((keep p l).Pairwise fun x y => rcmp cf x.2 y.2 < 0) ∧ (∀ q, p = some q → ∀ x, x ∈ keep p l → rcmp cf q x.2 < 0) ∧ (∀ r, r ∈ (keep p l).map (·.2) ↔ (r ∈ l.map (·.2) ∧ p ≠ some r)) := by
  induction l with
  | nil => intro p _ _ _; exact ⟨List.Pairwise.nil, by simp [keep], by simp [keep]⟩
  | cons x t ih =>
    intro p hok hp hs
    obtain ⟨hs1, hs2⟩ := List.pairwise_cons.1 hs
    have hx := hok x (by simp)
    obtain ⟨i1, i2, i3⟩ := ih (some x.2) (fun y hy => hok y (by simp [hy])) (fun q hq => by cases hq; exact ⟨hx, fun y hy => hs1 y hy⟩) hs2
    by_cases hpx : p = some x.2
    · have e : keep p (x :: t) = keep (some x.2) t := by simp [keep, eqB_true hpx]
      rw [e]
      refine ⟨i1, fun q hq y hy => ?_, fun r => ?_⟩
      · rw [hpx] at hq
        cases hq
        exact i2 x.2 rfl y hy
      · rw [i3 r, hpx]
        simp only [List.map_cons, List.mem_cons]
        constructor
        · rintro ⟨a, b⟩; exact ⟨.inr a, b⟩
        · rintro ⟨a | a, b⟩
          · exact absurd (by rw [a]) b
          · exact ⟨a, b⟩
    · have e : keep p (x :: t) = x :: keep (some x.2) t := by simp [keep, eqB_false hpx]
      rw [e]
      have hq0 : ∀ q, p = some q → rcmp cf q x.2 < 0 := fun q hq => by
        obtain ⟨ho, hl⟩ := hp q hq
        exact rcmp_lt_of h ho hx (hl x (by simp)) (fun e => hpx (by rw [hq, e]))
      have hin : ∀ y, y ∈ keep (some x.2) t → ∀ z, z ∈ y.2 → okv z := fun y hy => by
        have h2 : y.2 ∈ (keep (some x.2) t).map (·.2) := List.mem_map.2 ⟨y, hy, rfl⟩
        obtain ⟨u, hu, hue⟩ := List.mem_map.1 ((i3 y.2).1 h2).1
        have := hok u (by simp [hu])
        rw [hue] at this
        exact this
      refine ⟨List.pairwise_cons.2 ⟨fun y hy => i2 x.2 rfl y hy, i1⟩, fun q hq y hy => ?_, fun r => ?_⟩
      · rcases List.mem_cons.1 hy with rfl | hy
        · exact hq0 q hq
        · exact rcmp_trans h q x.2 y.2 (hp q hq).1 hx (hin y hy) (hq0 q hq) (i2 x.2 rfl y hy)
      · simp only [List.map_cons, List.mem_cons]
        rw [i3 r]
        constructor
        · rintro (rfl | ⟨a, b⟩)
          · exact ⟨.inl rfl, hpx⟩
          · refine ⟨.inr a, fun hpr => ?_⟩
            obtain ⟨u, hu, rfl⟩ := List.mem_map.1 a
            have h5 := hq0 _ hpr
            have h6 := hs1 u hu
            have h7 := rcmp_anti h u.2 x.2 (hok u (by simp [hu])) hx
            omega
        · rintro ⟨a | a, b⟩
          · exact .inl a
          · by_cases hr : r = x.2
            · exact .inl hr
            · exact .inr ⟨a, fun e => hr (by injection e with e; exact e.symm)⟩
theorem compact_strict (l : List HR) (hok : ∀ x, x ∈ l → ∀ y, y ∈ x.2 → okv y) (hs : l.Pairwise fun x y => ¬ rcmp cf y.2 x.2 < 0) :
    ((compactP l).Pairwise fun x y => rcmp cf x.2 y.2 < 0) ∧ ∀ r, r ∈ (compactP l).map (·.2) ↔ r ∈ l.map (·.2) := by
  obtain ⟨a, _, c⟩ := keep_strict h l none hok (by simp) hs
  exact ⟨a, fun r => by rw [show (compactP l) = keep none l from rfl, c r]; simp⟩
end
end Go.Proofs.YtikodapgceokhaaGreat
