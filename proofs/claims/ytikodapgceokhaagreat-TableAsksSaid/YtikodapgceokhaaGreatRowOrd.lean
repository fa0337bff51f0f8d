/-
  The order of rows, of one of values: plainly.
-/
import Derived.Test.YtikodapgceokhaaGreatCompact2
namespace Go.Proofs.YtikodapgceokhaaGreat
open Go.RowKit Go.Sort

/-- a total order of the values of which okv holds -/
structure OrdOk (okv : V → Prop) (cf : V → V → Int) : Prop where
  self : ∀ a, okv a → cf a a = 0
  zero : ∀ a b, okv a → okv b → cf a b = 0 → a = b
  anti : ∀ a b, okv a → okv b → (cf a b < 0 ↔ 0 < cf b a)
  trans : ∀ a b c, okv a → okv b → okv c → cf a b < 0 → cf b c < 0 → cf a c < 0

section
variable {okv : V → Prop} {cf : V → V → Int} (h : OrdOk okv cf)
include h
theorem rcmp_self : ∀ r : Row, (∀ x, x ∈ r → okv x) → rcmp cf r r = 0
  | [], _ => by simp [rcmp, Lib.compareInt]
  | a :: t, ho => by
    have := h.self a (ho a (by simp))
    simp [rcmp, this, rcmp_self t (fun x hx => ho x (by simp [hx]))]
theorem rcmp_zero : ∀ r s : Row, (∀ x, x ∈ r → okv x) → (∀ x, x ∈ s → okv x) → rcmp cf r s = 0 → r = s
  | [], [], _, _, _ => rfl
  | [], b :: s, _, _, hz => by simp [rcmp, Lib.compareInt] at hz
  | a :: r, [], _, _, hz => by simp [rcmp, Lib.compareInt] at hz; split at hz <;> (try split at hz) <;> omega
  | a :: r, b :: s, h1, h2, hz => by
    simp only [rcmp] at hz
    by_cases h0 : cf a b = 0
    · rw [if_pos h0] at hz
      rw [h.zero a b (h1 a (by simp)) (h2 b (by simp)) h0, rcmp_zero r s (fun x hx => h1 x (by simp [hx])) (fun x hx => h2 x (by simp [hx])) hz]
    · rw [if_neg h0] at hz
      exact absurd hz h0
theorem rcmp_anti : ∀ r s : Row, (∀ x, x ∈ r → okv x) → (∀ x, x ∈ s → okv x) → (rcmp cf r s < 0 ↔ 0 < rcmp cf s r)
  | [], [], _, _ => by simp [rcmp, Lib.compareInt]
  | [], b :: s, _, _ => by simp [rcmp, Lib.compareInt]; (repeat' split) <;> omega
  | a :: r, [], _, _ => by simp [rcmp, Lib.compareInt]; (repeat' split) <;> omega
  | a :: r, b :: s, h1, h2 => by
    have ha := h1 a (by simp)
    have hb := h2 b (by simp)
    have h3 := h.anti a b ha hb
    have h4 := h.anti b a hb ha
    have ih := rcmp_anti r s (fun x hx => h1 x (by simp [hx])) (fun x hx => h2 x (by simp [hx]))
    simp only [rcmp]
    by_cases h0 : cf a b = 0
    · have h5 : cf b a = 0 := by omega
      rw [if_pos h0, if_pos h5]
      exact ih
    · have h5 : cf b a ≠ 0 := by omega
      rw [if_neg h0, if_neg h5]
      exact h3
theorem rcmp_trans : ∀ r s t : Row, (∀ x, x ∈ r → okv x) → (∀ x, x ∈ s → okv x) → (∀ x, x ∈ t → okv x) → rcmp cf r s < 0 → rcmp cf s t < 0 → rcmp cf r t < 0
  | r, s, [], _, _, _, _, h2 => by
    cases s <;> simp [rcmp, Lib.compareInt] at h2 <;> split at h2 <;> (try split at h2) <;> omega
  | r, [], c :: t, _, _, _, h1, _ => by
    cases r <;> simp [rcmp, Lib.compareInt] at h1 <;> split at h1 <;> (try split at h1) <;> omega
  | [], b :: s, c :: t, _, _, _, _, _ => by simp [rcmp, Lib.compareInt]
  | a :: r, b :: s, c :: t, h1, h2, h3, e1, e2 => by
    have ha := h1 a (by simp)
    have hb := h2 b (by simp)
    have hc := h3 c (by simp)
    have ih := rcmp_trans r s t (fun x hx => h1 x (by simp [hx])) (fun x hx => h2 x (by simp [hx])) (fun x hx => h3 x (by simp [hx]))
    simp only [rcmp] at e1 e2 ⊢
    by_cases h0 : cf a b = 0
    · have := h.zero a b ha hb h0
      subst this
      rw [if_pos h0] at e1
      by_cases h5 : cf a c = 0
      · rw [if_pos h5] at e2 ⊢
        exact ih e1 e2
      · rw [if_neg h5] at e2 ⊢
        exact e2
    · rw [if_neg h0] at e1
      by_cases h5 : cf b c = 0
      · have := h.zero b c hb hc h5
        subst this
        rw [if_neg h0]
        exact e1
      · rw [if_neg h5] at e2
        have := h.trans a b c ha hb hc e1 e2
        rw [if_neg (by omega)]
        exact this
theorem rowOrd : RowOrd okv cf := by
  refine ⟨fun x => ?_, fun x y z h1 h2 => ?_, fun x y z h1 h2 => ?_⟩
  · simp [rcmp_self h x.1 x.2]
  · simp only [decide_eq_true_eq] at *
    exact rcmp_trans h x.1 y.1 z.1 x.2 y.2 z.2 h1 h2
  · simp only [decide_eq_false_iff_not] at *
    intro h3
    have a1 := rcmp_anti h z.1 x.1 z.2 x.2
    by_cases h4 : rcmp cf z.1 y.1 = 0
    · have := rcmp_zero h z.1 y.1 z.2 y.2 h4
      rw [← this] at h1
      exact h1 h3
    · have h5 : rcmp cf z.1 y.1 < 0 := by
        have b1 := rcmp_anti h y.1 z.1 y.2 z.2
        omega
      exact h1 (rcmp_trans h x.1 z.1 y.1 x.2 z.2 y.2 h3 h5)
end
end Go.Proofs.YtikodapgceokhaaGreat
