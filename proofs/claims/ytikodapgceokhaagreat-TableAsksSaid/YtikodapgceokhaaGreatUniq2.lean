/-
  Two lists that rise strictly and have the same members are one.
-/
import Derived.Test.YtikodapgceokhaaGreatStrict
namespace Go.Proofs.YtikodapgceokhaaGreat

theorem strict_one {α : Type} {lt : α → α → Prop} (irr : ∀ a, ¬ lt a a) (asy : ∀ a b, lt a b → ¬ lt b a) : ∀ l m : List α, l.Pairwise lt → m.Pairwise lt → (∀ a, a ∈ l ↔ a ∈ m) → l = m
  | [], [], _, _, _ => rfl
  | [], b :: m, _, _, h => absurd ((h b).2 (by simp)) (by simp)
  | a :: l, [], _, _, h => absurd ((h a).1 (by simp)) (by simp)
  | a :: l, b :: m, h1, h2, h => by
    obtain ⟨l1, l2⟩ := List.pairwise_cons.1 h1
    obtain ⟨m1, m2⟩ := List.pairwise_cons.1 h2
    have hab : a = b := by
      rcases List.mem_cons.1 ((h a).1 (by simp)) with e | ha
      · exact e
      · rcases List.mem_cons.1 ((h b).2 (by simp)) with e | hb
        · exact e.symm
        · exact absurd (l1 b hb) (asy _ _ (m1 a ha))
    subst hab
    rw [strict_one irr asy l m l2 m2 (fun x => ?_)]
    constructor
    · intro hx
      rcases List.mem_cons.1 ((h x).1 (by simp [hx])) with rfl | hm
      · exact absurd (l1 _ hx) (irr _)
      · exact hm
    · intro hx
      rcases List.mem_cons.1 ((h x).2 (by simp [hx])) with rfl | hm
      · exact absurd (m1 _ hx) (irr _)
      · exact hm

theorem rows_one {okv : V → Prop} {cf : V → V → Int} (h : OrdOk okv cf) {l m : List Row} (hl : ∀ r, r ∈ l → ∀ x, x ∈ r → okv x) (h1 : l.Pairwise fun x y => rcmp cf x y < 0) (h2 : m.Pairwise fun x y => rcmp cf x y < 0) (hm : ∀ r, r ∈ l ↔ r ∈ m) : l = m := by
  have hml : ∀ r, r ∈ m → ∀ x, x ∈ r → okv x := fun r hr => hl r ((hm r).2 hr)
  refine strict_one (lt := fun x y => rcmp cf x y < 0 ∧ (∀ z, z ∈ x → okv z) ∧ (∀ z, z ∈ y → okv z)) (fun a ha => ?_) (fun a b hab hba => ?_) l m ?_ ?_ hm
  · have := rcmp_self h a ha.2.1
    omega
  · have := rcmp_anti h a b hab.2.1 hab.2.2
    omega
  · exact h1.imp_of_mem fun {x y} hx hy hxy => ⟨hxy, hl x hx, hl y hy⟩
  · exact h2.imp_of_mem fun {x y} hx hy hxy => ⟨hxy, hml x hx, hml y hy⟩
end Go.Proofs.YtikodapgceokhaaGreat
