/-
  What the document's made tells is the program's: plainly.
-/
import Derived.Test.YtikodapgceokhaaGreatRm6
namespace Go.Proofs.YtikodapgceokhaaGreat
open Go.RowKit

theorem insS_cons (x a : BA) (L : List BA) : insS x (a :: L) = if ltS a x = true then a :: insS x L else x :: a :: L := by
  unfold insS
  by_cases h : ltS a x = true
  · rw [if_pos h]; simp only [List.takeWhile_cons, List.dropWhile_cons, h, if_true, List.cons_append]
  · rw [if_neg h]
    have h' : ltS a x = false := by simpa using h
    simp only [List.takeWhile_cons, List.dropWhile_cons, h', Bool.false_eq_true, if_false, List.nil_append]
theorem insS_mem {x b : BA} : ∀ {L : List BA}, b ∈ insS x L ↔ b = x ∨ b ∈ L
  | [] => by simp [insS]
  | a :: L => by
    rw [insS_cons]
    split
    · rw [List.mem_cons, insS_mem (L := L), List.mem_cons]
      constructor
      · rintro (h | h | h) <;> simp [h]
      · rintro (h | h | h) <;> simp [h]
    · simp
theorem insS_pair {x : BA} : ∀ {L : List BA}, L.Pairwise (fun a b => ltS a b = true) → x ∉ L → (insS x L).Pairwise fun a b => ltS a b = true
  | [], _, _ => by simp [insS]
  | a :: L, h, hx => by
    obtain ⟨h1, h2⟩ := List.pairwise_cons.1 h
    rw [insS_cons]
    split
    · rename_i hax
      refine List.pairwise_cons.2 ⟨fun b hb => ?_, insS_pair h2 (fun hm => hx (List.mem_cons_of_mem _ hm))⟩
      rcases insS_mem.1 hb with rfl | hb
      · exact hax
      · exact h1 b hb
    · rename_i hax
      have hxa : ltS x a = true := by
        have hne : x ≠ a := fun e => hx (by rw [e]; simp)
        have hp := pair_of_nodup (l := [x, a]) (by simp [hne]) (by simp; simpa using hax)
        simpa using hp
      refine List.pairwise_cons.2 ⟨fun b hb => ?_, h⟩
      rcases List.mem_cons.1 hb with rfl | hb
      · exact hxa
      · exact ltS_trans hxa (h1 b hb)
theorem risL_mem_iff (l : List BA) (s : BA) : s ∈ risL l ↔ s ∈ l := by
  suffices ∀ (l L : List BA), s ∈ l.foldl (fun L x => insS x L) L ↔ s ∈ L ∨ s ∈ l by
    have := this l []
    simpa [risL] using this
  intro l
  induction l with
  | nil => intro L; simp
  | cons a l ih =>
    intro L
    rw [List.foldl_cons, ih, insS_mem, List.mem_cons]
    constructor
    · rintro ((h | h) | h) <;> simp [h]
    · rintro (h | h | h) <;> simp [h]
theorem risL_sortS {l : List BA} (hn : l.Nodup) : risL l = sortS l := by
  have hp : ∀ (l L : List BA), l.Nodup → (∀ x, x ∈ l → x ∉ L) → L.Pairwise (fun a b => ltS a b = true) → (l.foldl (fun L x => insS x L) L).Pairwise fun a b => ltS a b = true := by
    intro l
    induction l with
    | nil => intro L _ _ h; exact h
    | cons a l ih =>
      intro L hn hd h
      rw [List.foldl_cons]
      obtain ⟨n1, n2⟩ := List.nodup_cons.1 hn
      refine ih _ n2 (fun x hx hm => ?_) (insS_pair h (hd a (by simp)))
      rcases insS_mem.1 hm with rfl | hm
      · exact n1 hx
      · exact hd x (by simp [hx]) hm
  refine names_one (hp l [] hn (by simp) List.Pairwise.nil) (sortS_pair hn) fun a => ?_
  rw [risL_mem_iff, (sortS_perm l).mem_iff]

section
variable {okv : V → Prop} {cf : V → V → Int} (h : OrdOk okv cf)
include h
theorem mergeP_rows : ∀ (n : Nat) (p q : List HR), p.length + q.length ≤ n → (∀ x, x ∈ p → ∀ y, y ∈ x.2 → okv y) → (∀ x, x ∈ q → ∀ y, y ∈ x.2 → okv y) →
    (p.map (·.2)).Pairwise (rlt cf) → (q.map (·.2)).Pairwise (rlt cf) → ((mergeP cf p q).map (·.2)).Pairwise (rlt cf) ∧ ∀ r, r ∈ (mergeP cf p q).map (·.2) ↔ r ∈ p.map (·.2) ∨ r ∈ q.map (·.2) := by
  intro n
  induction n with
  | zero =>
    intro p q hl _ _ _ hq
    have : p = [] := List.eq_nil_of_length_eq_zero (by omega)
    subst this
    rw [mergeP_nil]
    exact ⟨hq, fun r => by simp⟩
  | succ n ih =>
    intro p q hl op oq hp hq
    cases p with
    | nil => rw [mergeP_nil]; exact ⟨hq, fun r => by simp⟩
    | cons a p =>
      cases q with
      | nil => rw [mergeP_nil2]; exact ⟨hp, fun r => by simp⟩
      | cons b q =>
        simp only [List.length_cons] at hl
        have oa := op a (by simp)
        have ob := oq b (by simp)
        have op' : ∀ x, x ∈ p → ∀ y, y ∈ x.2 → okv y := fun x hx => op x (by simp [hx])
        have oq' : ∀ x, x ∈ q → ∀ y, y ∈ x.2 → okv y := fun x hx => oq x (by simp [hx])
        have rowp : ∀ r, r ∈ p.map (·.2) → ∀ y, y ∈ r → okv y := fun r hr => by obtain ⟨x, hx, rfl⟩ := List.mem_map.1 hr; exact op' x hx
        have rowq : ∀ r, r ∈ q.map (·.2) → ∀ y, y ∈ r → okv y := fun r hr => by obtain ⟨x, hx, rfl⟩ := List.mem_map.1 hr; exact oq' x hx
        rw [List.map_cons] at hp hq
        obtain ⟨p1, p2⟩ := List.pairwise_cons.1 hp
        obtain ⟨q1, q2⟩ := List.pairwise_cons.1 hq
        rw [mergeP_cons]
        by_cases h1 : rcmp cf a.2 b.2 < 0
        · rw [if_pos h1]
          obtain ⟨m1, m2⟩ := ih p (b :: q) (by simp only [List.length_cons]; omega) op' oq p2 (by rw [List.map_cons]; exact hq)
          refine ⟨?_, fun r => ?_⟩
          · rw [List.map_cons]
            refine List.pairwise_cons.2 ⟨fun r hr => ?_, m1⟩
            rcases (m2 r).1 hr with hr | hr
            · exact p1 r hr
            · rw [List.map_cons] at hr
              rcases List.mem_cons.1 hr with rfl | hr
              · exact h1
              · exact rcmp_trans h a.2 b.2 r oa ob (rowq r hr) h1 (q1 r hr)
          · rw [List.map_cons, List.mem_cons, m2 r, List.map_cons (l := p), List.mem_cons]
            constructor
            · rintro (x | x | x)
              · exact .inl (.inl x)
              · exact .inl (.inr x)
              · exact .inr x
            · rintro ((x | x) | x)
              · exact .inl x
              · exact .inr (.inl x)
              · exact .inr (.inr x)
        · rw [if_neg h1]
          by_cases h2 : 0 < rcmp cf a.2 b.2
          · rw [if_pos h2]
            have hba : rcmp cf b.2 a.2 < 0 := (rcmp_anti h b.2 a.2 ob oa).2 h2
            obtain ⟨m1, m2⟩ := ih (a :: p) q (by simp only [List.length_cons]; omega) op oq' (by rw [List.map_cons]; exact hp) q2
            refine ⟨?_, fun r => ?_⟩
            · rw [List.map_cons]
              refine List.pairwise_cons.2 ⟨fun r hr => ?_, m1⟩
              rcases (m2 r).1 hr with hr | hr
              · rw [List.map_cons] at hr
                rcases List.mem_cons.1 hr with rfl | hr
                · exact hba
                · exact rcmp_trans h b.2 a.2 r ob oa (rowp r hr) hba (p1 r hr)
              · exact q1 r hr
            · rw [List.map_cons, List.mem_cons, m2 r, List.map_cons (l := q), List.mem_cons]
              constructor
              · rintro (x | x | x)
                · exact .inr (.inl x)
                · exact .inl x
                · exact .inr (.inr x)
              · rintro (x | x | x)
                · exact .inr (.inl x)
                · exact .inl x
                · exact .inr (.inr x)
          · rw [if_neg h2]
            have hab : a.2 = b.2 := rcmp_zero h a.2 b.2 oa ob (by omega)
            obtain ⟨m1, m2⟩ := ih p q (by omega) op' oq' p2 q2
            refine ⟨?_, fun r => ?_⟩
            · rw [List.map_cons]
              refine List.pairwise_cons.2 ⟨fun r hr => ?_, m1⟩
              rcases (m2 r).1 hr with hr | hr
              · exact p1 r hr
              · rw [hab]; exact q1 r hr
            · rw [List.map_cons, List.mem_cons, m2 r, List.map_cons (l := p), List.mem_cons, List.map_cons (l := q), List.mem_cons, ← hab]
              constructor
              · rintro (x | x | x)
                · exact .inl (.inl x)
                · exact .inl (.inr x)
                · exact .inr (.inr x)
              · rintro ((x | x) | (x | x))
                · exact .inl x
                · exact .inr (.inl x)
                · exact .inl x
                · exact .inr (.inr x)
theorem sortP_rows : ∀ (n : Nat) (p : List HR), p.length ≤ n → (∀ x, x ∈ p → ∀ y, y ∈ x.2 → okv y) → ((sortP cf p).map (·.2)).Pairwise (rlt cf) ∧ ∀ r, r ∈ (sortP cf p).map (·.2) ↔ r ∈ p.map (·.2) := by
  intro n
  induction n with
  | zero =>
    intro p hl _
    have : p = [] := List.eq_nil_of_length_eq_zero (by omega)
    subst this
    rw [sortP_short (by simp)]
    exact ⟨List.Pairwise.nil, fun r => Iff.rfl⟩
  | succ n ih =>
    intro p hl op
    by_cases h2 : p.length < 2
    · rw [sortP_short h2]
      refine ⟨?_, fun r => Iff.rfl⟩
      match p, h2 with
      | [], _ => exact List.Pairwise.nil
      | [a], _ => simp
    · rw [sortP_long h2]
      have o1 : ∀ x, x ∈ p.take (p.length / 2) → ∀ y, y ∈ x.2 → okv y := fun x hx => op x (List.mem_of_mem_take hx)
      have o2 : ∀ x, x ∈ p.drop (p.length / 2) → ∀ y, y ∈ x.2 → okv y := fun x hx => op x (List.mem_of_mem_drop hx)
      obtain ⟨a1, a2⟩ := ih (p.take (p.length / 2)) (by rw [List.length_take]; omega) o1
      obtain ⟨b1, b2⟩ := ih (p.drop (p.length / 2)) (by rw [List.length_drop]; omega) o2
      have s1 := sortP_sub (cf := cf) _ (p.take (p.length / 2)) (Nat.le_refl _)
      have s2 := sortP_sub (cf := cf) _ (p.drop (p.length / 2)) (Nat.le_refl _)
      obtain ⟨m1, m2⟩ := mergeP_rows h _ (sortP cf (p.take (p.length / 2))) (sortP cf (p.drop (p.length / 2))) (Nat.le_refl _) (fun x hx => o1 x (s1.1 x hx)) (fun x hx => o2 x (s2.1 x hx)) a1 b1
      refine ⟨m1, fun r => ?_⟩
      rw [m2 r, a2 r, b2 r]
      have e := congrArg (List.map (·.2)) (List.take_append_drop (p.length / 2) p)
      rw [List.map_append] at e
      rw [← e, List.mem_append]
end
/-- what the document's made tells is the program's -/
theorem rmadeT_eq {okv : V → Prop} {cf : V → V → Int} (h : OrdOk okv cf) {l : List BA} {rs : List Row} {hs : List Value} (hn : l.Nodup) (hl : hs.length = rs.length) (hw : ∀ r, r ∈ rs → r.length = l.length) (hok : ∀ r, r ∈ rs → ∀ y, y ∈ r → okv y) : rmadeT cf l rs hs = madeT cf l rs := by
  unfold rmadeT madeT
  rw [risL_sortS hn]
  congr 1
  have hz : (hs.zip (rs.map fun r => pick l r (sortS l))).map (·.2) = rs.map fun r => pick l r (sortS l) := List.map_snd_zip (by rw [List.length_map]; omega)
  have hor : ∀ r, r ∈ (rs.map fun r => pick l r (sortS l)) → ∀ y, y ∈ r → okv y := fun r hr y hy => by
    obtain ⟨s, hs', rfl⟩ := List.mem_map.1 hr
    exact hok s hs' y (pick_mem (fun z hz => (sortS_perm l).mem_iff.1 hz) (hw s hs') hy)
  have hop : ∀ x, x ∈ (hs.zip (rs.map fun r => pick l r (sortS l))) → ∀ y, y ∈ x.2 → okv y := fun x hx => hor x.2 (by rw [← hz]; exact List.mem_map_of_mem hx)
  obtain ⟨h1, h2⟩ := sortP_rows h _ _ (Nat.le_refl _) hop
  rw [hz] at h2
  exact (canon_eq h hor h1 h2).symm
end Go.Proofs.YtikodapgceokhaaGreat
