/-
  The document's sorted: rows so that they rise, each once.
-/
import Derived.Test.YtikodapgceokhaaGreatRm3
namespace Go.Proofs.YtikodapgceokhaaGreat
open Go.RowKit

/-- rows so that they rise, as the document makes them -/
def sortP (cf : V → V → Int) (p : List HR) : List HR :=
  if _h : p.length < 2 then p else mergeP cf (sortP cf (p.take (p.length / 2))) (sortP cf (p.drop (p.length / 2)))
termination_by p.length
decreasing_by
  · rw [List.length_take]; omega
  · rw [List.length_drop]; omega
theorem sortP_short {cf : V → V → Int} {p : List HR} (h : p.length < 2) : sortP cf p = p := by unfold sortP; rw [dif_pos h]
theorem sortP_long {cf : V → V → Int} {p : List HR} (h : ¬ p.length < 2) : sortP cf p = mergeP cf (sortP cf (p.take (p.length / 2))) (sortP cf (p.drop (p.length / 2))) := by
  conv => lhs; unfold sortP
  rw [dif_neg h]
theorem mergeP_mem {cf : V → V → Int} : ∀ (n : Nat) (p q : List HR) (x : HR), p.length + q.length ≤ n → x ∈ mergeP cf p q → x ∈ p ∨ x ∈ q := by
  intro n
  induction n with
  | zero =>
    intro p q x h hx
    have : p = [] := List.eq_nil_of_length_eq_zero (by omega)
    subst this
    rw [mergeP_nil] at hx
    exact .inr hx
  | succ n ih =>
    intro p q x h hx
    cases p with
    | nil => rw [mergeP_nil] at hx; exact .inr hx
    | cons a p =>
      cases q with
      | nil => rw [mergeP_nil2] at hx; exact .inl hx
      | cons b q =>
        rw [mergeP_cons] at hx
        simp only [List.length_cons] at h
        split at hx
        · rcases List.mem_cons.1 hx with rfl | hx
          · exact .inl (by simp)
          · rcases ih p (b :: q) x (by simp only [List.length_cons]; omega) hx with h1 | h1
            · exact .inl (List.mem_cons_of_mem _ h1)
            · exact .inr h1
        · split at hx
          · rcases List.mem_cons.1 hx with rfl | hx
            · exact .inr (by simp)
            · rcases ih (a :: p) q x (by simp only [List.length_cons]; omega) hx with h1 | h1
              · exact .inl h1
              · exact .inr (List.mem_cons_of_mem _ h1)
          · rcases List.mem_cons.1 hx with rfl | hx
            · exact .inl (by simp)
            · rcases ih p q x (by omega) hx with h1 | h1
              · exact .inl (List.mem_cons_of_mem _ h1)
              · exact .inr (List.mem_cons_of_mem _ h1)
theorem mergeP_len {cf : V → V → Int} : ∀ (n : Nat) (p q : List HR), p.length + q.length ≤ n → (mergeP cf p q).length ≤ p.length + q.length := by
  intro n
  induction n with
  | zero =>
    intro p q h
    have : p = [] := List.eq_nil_of_length_eq_zero (by omega)
    subst this
    rw [mergeP_nil]; simp
  | succ n ih =>
    intro p q h
    cases p with
    | nil => rw [mergeP_nil]; simp
    | cons a p =>
      cases q with
      | nil => rw [mergeP_nil2]; simp
      | cons b q =>
        rw [mergeP_cons]
        simp only [List.length_cons] at h
        split
        · have := ih p (b :: q) (by simp only [List.length_cons]; omega)
          simp only [List.length_cons] at this ⊢; omega
        · split
          · have := ih (a :: p) q (by simp only [List.length_cons]; omega)
            simp only [List.length_cons] at this ⊢; omega
          · have := ih p q (by omega)
            simp only [List.length_cons] at this ⊢; omega
theorem sortP_sub {cf : V → V → Int} : ∀ (n : Nat) (p : List HR), p.length ≤ n → (∀ x, x ∈ sortP cf p → x ∈ p) ∧ (sortP cf p).length ≤ p.length := by
  intro n
  induction n with
  | zero => intro p h; rw [sortP_short (by omega)]; exact ⟨fun x h => h, Nat.le_refl _⟩
  | succ n ih =>
    intro p h
    by_cases h2 : p.length < 2
    · rw [sortP_short h2]; exact ⟨fun x h => h, Nat.le_refl _⟩
    · rw [sortP_long h2]
      obtain ⟨i1, i2⟩ := ih (p.take (p.length / 2)) (by rw [List.length_take]; omega)
      obtain ⟨j1, j2⟩ := ih (p.drop (p.length / 2)) (by rw [List.length_drop]; omega)
      refine ⟨fun x hx => ?_, ?_⟩
      · rcases mergeP_mem _ _ _ x (Nat.le_refl _) hx with h1 | h1
        · exact List.mem_of_mem_take (i1 x h1)
        · exact List.mem_of_mem_drop (j1 x h1)
      · have h3 := mergeP_len (cf := cf) _ (sortP cf (p.take (p.length / 2))) (sortP cf (p.drop (p.length / 2))) (Nat.le_refl _)
        rw [List.length_take] at i2
        rw [List.length_drop] at j2
        omega
theorem rd_drop {w : World} {size g off n cap j : Nat} {xs : List Value} (h : w.Rd size (.slice (some ⟨g, off, none⟩) n cap) n xs) (hj : j ≤ n) : w.Rd size (.slice (some ⟨g, off + j * size, none⟩) (n - j) (cap - j)) (n - j) (xs.drop (j * size)) := by
  have e : (n - j) * size = n * size - j * size := Nat.sub_mul _ _ _
  have hle := Nat.mul_le_mul_right size hj
  refine ⟨by rw [List.length_drop, h.1, e], ?_⟩
  rcases h.2 with ⟨h0, a, c, he, hm⟩ | ⟨g', off', cap', he, hc, hm, hg, hcell⟩
  · cases he
    exact .inl ⟨by omega, _, _, by rw [Nat.zero_sub], by omega⟩
  · cases he
    refine .inr ⟨_, _, _, rfl, by omega, by omega, hg, fun k hk => ?_⟩
    rw [Nat.add_assoc, hcell (j * size + k) (by omega), List.getElem?_drop]

set_option maxRecDepth 100000 in
set_option maxHeartbeats 4000000 in
theorem rsorted105 {okv : V → Prop} {cf : V → V → Int} (hC : RCmpOk okv cf) : ∀ (N : Nat) (w : World) (v : Value) (p : List HR), p.length ≤ N → w.Rd 1 v p.length (p.map (·.1)) → (∀ x, x ∈ p → RdRow w x.1 x.2) →
    (∀ x, x ∈ p → (∀ y, y ∈ x.2 → okv y) ∧ x.2.length ≤ 8000000000000000000) → p.length ≤ 5864062014634 →
    Calls Tryz.prog 105 #[v] w fun e w' => ∃ u, e = .returned u ∧ w'.Rd 1 u (sortP cf p).length ((sortP cf p).map (·.1)) ∧ (u = v ∧ sortP cf p = p ∨ w'.Sl 32 1 u (sortP cf p).length ((sortP cf p).map (·.1)) ∧ ∀ k, k ∈ u.blk → w.heap.size ≤ k) ∧ w.Fr w' [] := by
  intro N
  induction N with
  | zero =>
    intro w v p hN hrd hrow hok hl
    have hp : p = [] := List.eq_nil_of_length_eq_zero (by omega)
    subst hp
    have hsp : sortP cf [] = [] := sortP_short (by simp)
    rw [hsp]
    obtain ⟨a, c, rfl, _, _⟩ := hrd.shape
    simp only [List.length_nil] at hrd ⊢
    have Hrd := Lib.hid hrd
    clear hrd hrow hok hl hN hsp
    go_enter Tryz.func105, Tryz.ntmps105
    go_wp2
    go_ret
    exact ⟨_, rfl, Hrd.out, .inl (by simp), World.Fr.refl w []⟩
  | succ N ih =>
    intro w v p hN hrd hrow hok hl
    obtain ⟨a, c, rfl, hc, hcm⟩ := hrd.shape
    by_cases h2 : p.length < 2
    · have hsp := sortP_short (cf := cf) h2
      rw [hsp]
      have d2 : decide ((p.length : Int) < 2) = true := decide_eq_true (by omega)
      have d2' : decide (p.length < 2) = true := decide_eq_true h2
      have Hrd := Lib.hid hrd
      clear hrd hrow hok hl hN hsp h2 hc hcm
      go_enter Tryz.func105, Tryz.ntmps105
      go_wp2
      go_ret
      exact ⟨_, rfl, Hrd.out, .inl (by simp), World.Fr.refl w []⟩
    · have hsp := sortP_long (cf := cf) h2
      have d2 : decide ((p.length : Int) < 2) = false := decide_eq_false (by omega)
      have d2' : decide (p.length < 2) = false := decide_eq_false h2
      obtain ⟨g, off, c', hve, _, _, hg, _⟩ := hrd.form (by omega)
      cases hve
      obtain ⟨k, hk⟩ : ∃ k, k = p.length / 2 := ⟨_, rfl⟩
      rw [← hk] at hsp
      have hk1 : k ≤ p.length := by omega
      have hk2 : 1 ≤ k := by omega
      have hk3 : k < p.length := by omega
      have r1 := rd_take hrd hk1
      have r2 := rd_drop hrd hk1
      rw [Nat.mul_one, ← List.map_take] at r1
      rw [Nat.mul_one, ← List.map_drop] at r2
      have e1 : (p.take k).length = k := by rw [List.length_take]; omega
      have e2 : (p.drop k).length = p.length - k := List.length_drop ..
      have s1 := sortP_sub (cf := cf) _ (p.take k) (Nat.le_refl _)
      have s2 := sortP_sub (cf := cf) _ (p.drop k) (Nat.le_refl _)
      have hsub1 : ∀ x, x ∈ sortP cf (p.take k) → x ∈ p := fun x hx => List.mem_of_mem_take (s1.1 x hx)
      have hsub2 : ∀ x, x ∈ sortP cf (p.drop k) → x ∈ p := fun x hx => List.mem_of_mem_drop (s2.1 x hx)
      have c1 := ih w (.slice (some ⟨g, off, none⟩) k c) (p.take k) (by omega) (by rw [e1]; exact r1) (fun x hx => hrow x (List.mem_of_mem_take hx)) (fun x hx => hok x (List.mem_of_mem_take hx)) (by omega)
      have c2 := fun w' (hf : w.Fr w' []) => ih w' (.slice (some ⟨g, off + k, none⟩) (p.length - k) (c - k)) (p.drop k) (by omega) (by rw [e2]; exact r2.fr hf (by simp)) (fun x hx => (hrow x (List.mem_of_mem_drop hx)).fr hf (by simp)) (fun x hx => hok x (List.mem_of_mem_drop hx)) (by omega)
      have hlen : (sortP cf (p.take k)).length + (sortP cf (p.drop k)).length ≤ 5864062014634 := by
        have := s1.2; have := s2.2; omega
      rw [hsp]
      have hi1 : (p.length : Int) / 2 = (k : Int) := by omega
      have hi2 : IntKind.i64.wrap (k : Int) = (k : Int) := IntWalk.i64_in _ (by omega)
      have hi3 : (k : Int) ≤ (p.length : Int) := by omega
      have hi4 : (p.length : Int) ≤ (c : Int) := by omega
      have hi5 : (k : Int) ≤ (c : Int) := by omega
      have C1 := Lib.hid c1; have C2 := Lib.hid c2; have Hrow := Lib.hid hrow; have Hok := Lib.hid hok; have Hl := Lib.hid hl; have Hlen := Lib.hid hlen; have Hs1 := Lib.hid hsub1; have Hs2 := Lib.hid hsub2; have HC := Lib.hid hC; have HK := Lib.hid hk
      clear c1 c2 hrd hrow hok hl hN hsp r1 r2 e1 e2 s1 s2 hsub1 hsub2 hlen hk ih hC
      go_enter Tryz.func105, Tryz.ntmps105
      go_wp2_with fail
      (with_reducible refine C1.out.mono ?_)
      rintro e w1 ⟨u1, rfl, hr1, ho1, hf1⟩
      obtain ⟨b1, d1, rfl, _, _⟩ := hr1.shape
      have c2 := C2.out w1 hf1
      have C2' := Lib.hid c2; have Hr1 := Lib.hid hr1; have Hf1 := Lib.hid hf1
      clear c2 hr1 hf1 ho1 C1 C2
      go_wp2_with fail
      (with_reducible refine C2'.out.mono ?_)
      rintro e w2 ⟨u2, rfl, hr2, ho2, hf2⟩
      obtain ⟨b2, d2, rfl, _, _⟩ := hr2.shape
      have hr1 := Hr1.out.fr hf2 (by simp)
      have hf := Hf1.out.trans hf2 (by simp)
      have hm := rmerged122 HC.out (p := sortP cf (p.take k)) (q := sortP cf (p.drop k)) (v1 := .slice b1 (sortP cf (p.take k)).length d1) (v2 := .slice b2 (sortP cf (p.drop k)).length d2) (w := w2)
        ⟨by rw [List.length_map]; exact hr1, by rw [List.length_map, List.length_map], fun i hv r h1 h2 => by
          rw [List.getElem?_map, Option.map_eq_some_iff] at h1 h2
          obtain ⟨x, hx, rfl⟩ := h1
          obtain ⟨y, hy, rfl⟩ := h2
          rw [hx] at hy
          cases hy
          exact (Hrow.out x (Hs1.out x (List.mem_of_getElem? hx))).fr hf (by simp)⟩
        ⟨by rw [List.length_map]; exact hr2, by rw [List.length_map, List.length_map], fun i hv r h1 h2 => by
          rw [List.getElem?_map, Option.map_eq_some_iff] at h1 h2
          obtain ⟨x, hx, rfl⟩ := h1
          obtain ⟨y, hy, rfl⟩ := h2
          rw [hx] at hy
          cases hy
          exact (Hrow.out x (Hs2.out x (List.mem_of_getElem? hx))).fr hf (by simp)⟩
        (fun x hx => Hok.out x (Hs1.out x hx)) (fun x hx => (Hok.out x (Hs2.out x hx)).1) Hlen.out
      have Hm := Lib.hid hm; have Hf := Lib.hid hf
      clear hm hf hr1 hr2 ho2 hf2 C2' Hr1 Hf1
      go_wp2_with fail
      (with_reducible refine Hm.out.mono ?_)
      rintro e w3 ⟨u3, rfl, hs3, hn3, hf3⟩
      have hfin := Hf.out.trans hf3 (by simp)
      have hnew : ∀ k, k ∈ u3.blk → w.heap.size ≤ k := fun k hk => by have := hn3 k hk; have := Hf.out.size; omega
      have Hs3 := Lib.hid hs3; have Hfin := Lib.hid hfin; have Hnew := Lib.hid hnew
      clear hs3 hn3 hf3 hfin hnew Hm Hf
      go_wp2
      go_ret
      exact ⟨_, rfl, Hs3.out.rd, .inr ⟨Hs3.out, Hnew.out⟩, Hfin.out⟩
end Go.Proofs.YtikodapgceokhaaGreat
