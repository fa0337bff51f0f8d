/-
  The order of names is total, in the words of the sort.
-/
import Derived.Test.YtikodapgceokhaaGreatOrder
namespace Go.Proofs.YtikodapgceokhaaGreat
open Go.RowKit Go.Sort

theorem less_irrefl : ∀ x : List UInt8, Op.bytesLess x x = false
  | [] => rfl
  | a :: x => by simp [Op.bytesLess, less_irrefl x]
theorem less_trans : ∀ x y z : List UInt8, Op.bytesLess x y = true → Op.bytesLess y z = true → Op.bytesLess x z = true
  | _, _, [], _, h => by simp [Op.bytesLess] at h
  | [], _, _ :: _, _, _ => by simp [Op.bytesLess]
  | _ :: _, [], _, h, _ => by simp [Op.bytesLess] at h
  | a :: x, b :: y, c :: z, h1, h2 => by
    simp only [Op.bytesLess, Bool.or_eq_true, decide_eq_true_eq, Bool.and_eq_true, beq_iff_eq] at h1 h2 ⊢
    rcases h1 with h1 | ⟨rfl, h1⟩
    · rcases h2 with h2 | ⟨rfl, h2⟩
      · exact .inl (UInt8.lt_trans h1 h2)
      · exact .inl h1
    · rcases h2 with h2 | ⟨rfl, h2⟩
      · exact .inl h2
      · exact .inr ⟨rfl, less_trans x y z h1 h2⟩
theorem less_total : ∀ x y : List UInt8, Op.bytesLess x y = false → Op.bytesLess y x = false → x = y
  | [], [], _, _ => rfl
  | [], _ :: _, h, _ => by simp [Op.bytesLess] at h
  | _ :: _, [], _, h => by simp [Op.bytesLess] at h
  | a :: x, b :: y, h1, h2 => by
    simp only [Op.bytesLess, Bool.or_eq_false_iff, decide_eq_false_iff_not, Bool.and_eq_false_iff, beq_eq_false_iff_ne] at h1 h2
    have hab : a = b := by
      have h3 := h1.1
      have h4 := h2.1
      exact UInt8.le_antisymm (UInt8.not_lt.1 h4) (UInt8.not_lt.1 h3)
    subst hab
    have e1 := h1.2.resolve_left (by simp)
    have e2 := h2.2.resolve_left (by simp)
    rw [less_total x y e1 e2]
theorem ltS_irrefl (x : BA) : ltS x x = false := less_irrefl _
theorem ltS_trans {x y z : BA} (h1 : ltS x y = true) (h2 : ltS y z = true) : ltS x z = true := less_trans _ _ _ h1 h2
theorem ltS_total {x y : BA} (h1 : ltS x y = false) (h2 : ltS y x = false) : x = y := toList_inj (less_total _ _ h1 h2)
theorem ltS_ntrans {x y z : BA} (h1 : ltS x y = false) (h2 : ltS y z = false) : ltS x z = false := by
  cases h3 : ltS x z with
  | false => rfl
  | true =>
    cases h4 : ltS z y with
    | true => rw [ltS_trans h3 h4] at h1; cases h1
    | false =>
      have := ltS_total h2 h4
      subst this
      rw [h3] at h1; cases h1

theorem lt_pcmp (l : List BA) (i j : Fin l.length) : ltOf (pcmp l) i j = ltS l[i] l[j] := by
  unfold ltOf pcmp
  cases ltS l[i] l[j] <;> simp
theorem pcmp_swo (l : List BA) : SWO (ltOf (pcmp l)) :=
  ⟨fun x => by rw [lt_pcmp]; exact ltS_irrefl _, fun x y z h1 h2 => by rw [lt_pcmp] at *; exact ltS_trans h1 h2, fun x y z h1 h2 => by rw [lt_pcmp] at *; exact ltS_ntrans h1 h2⟩
end Go.Proofs.YtikodapgceokhaaGreat
namespace Go.Proofs.YtikodapgceokhaaGreat
open Go.RowKit Go.Sort

abbrev encP {n : Nat} (i : Fin n) : Value := .int .i64 (i.1 : Int)
theorem perm_whole {α : Type} [Inhabited α] {d d' : Array α} (h : PermIn 0 d.size d d') : d'.toList.Perm d.toList ∧ d'.size = d.size := by
  obtain ⟨h1, _, h3⟩ := h
  refine ⟨?_, h1⟩
  have e1 : d.extract 0 d.size = d := by simp
  have e2 : d'.extract 0 d.size = d' := by rw [← h1]; simp
  rw [e1, e2] at h3
  exact h3
theorem sorted_pairs {α : Type} [Inhabited α] {lt : α → α → Bool} {d : Array α} (h : SortedIn lt 0 d.size d) : d.toList.Pairwise fun x y => lt y x = false := by
  rw [List.pairwise_iff_getElem]
  intro i j hi hj hij
  have hi' : i < d.size := by simpa using hi
  have hj' : j < d.size := by simpa using hj
  have := h i j (by omega) hij hj'
  rw [getElem!_pos d i hi', getElem!_pos d j hj'] at this
  simpa using this

theorem sort99 {w : World} {v v2 : Value} {l : List BA} (hne : 0 < l.length) (hl : l.length ≤ 8796093021952) (h : w.Sl 3 1 v l.length ((List.finRange l.length).map encP)) (hr : RdStr w v2 l) (cb : Nat) (hb : w.heap[cb]? = some (.cells #[v2] 22 (0, 0))) (hcb : cb ∉ v.blk) (hv2 : ∀ k, k ∈ v2.rblk → k ∉ v.blk) :
    Calls Tryz.prog 99 #[v, .func (.func 100) #[] #[.pointer (some ⟨cb, 0, none⟩)]] w fun e w' => e = .returned (.tuple #[]) ∧ ∃ os : List (Fin l.length), os.Perm (List.finRange l.length) ∧ (os.Pairwise fun x y => ltS l[y] l[x] = false) ∧ w'.Sl 3 1 v l.length (os.map encP) ∧ w.Fr w' v.blk := by
  haveI : Inhabited (Fin l.length) := ⟨⟨0, hne⟩⟩
  have hfl : (List.finRange l.length).length = l.length := by simp
  obtain ⟨g, off, c, rfl, _, _, hg, _, _⟩ := h.form hne
  have h' : w.Sl 3 1 (.slice (some ⟨g, off, none⟩) (List.finRange l.length).length c) (List.finRange l.length).length ((List.finRange l.length).map encP) := by rw [hfl]; exact h
  have e1 : (List.finRange l.length).toArray.size = l.length := by simp
  have hcmp : CmpLays1 Tryz.prog 100 #[.pointer (some ⟨cb, 0, none⟩)] encP (pcmp l) g off (List.finRange l.length).toArray.size w := fun m os dk hs x y => by
    have hf := (h'.sorted dk (by rw [hs, e1, hfl]) m os).2
    refine (order100 (hr.fr hf (fun k hk hk2 => hv2 k hk (by simpa [Value.blk] using hk2))) cb (hf.heap hb (fun hk => hcb (by simpa [Value.blk] using hk))) x y).mono fun e w' ⟨he, q, hw⟩ => ⟨he, q, #[], by rw [hw, Sort.grow_empty]⟩
  have hc := Tryz.slices_SortFunc encP (fun _ => rfl) (pcmp l) (pcmp_swo l) 100 #[.pointer (some ⟨cb, 0, none⟩)] g off c (List.finRange l.length).toArray w (fun args w => by kernel_rfl) hcmp h'.holds hg (by rw [e1]; omega)
  rw [e1] at hc
  refine hc.mono fun e w' ⟨he, d', n, os, hp, hs, hw⟩ => ⟨he, d'.toList, ?_⟩
  have hp' := perm_whole (d := (List.finRange l.length).toArray) (by rw [e1]; exact hp)
  have hsz : d'.size = l.length := by rw [hp'.2, e1]
  obtain ⟨h1, h2⟩ := h'.sorted d' (by rw [hsz, hfl]) n os
  rw [← hw, hfl] at h1
  rw [← hw] at h2
  refine ⟨hp'.1, ?_, h1, by simpa [Value.blk] using h2⟩
  have hs' := sorted_pairs (lt := ltOf (pcmp l)) (by rw [hsz]; exact hs)
  exact hs'.imp fun {x y} hxy => by rw [lt_pcmp] at hxy; exact hxy
end Go.Proofs.YtikodapgceokhaaGreat
