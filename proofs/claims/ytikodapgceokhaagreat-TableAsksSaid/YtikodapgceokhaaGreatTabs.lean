/-
  What table's functions answer, plainly: names in order, rows by names, rows in order.
-/
import Derived.Test.YtikodapgceokhaaGreatUniq2
namespace Go.Proofs.YtikodapgceokhaaGreat
open Go.RowKit

instance : Inhabited V := ⟨⟨0, 0, 0, ⟨#[]⟩⟩⟩

theorem less_iff : ∀ x y : List UInt8, Op.bytesLess x y = true ↔ x < y
  | _, [] => by simp [Op.bytesLess]
  | [], _ :: _ => by simp [Op.bytesLess]
  | a :: x, b :: y => by
    simp only [Op.bytesLess, Bool.or_eq_true, decide_eq_true_eq, Bool.and_eq_true, beq_iff_eq, List.cons_lt_cons_iff, less_iff x y]
theorem ltS_data (a b : BA) : ltS a b = true ↔ a.data.toList < b.data.toList := by
  unfold ltS
  rw [less_iff, ByteArray.toList_eq, ByteArray.toList_eq]
theorem sortS_perm (l : List BA) : (sortS l).Perm l := by
  have h := (List.mergeSort_perm (l.map (·.data.toList)) fun x y => decide (x ≤ y)).map (fun x => (⟨x.toArray⟩ : BA))
  have e : (l.map (·.data.toList)).map (fun x => (⟨x.toArray⟩ : BA)) = l := by
    rw [List.map_map]
    conv => rhs; rw [← List.map_id l]
    exact List.map_congr_left fun s _ => by simp
  rw [e] at h
  exact h
theorem sortS_sorted (l : List BA) : (sortS l).Pairwise fun a b => ltS b a = false := by
  unfold sortS
  rw [List.pairwise_map]
  have h := List.pairwise_mergeSort (le := fun x y : List UInt8 => decide (x ≤ y)) (fun a b c h1 h2 => by
      simp only [decide_eq_true_eq] at *
      exact List.le_trans h1 h2) (fun a b => by
      simp only [Bool.or_eq_true, decide_eq_true_eq]
      exact List.le_total a b) (l.map (·.data.toList))
  refine h.imp fun {a b} hab => ?_
  have hab' : a ≤ b := by simpa using hab
  cases hc : ltS ⟨b.toArray⟩ ⟨a.toArray⟩ with
  | false => rfl
  | true =>
    have := (ltS_data _ _).1 hc
    simp only at this
    exact absurd this (List.not_lt.2 hab')
theorem pair_of_rises : ∀ l : List BA, Rises l → l.Pairwise fun a b => ltS a b = true
  | [], _ => List.Pairwise.nil
  | [a], _ => by simp
  | a :: b :: t, h => by
    have ih := pair_of_rises (b :: t) (fun i x y hx hy => h (i + 1) x y (by simpa using hx) (by simpa using hy))
    have h0 := h 0 a b rfl rfl
    refine List.pairwise_cons.2 ⟨fun c hc => ?_, ih⟩
    rcases List.mem_cons.1 hc with rfl | hc
    · exact h0
    · exact ltS_trans h0 ((List.pairwise_cons.1 ih).1 c hc)
theorem rises_of_pair {l : List BA} (h : l.Pairwise fun a b => ltS a b = true) : Rises l := fun i a b ha hb => by
  obtain ⟨h1, rfl⟩ := List.getElem?_eq_some_iff.1 ha
  obtain ⟨h2, rfl⟩ := List.getElem?_eq_some_iff.1 hb
  exact List.pairwise_iff_getElem.1 h i (i + 1) h1 h2 (by omega)
theorem nodup_of_pair {l : List BA} (h : l.Pairwise fun a b => ltS a b = true) : l.Nodup :=
  h.imp fun {a b} hab e => by subst e; rw [ltS_irrefl] at hab; cases hab
theorem pair_of_nodup {l : List BA} (hn : l.Nodup) (hs : l.Pairwise fun a b => ltS b a = false) : l.Pairwise fun a b => ltS a b = true := by
  have := List.Pairwise.and hn hs
  refine this.imp fun {a b} hab => ?_
  cases hc : ltS a b with
  | true => rfl
  | false => exact absurd (ltS_total hc hab.2) hab.1
theorem unlike_iff (l : List BA) : risesB (sortS l) = true ↔ l.Nodup := by
  constructor
  · intro h
    have : Rises (sortS l) := by
      unfold risesB at h; simpa using h
    exact (sortS_perm l).nodup_iff.1 (nodup_of_pair (pair_of_rises _ this))
  · intro h
    exact risesB_true (rises_of_pair (pair_of_nodup ((sortS_perm l).nodup_iff.2 h) (sortS_sorted l)))
theorem sortS_pair {l : List BA} (h : l.Nodup) : (sortS l).Pairwise fun a b => ltS a b = true := pair_of_nodup ((sortS_perm l).nodup_iff.2 h) (sortS_sorted l)
theorem names_one {l m : List BA} (h1 : l.Pairwise fun a b => ltS a b = true) (h2 : m.Pairwise fun a b => ltS a b = true) (h : ∀ a, a ∈ l ↔ a ∈ m) : l = m :=
  strict_one (lt := fun a b => ltS a b = true) (fun a ha => by rw [ltS_irrefl] at ha; cases ha) (fun a b hab hba => by have := ltS_trans hab hba; rw [ltS_irrefl] at this; cases this) l m h1 h2 h
theorem sortS_of_pair {l : List BA} (h : l.Pairwise fun a b => ltS a b = true) : sortS l = l :=
  names_one (sortS_pair (nodup_of_pair h)) h (fun _ => (sortS_perm l).mem_iff)

theorem idx_self {l : List BA} (hn : l.Nodup) (i : Nat) (hi : i < l.length) : idx l l[i] = i := by
  refine idx_at i (List.getElem?_eq_getElem hi) (beq_self_eq_true _) fun j a hj ha => ?_
  obtain ⟨h1, rfl⟩ := List.getElem?_eq_some_iff.1 ha
  refine beq_eq_false_iff_ne.2 fun e => ?_
  have := List.pairwise_iff_getElem.1 hn j i h1 hi hj
  exact this (toList_inj e).symm

/-- a row's values for some names -/
def pick (l : List BA) (r : Row) (want : List BA) : Row := want.map fun x => r.getD (idx l x).toNat default
theorem pick_len (l : List BA) (r : Row) (want : List BA) : (pick l r want).length = want.length := by simp [pick]
theorem pick_mem {l : List BA} {r : Row} {want : List BA} (hw : ∀ x, x ∈ want → x ∈ l) (hr : r.length = l.length) {v : V} (hv : v ∈ pick l r want) : v ∈ r := by
  obtain ⟨x, hx, rfl⟩ := List.mem_map.1 hv
  have h1 := idx_mem.2 (hw x hx)
  have h2 := idx_range l x
  have h3 : (idx l x).toNat < r.length := by omega
  rw [List.getD_eq_getElem?_getD, List.getElem?_eq_getElem h3]
  simp
theorem pick_order {l : List BA} (hn : l.Nodup) (r : Row) (os : List (Fin l.length)) : (os.map fun x => r.getD x.1 default) = pick l r (os.map fun x => l[x]) := by
  unfold pick
  rw [List.map_map]
  refine List.map_congr_left fun x _ => ?_
  have : idx l l[x] = x.1 := idx_self hn x.1 x.2
  simp only [Function.comp]
  rw [this]
  rfl
theorem finRange_get (l : List BA) : ((List.finRange l.length).map fun x => l[x]) = l := by
  apply List.ext_getElem
  · simp
  · intro i h1 h2
    simp
theorem order_names {l : List BA} (hn : l.Nodup) {os : List (Fin l.length)} (hp : os.Perm (List.finRange l.length)) (hs : os.Pairwise fun x y => ltS l[y] l[x] = false) : (os.map fun x => l[x]) = sortS l := by
  have h1 : (os.map fun x => l[x]).Perm l := by
    have := hp.map fun x => l[x]
    rw [finRange_get] at this
    exact this
  refine names_one (pair_of_nodup (h1.nodup_iff.2 hn) ?_) (sortS_pair hn) fun a => ?_
  · rw [List.pairwise_map]; exact hs
  · rw [h1.mem_iff, (sortS_perm l).mem_iff]

abbrev rlt (cf : V → V → Int) (x y : Row) : Prop := rcmp cf x y < 0
open Classical in
/-- rows so that they rise strictly, each once -/
noncomputable def canon (cf : V → V → Int) (rows : List Row) : List Row :=
  if h : ∃ m : List Row, m.Pairwise (rlt cf) ∧ ∀ r, r ∈ m ↔ r ∈ rows then Classical.choose h else []
theorem canon_eq {okv : V → Prop} {cf : V → V → Int} (h : OrdOk okv cf) {rows m : List Row} (hr : ∀ r, r ∈ rows → ∀ x, x ∈ r → okv x) (hp : m.Pairwise (rlt cf)) (hm : ∀ r, r ∈ m ↔ r ∈ rows) : canon cf rows = m := by
  have hex : ∃ m : List Row, m.Pairwise (rlt cf) ∧ ∀ r, r ∈ m ↔ r ∈ rows := ⟨m, hp, hm⟩
  unfold canon
  rw [dif_pos hex]
  obtain ⟨h1, h2⟩ := Classical.choose_spec hex
  exact rows_one h (fun r hr' => hr r ((h2 r).1 hr')) h1 hp (fun r => (h2 r).trans (hm r).symm)
/-- rows in order, each once, exist -/
theorem canon_ex {okv : V → Prop} {cf : V → V → Int} (h : OrdOk okv cf) : ∀ rows : List Row, (∀ r, r ∈ rows → ∀ x, x ∈ r → okv x) → ∃ m : List Row, m.Pairwise (rlt cf) ∧ ∀ r, r ∈ m ↔ r ∈ rows
  | [], _ => ⟨[], List.Pairwise.nil, fun _ => Iff.rfl⟩
  | a :: t, hr => by
    obtain ⟨m, h1, h2⟩ := canon_ex h t (fun r hr' => hr r (by simp [hr']))
    have ha := hr a (by simp)
    have hmo : ∀ r, r ∈ m → ∀ x, x ∈ r → okv x := fun r hr' => hr r (by simp [(h2 r).1 hr'])
    have key : ∀ n : List Row, n.Pairwise (rlt cf) → (∀ r, r ∈ n → ∀ x, x ∈ r → okv x) → ∃ k : List Row, k.Pairwise (rlt cf) ∧ ∀ r, r ∈ k ↔ r = a ∨ r ∈ n := by
      intro n
      induction n with
      | nil => intro _ _; exact ⟨[a], by simp, by simp⟩
      | cons b n ih =>
        intro hp ho
        obtain ⟨p1, p2⟩ := List.pairwise_cons.1 hp
        have hb := ho b (by simp)
        by_cases hab : a = b
        · exact ⟨b :: n, hp, fun r => by rw [hab]; simp⟩
        · by_cases hlt : rlt cf a b
          · refine ⟨a :: b :: n, List.pairwise_cons.2 ⟨fun c hc => ?_, hp⟩, fun r => by simp⟩
            rcases List.mem_cons.1 hc with rfl | hc
            · exact hlt
            · exact rcmp_trans h a b c ha hb (ho c (by simp [hc])) hlt (p1 c hc)
          · have hba : rlt cf b a := rcmp_lt_of h hb ha hlt (fun e => hab e.symm)
            obtain ⟨k, k1, k2⟩ := ih p2 (fun r hr' => ho r (by simp [hr']))
            refine ⟨b :: k, List.pairwise_cons.2 ⟨fun c hc => ?_, k1⟩, fun r => ?_⟩
            · rcases (k2 c).1 hc with rfl | hc
              · exact hba
              · exact p1 c hc
            · simp only [List.mem_cons, k2 r]
              constructor
              · rintro (x | x | x) <;> simp [x]
              · rintro (x | x | x) <;> simp [x]
    obtain ⟨k, k1, k2⟩ := key m h1 hmo
    exact ⟨k, k1, fun r => by rw [k2 r, h2 r]; simp⟩
theorem canon_spec {okv : V → Prop} {cf : V → V → Int} (h : OrdOk okv cf) {rows : List Row} (hr : ∀ r, r ∈ rows → ∀ x, x ∈ r → okv x) : (canon cf rows).Pairwise (rlt cf) ∧ ∀ r, r ∈ canon cf rows ↔ r ∈ rows := by
  obtain ⟨m, h1, h2⟩ := canon_ex h rows hr
  rw [canon_eq h hr h1 h2]
  exact ⟨h1, h2⟩

/-- a table of unlike names and rows that may be -/
noncomputable def madeT (cf : V → V → Int) (vars : List BA) (rows : List Row) : Tb := ⟨sortS vars, canon cf (rows.map fun r => pick vars r (sortS vars))⟩
end Go.Proofs.YtikodapgceokhaaGreat
