/-
  The order of rows, of one of values: plainly. What is kept of sorted rows rises strictly, and has just the same rows: plainly. Two lists that rise strictly and have the same members are one. What table's functions answer, plainly: names in order, rows by names, rows in order. The order of all values that may be, fractions among them: plainly.
-/
import Derived.Test.YtbejmdlncnkaaaaGreatSor
namespace Go.Proofs.YtbejmdlncnkaaaaGreat
section
open Go.RowKit Go.Sort
structure OrdOk (okv : V -> Prop) (cf : V -> V -> Int) : Prop where
 self : ∀ a, okv a -> cf a a = 0
 zero : ∀ a b, okv a -> okv b -> cf a b = 0 -> a = b
 anti : ∀ a b, okv a -> okv b -> (cf a b < 0 ↔ 0 < cf b a)
 trans : ∀ a b c, okv a -> okv b -> okv c -> cf a b < 0 -> cf b c < 0 -> cf a c < 0
section
variable {okv : V -> Prop} {cf : V -> V -> Int} (h : OrdOk okv cf)
include h
theorem rcmp_self : ∀ r : Row, (∀ x, x ∈ r -> okv x) -> rcmp cf r r = 0
 | [], _ => by simp [rcmp, Lib.compareInt]
 | a :: t, ho => by
  have := h.self a (ho a (by simp))
  simp [rcmp, this, rcmp_self t (fun x hx => ho x (by simp [hx]))]
theorem rcmp_zero : ∀ r s : Row, (∀ x, x ∈ r -> okv x) -> (∀ x, x ∈ s -> okv x) -> rcmp cf r s = 0 -> r = s
 | [], [], _, _, _ => rfl
 | [], b :: s, _, _, hz => by simp [rcmp, Lib.compareInt] at hz
 | a :: r, [], _, _, hz => by simp [rcmp, Lib.compareInt] at hz; split at hz <;> (try split at hz) <;> omega
 | a :: r, b :: s, h1, h2, hz => by
  simp only [rcmp] at hz
  by_cases h0 : cf a b = 0
  ·rw [if_pos h0] at hz
   rw [h.zero a b (h1 a (by simp)) (h2 b (by simp)) h0, rcmp_zero r s (fun x hx => h1 x (by simp [hx])) (fun x hx => h2 x (by simp [hx])) hz]
  ·rw [if_neg h0] at hz
   exact absurd hz h0
theorem rcmp_anti : ∀ r s : Row, (∀ x, x ∈ r -> okv x) -> (∀ x, x ∈ s -> okv x) -> (rcmp cf r s < 0 ↔ 0 < rcmp cf s r)
 | [], [], _, _ => by simp [rcmp, Lib.compareInt]
 | [], b :: s, _, _ => by simp [rcmp, Lib.compareInt]; (repeat' split) <;> omega
 | a :: r, [], _, _ => by simp [rcmp, Lib.compareInt]; (repeat' split) <;> omega
 | a :: r, b :: s, h1, h2 => by
  have ha := h1 a (by simp)
  have hb := h2 b (by simp)
  have h3 := h.anti a b ha hb
  have h4 := h.anti b a hb ha
  have ih := rcmp_anti r s (fun x hx => h1 x (by simp [hx])) (fun x hx => h2 x (by simp [hx]))
  simp only [rcmp]
  by_cases h0 : cf a b = 0
  ·have h5 : cf b a = 0 := by omega
   rw [if_pos h0, if_pos h5]
   exact ih
  ·have h5 : cf b a ≠ 0 := by omega
   rw [if_neg h0, if_neg h5]
   exact h3
theorem rcmp_trans : ∀ r s t : Row, (∀ x, x ∈ r -> okv x) -> (∀ x, x ∈ s -> okv x) -> (∀ x, x ∈ t -> okv x) -> rcmp cf r s < 0 -> rcmp cf s t < 0 -> rcmp cf r t < 0
 | r, s, [], _, _, _, _, h2 => by
  cases s <;> simp [rcmp, Lib.compareInt] at h2 <;> split at h2 <;> (try split at h2) <;> omega
 | r, [], c :: t, _, _, _, h1, _ => by
  cases r <;> simp [rcmp, Lib.compareInt] at h1 <;> split at h1 <;> (try split at h1) <;> omega
 | [], b :: s, c :: t, _, _, _, _, _ => by simp [rcmp, Lib.compareInt]
 | a :: r, b :: s, c :: t, h1, h2, h3, e1, e2 => by
  have ha := h1 a (by simp)
  have hb := h2 b (by simp)
  have hc := h3 c (by simp)
  have ih := rcmp_trans r s t (fun x hx => h1 x (by simp [hx])) (fun x hx => h2 x (by simp [hx])) (fun x hx => h3 x (by simp [hx]))
  simp only [rcmp] at e1 e2 ⊢
  by_cases h0 : cf a b = 0
  ·have := h.zero a b ha hb h0
   subst this
   rw [if_pos h0] at e1
   by_cases h5 : cf a c = 0
   ·rw [if_pos h5] at e2 ⊢
    exact ih e1 e2
   ·rw [if_neg h5] at e2 ⊢
    exact e2
  ·rw [if_neg h0] at e1
   by_cases h5 : cf b c = 0
   ·have := h.zero b c hb hc h5
    subst this
    rw [if_neg h0]
    exact e1
   ·rw [if_neg h5] at e2
    have := h.trans a b c ha hb hc e1 e2
    rw [if_neg (by omega)]
    exact this
theorem rowOrd : RowOrd okv cf := by
 refine ⟨fun x => ?_, fun x y z h1 h2 => ?_, fun x y z h1 h2 => ?_⟩
 ·simp [rcmp_self h x.1 x.2]
 ·simp only [decide_eq_true_eq] at *
  exact rcmp_trans h x.1 y.1 z.1 x.2 y.2 z.2 h1 h2
 ·simp only [decide_eq_false_iff_not] at *
  intro h3
  have a1 := rcmp_anti h z.1 x.1 z.2 x.2
  by_cases h4 : rcmp cf z.1 y.1 = 0
  ·have := rcmp_zero h z.1 y.1 z.2 y.2 h4
   rw [<- this] at h1
   exact h1 h3
  ·have h5 : rcmp cf z.1 y.1 < 0 := by
    have b1 := rcmp_anti h y.1 z.1 y.2 z.2
    omega
   exact h1 (rcmp_trans h x.1 z.1 y.1 x.2 z.2 y.2 h3 h5)
end
end
section
open Go.RowKit
section
variable {okv : V -> Prop} {cf : V -> V -> Int} (h : OrdOk okv cf)
include h
theorem rcmp_lt_of {r s : Row} (hr : ∀ x, x ∈ r -> okv x) (hs : ∀ x, x ∈ s -> okv x) (h1 : ¬ rcmp cf s r < 0) (hne : r ≠ s) : rcmp cf r s < 0 := by
 have a1 := rcmp_anti h s r hs hr
 have a2 := rcmp_anti h r s hr hs
 have a3 : rcmp cf r s ≠ 0 := fun e => hne (rcmp_zero h r s hr hs e)
 omega
theorem keep_strict (l : List HR) : ∀ (p : Option Row), (∀ x, x ∈ l -> ∀ y, y ∈ x.2 -> okv y) -> (∀ q, p = some q -> (∀ y, y ∈ q -> okv y) /\ ∀ x, x ∈ l -> ¬ rcmp cf x.2 q < 0) -> (l.Pairwise fun x y => ¬ rcmp cf y.2 x.2 < 0) ->
  ((keep p l).Pairwise fun x y => rcmp cf x.2 y.2 < 0) /\ (∀ q, p = some q -> ∀ x, x ∈ keep p l -> rcmp cf q x.2 < 0) /\ (∀ r, r ∈ (keep p l).map (·.2) ↔ (r ∈ l.map (·.2) /\ p ≠ some r)) := by
 induction l with
 | nil => intro p _ _ _; exact ⟨List.Pairwise.nil, by simp [keep], by simp [keep]⟩
 | cons x t ih =>
  intro p hok hp hs
  obtain ⟨hs1, hs2⟩ := List.pairwise_cons.1 hs
  have hx := hok x (by simp)
  obtain ⟨i1, i2, i3⟩ := ih (some x.2) (fun y hy => hok y (by simp [hy])) (fun q hq => by cases hq; exact ⟨hx, fun y hy => hs1 y hy⟩) hs2
  by_cases hpx : p = some x.2
  ·have e : keep p (x :: t) = keep (some x.2) t := by simp [keep, eqB_true hpx]
   rw [e]
   refine ⟨i1, fun q hq y hy => ?_, fun r => ?_⟩
   ·rw [hpx] at hq
    cases hq
    exact i2 x.2 rfl y hy
   ·rw [i3 r, hpx]
    simp only [List.map_cons, List.mem_cons]
    constructor
    ·rintro ⟨a, b⟩; exact ⟨.inr a, b⟩
    ·rintro ⟨a | a, b⟩
     ·exact absurd (by rw [a]) b
     ·exact ⟨a, b⟩
  ·have e : keep p (x :: t) = x :: keep (some x.2) t := by simp [keep, eqB_false hpx]
   rw [e]
   have hq0 : ∀ q, p = some q -> rcmp cf q x.2 < 0 := fun q hq => by
    obtain ⟨ho, hl⟩ := hp q hq
    exact rcmp_lt_of h ho hx (hl x (by simp)) (fun e => hpx (by rw [hq, e]))
   have hin : ∀ y, y ∈ keep (some x.2) t -> ∀ z, z ∈ y.2 -> okv z := fun y hy => by
    have h2 : y.2 ∈ (keep (some x.2) t).map (·.2) := List.mem_map.2 ⟨y, hy, rfl⟩
    obtain ⟨u, hu, hue⟩ := List.mem_map.1 ((i3 y.2).1 h2).1
    have := hok u (by simp [hu])
    rw [hue] at this
    exact this
   refine ⟨List.pairwise_cons.2 ⟨fun y hy => i2 x.2 rfl y hy, i1⟩, fun q hq y hy => ?_, fun r => ?_⟩
   ·rcases List.mem_cons.1 hy with rfl | hy
    ·exact hq0 q hq
    ·exact rcmp_trans h q x.2 y.2 (hp q hq).1 hx (hin y hy) (hq0 q hq) (i2 x.2 rfl y hy)
   ·simp only [List.map_cons, List.mem_cons]
    rw [i3 r]
    constructor
    ·rintro (rfl | ⟨a, b⟩)
     ·exact ⟨.inl rfl, hpx⟩
     ·refine ⟨.inr a, fun hpr => ?_⟩
      obtain ⟨u, hu, rfl⟩ := List.mem_map.1 a
      have h5 := hq0 _ hpr
      have h6 := hs1 u hu
      have h7 := rcmp_anti h u.2 x.2 (hok u (by simp [hu])) hx
      omega
    ·rintro ⟨a | a, b⟩
     ·exact .inl a
     ·by_cases hr : r = x.2
      ·exact .inl hr
      ·exact .inr ⟨a, fun e => hr (by injection e with e; exact e.symm)⟩
theorem compact_strict (l : List HR) (hok : ∀ x, x ∈ l -> ∀ y, y ∈ x.2 -> okv y) (hs : l.Pairwise fun x y => ¬ rcmp cf y.2 x.2 < 0) :
  ((compactP l).Pairwise fun x y => rcmp cf x.2 y.2 < 0) /\ ∀ r, r ∈ (compactP l).map (·.2) ↔ r ∈ l.map (·.2) := by
 obtain ⟨a, _, c⟩ := keep_strict h l none hok (by simp) hs
 exact ⟨a, fun r => by rw [show (compactP l) = keep none l from rfl, c r]; simp⟩
end
end
section
theorem strict_one {α : Type} {lt : α -> α -> Prop} (irr : ∀ a, ¬ lt a a) (asy : ∀ a b, lt a b -> ¬ lt b a) : ∀ l m : List α, l.Pairwise lt -> m.Pairwise lt -> (∀ a, a ∈ l ↔ a ∈ m) -> l = m
 | [], [], _, _, _ => rfl
 | [], b :: m, _, _, h => absurd ((h b).2 (by simp)) (by simp)
 | a :: l, [], _, _, h => absurd ((h a).1 (by simp)) (by simp)
 | a :: l, b :: m, h1, h2, h => by
  obtain ⟨l1, l2⟩ := List.pairwise_cons.1 h1
  obtain ⟨m1, m2⟩ := List.pairwise_cons.1 h2
  have hab : a = b := by
   rcases List.mem_cons.1 ((h a).1 (by simp)) with e | ha
   ·exact e
   ·rcases List.mem_cons.1 ((h b).2 (by simp)) with e | hb
    ·exact e.symm
    ·exact absurd (l1 b hb) (asy _ _ (m1 a ha))
  subst hab
  rw [strict_one irr asy l m l2 m2 (fun x => ?_)]
  constructor
  ·intro hx
   rcases List.mem_cons.1 ((h x).1 (by simp [hx])) with rfl | hm
   ·exact absurd (l1 _ hx) (irr _)
   ·exact hm
  ·intro hx
   rcases List.mem_cons.1 ((h x).2 (by simp [hx])) with rfl | hm
   ·exact absurd (m1 _ hx) (irr _)
   ·exact hm
theorem rows_one {okv : V -> Prop} {cf : V -> V -> Int} (h : OrdOk okv cf) {l m : List Row} (hl : ∀ r, r ∈ l -> ∀ x, x ∈ r -> okv x) (h1 : l.Pairwise fun x y => rcmp cf x y < 0) (h2 : m.Pairwise fun x y => rcmp cf x y < 0) (hm : ∀ r, r ∈ l ↔ r ∈ m) : l = m := by
 have hml : ∀ r, r ∈ m -> ∀ x, x ∈ r -> okv x := fun r hr => hl r ((hm r).2 hr)
 refine strict_one (lt := fun x y => rcmp cf x y < 0 /\ (∀ z, z ∈ x -> okv z) /\ (∀ z, z ∈ y -> okv z)) (fun a ha => ?_) (fun a b hab hba => ?_) l m ?_ ?_ hm
 ·have := rcmp_self h a ha.2.1
  omega
 ·have := rcmp_anti h a b hab.2.1 hab.2.2
  omega
 ·exact h1.imp_of_mem fun {x y} hx hy hxy => ⟨hxy, hl x hx, hl y hy⟩
 ·exact h2.imp_of_mem fun {x y} hx hy hxy => ⟨hxy, hml x hx, hml y hy⟩
end
section
open Go.RowKit
instance : Inhabited V := ⟨⟨0, 0, 0, ⟨#[]⟩⟩⟩
theorem less_iff : ∀ x y : List UInt8, Op.bytesLess x y = true ↔ x < y
 | _, [] => by simp [Op.bytesLess]
 | [], _ :: _ => by simp [Op.bytesLess]
 | a :: x, b :: y => by
  simp only [Op.bytesLess, Bool.or_eq_true, decide_eq_true_eq, Bool.and_eq_true, beq_iff_eq, List.cons_lt_cons_iff, less_iff x y]
theorem ltS_data (a b : BA) : ltS a b = true ↔ a.data.toList < b.data.toList := by
 unfold ltS
 rw [less_iff, ByteArray.toList_eq, ByteArray.toList_eq]
theorem sortS_perm (l : List BA) : (sortS l).Perm l := by
 have h := (List.mergeSort_perm (l.map (·.data.toList)) fun x y => decide (x <= y)).map (fun x => (⟨x.toArray⟩ : BA))
 have e : (l.map (·.data.toList)).map (fun x => (⟨x.toArray⟩ : BA)) = l := by
  rw [List.map_map]
  conv => rhs; rw [<- List.map_id l]
  exact List.map_congr_left fun s _ => by simp
 rw [e] at h
 exact h
theorem sortS_sorted (l : List BA) : (sortS l).Pairwise fun a b => ltS b a = false := by
 unfold sortS
 rw [List.pairwise_map]
 have h := List.pairwise_mergeSort (le := fun x y : List UInt8 => decide (x <= y)) (fun a b c h1 h2 => by
   simp only [decide_eq_true_eq] at *
   exact List.le_trans h1 h2) (fun a b => by
   simp only [Bool.or_eq_true, decide_eq_true_eq]
   exact List.le_total a b) (l.map (·.data.toList))
 refine h.imp fun {a b} hab => ?_
 have hab' : a <= b := by simpa using hab
 cases hc : ltS ⟨b.toArray⟩ ⟨a.toArray⟩ with
 | false => rfl
 | true =>
  have := (ltS_data _ _).1 hc
  simp only at this
  exact absurd this (List.not_lt.2 hab')
theorem pair_of_rises : ∀ l : List BA, Rises l -> l.Pairwise fun a b => ltS a b = true
 | [], _ => List.Pairwise.nil
 | [a], _ => by simp
 | a :: b :: t, h => by
  have ih := pair_of_rises (b :: t) (fun i x y hx hy => h (i + 1) x y (by simpa using hx) (by simpa using hy))
  have h0 := h 0 a b rfl rfl
  refine List.pairwise_cons.2 ⟨fun c hc => ?_, ih⟩
  rcases List.mem_cons.1 hc with rfl | hc
  ·exact h0
  ·exact ltS_trans h0 ((List.pairwise_cons.1 ih).1 c hc)
theorem rises_of_pair {l : List BA} (h : l.Pairwise fun a b => ltS a b = true) : Rises l := fun i a b ha hb => by
 obtain ⟨h1, rfl⟩ := List.getElem?_eq_some_iff.1 ha
 obtain ⟨h2, rfl⟩ := List.getElem?_eq_some_iff.1 hb
 exact List.pairwise_iff_getElem.1 h i (i + 1) h1 h2 (by omega)
theorem nodup_of_pair {l : List BA} (h : l.Pairwise fun a b => ltS a b = true) : l.Nodup :=
 h.imp fun {a b} hab e => by subst e; rw [ltS_irrefl] at hab; cases hab
theorem pair_of_nodup {l : List BA} (hn : l.Nodup) (hs : l.Pairwise fun a b => ltS b a = false) : l.Pairwise fun a b => ltS a b = true := by
 have := List.Pairwise.and hn hs
 refine this.imp fun {a b} hab => ?_
 cases hc : ltS a b with
 | true => rfl
 | false => exact absurd (ltS_total hc hab.2) hab.1
theorem unlike_iff (l : List BA) : risesB (sortS l) = true ↔ l.Nodup := by
 constructor
 ·intro h
  have : Rises (sortS l) := by
   unfold risesB at h; simpa using h
  exact (sortS_perm l).nodup_iff.1 (nodup_of_pair (pair_of_rises _ this))
 ·intro h
  exact risesB_true (rises_of_pair (pair_of_nodup ((sortS_perm l).nodup_iff.2 h) (sortS_sorted l)))
theorem sortS_pair {l : List BA} (h : l.Nodup) : (sortS l).Pairwise fun a b => ltS a b = true := pair_of_nodup ((sortS_perm l).nodup_iff.2 h) (sortS_sorted l)
theorem names_one {l m : List BA} (h1 : l.Pairwise fun a b => ltS a b = true) (h2 : m.Pairwise fun a b => ltS a b = true) (h : ∀ a, a ∈ l ↔ a ∈ m) : l = m :=
 strict_one (lt := fun a b => ltS a b = true) (fun a ha => by rw [ltS_irrefl] at ha; cases ha) (fun a b hab hba => by have := ltS_trans hab hba; rw [ltS_irrefl] at this; cases this) l m h1 h2 h
theorem sortS_of_pair {l : List BA} (h : l.Pairwise fun a b => ltS a b = true) : sortS l = l :=
 names_one (sortS_pair (nodup_of_pair h)) h (fun _ => (sortS_perm l).mem_iff)
theorem idx_self {l : List BA} (hn : l.Nodup) (i : Nat) (hi : i < l.length) : idx l l[i] = i := by
 refine idx_at i (List.getElem?_eq_getElem hi) (beq_self_eq_true _) fun j a hj ha => ?_
 obtain ⟨h1, rfl⟩ := List.getElem?_eq_some_iff.1 ha
 refine beq_eq_false_iff_ne.2 fun e => ?_
 have := List.pairwise_iff_getElem.1 hn j i h1 hi hj
 exact this (toList_inj e).symm
def pick (l : List BA) (r : Row) (want : List BA) : Row := want.map fun x => r.getD (idx l x).toNat default
theorem pick_len (l : List BA) (r : Row) (want : List BA) : (pick l r want).length = want.length := by simp [pick]
theorem pick_mem {l : List BA} {r : Row} {want : List BA} (hw : ∀ x, x ∈ want -> x ∈ l) (hr : r.length = l.length) {v : V} (hv : v ∈ pick l r want) : v ∈ r := by
 obtain ⟨x, hx, rfl⟩ := List.mem_map.1 hv
 have h1 := idx_mem.2 (hw x hx)
 have h2 := idx_range l x
 have h3 : (idx l x).toNat < r.length := by omega
 rw [List.getD_eq_getElem?_getD, List.getElem?_eq_getElem h3]
 simp
theorem pick_order {l : List BA} (hn : l.Nodup) (r : Row) (os : List (Fin l.length)) : (os.map fun x => r.getD x.1 default) = pick l r (os.map fun x => l[x]) := by
 unfold pick
 rw [List.map_map]
 refine List.map_congr_left fun x _ => ?_
 have : idx l l[x] = x.1 := idx_self hn x.1 x.2
 simp only [Function.comp]
 rw [this]
 rfl
theorem finRange_get (l : List BA) : ((List.finRange l.length).map fun x => l[x]) = l := by
 apply List.ext_getElem
 ·simp
 ·intro i h1 h2
  simp
theorem order_names {l : List BA} (hn : l.Nodup) {os : List (Fin l.length)} (hp : os.Perm (List.finRange l.length)) (hs : os.Pairwise fun x y => ltS l[y] l[x] = false) : (os.map fun x => l[x]) = sortS l := by
 have h1 : (os.map fun x => l[x]).Perm l := by
  have := hp.map fun x => l[x]
  rw [finRange_get] at this
  exact this
 refine names_one (pair_of_nodup (h1.nodup_iff.2 hn) ?_) (sortS_pair hn) fun a => ?_
 ·rw [List.pairwise_map]; exact hs
 ·rw [h1.mem_iff, (sortS_perm l).mem_iff]
abbrev rlt (cf : V -> V -> Int) (x y : Row) : Prop := rcmp cf x y < 0
open Classical in
noncomputable def canon (cf : V -> V -> Int) (rows : List Row) : List Row :=
 if h : ∃ m : List Row, m.Pairwise (rlt cf) /\ ∀ r, r ∈ m ↔ r ∈ rows then Classical.choose h else []
theorem canon_eq {okv : V -> Prop} {cf : V -> V -> Int} (h : OrdOk okv cf) {rows m : List Row} (hr : ∀ r, r ∈ rows -> ∀ x, x ∈ r -> okv x) (hp : m.Pairwise (rlt cf)) (hm : ∀ r, r ∈ m ↔ r ∈ rows) : canon cf rows = m := by
 have hex : ∃ m : List Row, m.Pairwise (rlt cf) /\ ∀ r, r ∈ m ↔ r ∈ rows := ⟨m, hp, hm⟩
 unfold canon
 rw [dif_pos hex]
 obtain ⟨h1, h2⟩ := Classical.choose_spec hex
 exact rows_one h (fun r hr' => hr r ((h2 r).1 hr')) h1 hp (fun r => (h2 r).trans (hm r).symm)
theorem canon_ex {okv : V -> Prop} {cf : V -> V -> Int} (h : OrdOk okv cf) : ∀ rows : List Row, (∀ r, r ∈ rows -> ∀ x, x ∈ r -> okv x) -> ∃ m : List Row, m.Pairwise (rlt cf) /\ ∀ r, r ∈ m ↔ r ∈ rows
 | [], _ => ⟨[], List.Pairwise.nil, fun _ => Iff.rfl⟩
 | a :: t, hr => by
  obtain ⟨m, h1, h2⟩ := canon_ex h t (fun r hr' => hr r (by simp [hr']))
  have ha := hr a (by simp)
  have hmo : ∀ r, r ∈ m -> ∀ x, x ∈ r -> okv x := fun r hr' => hr r (by simp [(h2 r).1 hr'])
  have key : ∀ n : List Row, n.Pairwise (rlt cf) -> (∀ r, r ∈ n -> ∀ x, x ∈ r -> okv x) -> ∃ k : List Row, k.Pairwise (rlt cf) /\ ∀ r, r ∈ k ↔ r = a ∨ r ∈ n := by
   intro n
   induction n with
   | nil => intro _ _; exact ⟨[a], by simp, by simp⟩
   | cons b n ih =>
    intro hp ho
    obtain ⟨p1, p2⟩ := List.pairwise_cons.1 hp
    have hb := ho b (by simp)
    by_cases hab : a = b
    ·exact ⟨b :: n, hp, fun r => by rw [hab]; simp⟩
    ·by_cases hlt : rlt cf a b
     ·refine ⟨a :: b :: n, List.pairwise_cons.2 ⟨fun c hc => ?_, hp⟩, fun r => by simp⟩
      rcases List.mem_cons.1 hc with rfl | hc
      ·exact hlt
      ·exact rcmp_trans h a b c ha hb (ho c (by simp [hc])) hlt (p1 c hc)
     ·have hba : rlt cf b a := rcmp_lt_of h hb ha hlt (fun e => hab e.symm)
      obtain ⟨k, k1, k2⟩ := ih p2 (fun r hr' => ho r (by simp [hr']))
      refine ⟨b :: k, List.pairwise_cons.2 ⟨fun c hc => ?_, k1⟩, fun r => ?_⟩
      ·rcases (k2 c).1 hc with rfl | hc
       ·exact hba
       ·exact p1 c hc
      ·simp only [List.mem_cons, k2 r]
       constructor
       ·rintro (x | x | x) <;> simp [x]
       ·rintro (x | x | x) <;> simp [x]
  obtain ⟨k, k1, k2⟩ := key m h1 hmo
  exact ⟨k, k1, fun r => by rw [k2 r, h2 r]; simp⟩
theorem canon_spec {okv : V -> Prop} {cf : V -> V -> Int} (h : OrdOk okv cf) {rows : List Row} (hr : ∀ r, r ∈ rows -> ∀ x, x ∈ r -> okv x) : (canon cf rows).Pairwise (rlt cf) /\ ∀ r, r ∈ canon cf rows ↔ r ∈ rows := by
 obtain ⟨m, h1, h2⟩ := canon_ex h rows hr
 rw [canon_eq h hr h1 h2]
 exact ⟨h1, h2⟩
noncomputable def madeT (cf : V -> V -> Int) (vars : List BA) (rows : List Row) : Tb := ⟨sortS vars, canon cf (rows.map fun r => pick vars r (sortS vars))⟩
end
section
open Go.RowKit
theorem frac_eq {n d m e : Int} (hd : 0 < d) (he : 0 < e) (h1 : Nat.gcd n.natAbs d.natAbs = 1) (h2 : Nat.gcd m.natAbs e.natAbs = 1) (h : n * e = m * d) : n = m /\ d = e := by
 have hn : n.natAbs * e.natAbs = m.natAbs * d.natAbs := by rw [<- Int.natAbs_mul, <- Int.natAbs_mul, h]
 have a1 : d.natAbs ∣ e.natAbs := by
  have : d.natAbs ∣ n.natAbs * e.natAbs := ⟨m.natAbs, by rw [hn, Nat.mul_comm]⟩
  exact Nat.Coprime.dvd_of_dvd_mul_left (Nat.Coprime.symm h1) this
 have a2 : e.natAbs ∣ d.natAbs := by
  have : e.natAbs ∣ m.natAbs * d.natAbs := ⟨n.natAbs, by rw [<- hn, Nat.mul_comm]⟩
  exact Nat.Coprime.dvd_of_dvd_mul_left (Nat.Coprime.symm h2) this
 have a3 := Nat.dvd_antisymm a1 a2
 have hde : d = e := by omega
 subst hde
 exact ⟨Int.eq_of_mul_eq_mul_right (by omega) h, rfl⟩
theorem frac_trans {n1 d1 n2 d2 n3 d3 : Int} (h1 : 0 < d1) (h2 : 0 < d2) (h3 : 0 < d3) (a : n1 * d2 < n2 * d1) (b : n2 * d3 < n3 * d2) : n1 * d3 < n3 * d1 := by
 have e1 : n1 * d2 * d3 < n2 * d1 * d3 := Int.mul_lt_mul_of_pos_right a h3
 have e2 : n2 * d3 * d1 < n3 * d2 * d1 := Int.mul_lt_mul_of_pos_right b h1
 have e3 : n1 * d3 * d2 < n3 * d1 * d2 := by
  have x1 : n1 * d2 * d3 = n1 * d3 * d2 := by rw [Int.mul_assoc, Int.mul_assoc, Int.mul_comm d2]
  have x2 : n2 * d1 * d3 = n2 * d3 * d1 := by rw [Int.mul_assoc, Int.mul_assoc, Int.mul_comm d1]
  have x3 : n3 * d2 * d1 = n3 * d1 * d2 := by rw [Int.mul_assoc, Int.mul_assoc, Int.mul_comm d2]
  omega
 exact Int.lt_of_mul_lt_mul_right e3 (by omega)
def rcQ (a b : V) : Int := if a.n = b.n /\ a.d = b.d then 0 else if a.n * b.d < b.n * a.d then -1 else 1
noncomputable def cfQ : V -> V -> Int := vcmpBy rcQ
theorem ok_rat {v : V} (h : vcheck v = 0) (hk : v.k = 2) : v.s.size = 0 /\ 0 < v.d /\ Nat.gcd v.n.natAbs v.d.natAbs = 1 := by
 unfold vcheck at h
 rw [if_neg (by omega), if_pos hk] at h
 split at h
 ·rename_i hx; exact ⟨hx.1, hx.2.1, hx.2.2⟩
 ·omega
theorem ok_int {v : V} (h : vcheck v = 0) (hk : v.k = 1) : v.d = 0 /\ v.s.size = 0 := by
 unfold vcheck at h
 rw [if_pos hk] at h
 split at h
 ·assumption
 ·omega
theorem ok_str {v : V} (h : vcheck v = 0) (hk : v.k = 3) : v.n = 0 /\ v.d = 0 /\ v.s.size <= 64 := by
 unfold vcheck at h
 rw [if_neg (by omega), if_neg (by omega), if_pos hk] at h
 split at h
 ·rename_i hx
  split at h
  ·omega
  ·exact ⟨hx.1, hx.2, by omega⟩
 ·omega
theorem ok_kind {v : V} (h : vcheck v = 0) : v.k = 1 ∨ v.k = 2 ∨ v.k = 3 := by
 unfold vcheck at h
 split at h
 ·omega
 ·split at h
  ·omega
  ·split at h
   ·omega
   ·omega
theorem size_zero {s : BA} (h : s.size = 0) : s = ⟨#[]⟩ := by
 cases s with | mk a => 
  have : a.size = 0 := h
  rw [Array.eq_empty_of_size_eq_zero this]
theorem V.eq_of {a b : V} (h1 : a.k = b.k) (h2 : a.n = b.n) (h3 : a.d = b.d) (h4 : a.s = b.s) : a = b := by
 cases a; cases b; simp only at h1 h2 h3 h4; subst h1 h2 h3 h4; rfl
theorem rcQ_anti {a b : V} (ha : 0 < a.d /\ Nat.gcd a.n.natAbs a.d.natAbs = 1) (hb : 0 < b.d /\ Nat.gcd b.n.natAbs b.d.natAbs = 1) : rcQ a b < 0 ↔ 0 < rcQ b a := by
 unfold rcQ
 by_cases h : a.n = b.n /\ a.d = b.d
 ·rw [if_pos h, if_pos ⟨h.1.symm, h.2.symm⟩]
 ·have h' : ¬ (b.n = a.n /\ b.d = a.d) := fun e => h ⟨e.1.symm, e.2.symm⟩
  rw [if_neg h, if_neg h']
  have hne : a.n * b.d ≠ b.n * a.d := fun e => h (frac_eq ha.1 hb.1 ha.2 hb.2 e)
  by_cases h1 : a.n * b.d < b.n * a.d
  ·rw [if_pos h1, if_neg (by omega)]; omega
  ·rw [if_neg h1, if_pos (by omega)]; omega
theorem rcQ_trans {a b c : V} (ha : 0 < a.d) (hb : 0 < b.d) (hc : 0 < c.d) (h1 : rcQ a b < 0) (h2 : rcQ b c < 0) : rcQ a c < 0 := by
 have key : ∀ {x y : V}, rcQ x y < 0 -> x.n * y.d < y.n * x.d := by
  intro x y h
  unfold rcQ at h
  split at h
  ·omega
  ·split at h
   ·assumption
   ·omega
 have h3 := frac_trans ha hb hc (key h1) (key h2)
 unfold rcQ
 rw [if_neg (fun e => by rw [e.1, e.2] at h3; omega), if_pos h3]
 omega
theorem compareInt_neg (a b : Int) : Lib.compareInt a b < 0 ↔ a < b := by unfold Lib.compareInt; (repeat' split) <;> omega
theorem compareInt_pos (a b : Int) : 0 < Lib.compareInt a b ↔ b < a := by unfold Lib.compareInt; (repeat' split) <;> omega
theorem compareInt_zero (a b : Int) : Lib.compareInt a b = 0 ↔ a = b := by unfold Lib.compareInt; (repeat' split) <;> omega
theorem cfQ_eq {a b : V} (ha : vcheck a = 0) (hb : vcheck b = 0) : cfQ a b = if a.k ≠ b.k then Lib.compareInt a.k b.k else if a.k = 1 then Lib.compareInt a.n b.n else if a.k = 2 then rcQ a b else Lib.compareBytes a.s.data.toList b.s.data.toList := by
 unfold cfQ vcmpBy
 rw [if_neg (by rw [ha, hb]; simp)]
theorem cb_zero : ∀ x y : List UInt8, Lib.compareBytes x y = 0 ↔ x = y
 | [], [] => by simp [Lib.compareBytes]
 | [], _ :: _ => by simp [Lib.compareBytes]
 | _ :: _, [] => by simp [Lib.compareBytes]
 | a :: x, b :: y => by
  simp only [Lib.compareBytes]
  by_cases h1 : a < b
  ·rw [if_pos h1]
   constructor
   ·intro h; omega
   ·intro h; injection h with h _; subst h; exact absurd h1 (UInt8.lt_irrefl _)
  ·rw [if_neg h1]
   by_cases h2 : b < a
   ·rw [if_pos h2]
    constructor
    ·intro h; omega
    ·intro h; injection h with h _; subst h; exact absurd h2 (UInt8.lt_irrefl _)
   ·rw [if_neg h2, cb_zero x y]
    have : a = b := UInt8.le_antisymm (UInt8.not_lt.1 h2) (UInt8.not_lt.1 h1)
    subst this
    simp
theorem cb_anti : ∀ x y : List UInt8, Lib.compareBytes x y < 0 ↔ 0 < Lib.compareBytes y x
 | [], [] => by simp [Lib.compareBytes]
 | [], _ :: _ => by simp [Lib.compareBytes]
 | _ :: _, [] => by simp [Lib.compareBytes]
 | a :: x, b :: y => by
  simp only [Lib.compareBytes]
  by_cases h1 : a < b
  ·rw [if_pos h1, if_neg (UInt8.lt_asymm h1), if_pos h1]; omega
  ·rw [if_neg h1]
   by_cases h2 : b < a
   ·rw [if_pos h2, if_pos h2]; omega
   ·rw [if_neg h2, if_neg h2, if_neg h1]; exact cb_anti x y
theorem cb_trans : ∀ x y z : List UInt8, Lib.compareBytes x y < 0 -> Lib.compareBytes y z < 0 -> Lib.compareBytes x z < 0
 | [], [], _, h, _ => by simp [Lib.compareBytes] at h
 | _ :: _, [], _, h, _ => by simp [Lib.compareBytes] at h
 | _, _ :: _, [], _, h => by simp [Lib.compareBytes] at h
 | [], _ :: _, _ :: _, _, _ => by simp [Lib.compareBytes]
 | a :: x, b :: y, c :: z, h1, h2 => by
  simp only [Lib.compareBytes] at h1 h2 ⊢
  by_cases a1 : a < b
  ·by_cases b1 : b < c
   ·rw [if_pos (UInt8.lt_trans a1 b1)]; omega
   ·rw [if_neg b1] at h2
    by_cases b2 : c < b
    ·rw [if_pos b2] at h2; omega
    ·have : b = c := UInt8.le_antisymm (UInt8.not_lt.1 b2) (UInt8.not_lt.1 b1)
     subst this
     rw [if_pos a1]; omega
  ·rw [if_neg a1] at h1
   by_cases a2 : b < a
   ·rw [if_pos a2] at h1; omega
   ·rw [if_neg a2] at h1
    have : a = b := UInt8.le_antisymm (UInt8.not_lt.1 a2) (UInt8.not_lt.1 a1)
    subst this
    by_cases b1 : a < c
    ·rw [if_pos b1]; omega
    ·rw [if_neg b1] at h2 ⊢
     by_cases b2 : c < a
     ·rw [if_pos b2] at h2; omega
     ·rw [if_neg b2] at h2 ⊢
      exact cb_trans x y z h1 h2
theorem BA_ext {a b : BA} (h : a.data.toList = b.data.toList) : a = b := by
 cases a with | mk a => cases b with | mk b => simp at h; rw [h]
theorem ordQ : OrdOk (fun v => vcheck v = 0) cfQ := by
 refine ⟨fun a ha => ?_, fun a b ha hb h => ?_, fun a b ha hb => ?_, fun a b c ha hb hc h1 h2 => ?_⟩
 ·rw [cfQ_eq ha ha, if_neg (by simp)]
  split
  ·exact (compareInt_zero _ _).2 rfl
  ·split
   ·simp [rcQ]
   ·exact (cb_zero _ _).2 rfl
 ·rw [cfQ_eq ha hb] at h
  by_cases hk : a.k = b.k
  ·rw [if_neg (by simp [hk])] at h
   rcases ok_kind ha with k | k | k
   ·have h1 := ok_int ha k
    have h2 := ok_int hb (by omega)
    rw [if_pos k] at h
    exact V.eq_of hk ((compareInt_zero _ _).1 h) (by omega) (by rw [size_zero h1.2, size_zero h2.2])
   ·have h1 := ok_rat ha k
    have h2 := ok_rat hb (by omega)
    rw [if_neg (by omega), if_pos k] at h
    unfold rcQ at h
    split at h
    ·rename_i hx
     exact V.eq_of hk hx.1 hx.2 (by rw [size_zero h1.1, size_zero h2.1])
    ·split at h <;> omega
   ·have h1 := ok_str ha k
    have h2 := ok_str hb (by omega)
    rw [if_neg (by omega), if_neg (by omega)] at h
    exact V.eq_of hk (by omega) (by omega) (BA_ext ((cb_zero _ _).1 h))
  ·rw [if_pos hk] at h
   exact absurd ((compareInt_zero _ _).1 h) hk
 ·rw [cfQ_eq ha hb, cfQ_eq hb ha]
  by_cases hk : a.k = b.k
  ·rw [if_neg (show ¬ (a.k ≠ b.k) by simp [hk]), if_neg (show ¬ (b.k ≠ a.k) by simp [hk])]
   rcases ok_kind ha with k | k | k
   ·rw [if_pos k, if_pos (show b.k = 1 by omega), compareInt_neg, compareInt_pos]
   ·have h1 := ok_rat ha k
    have h2 := ok_rat hb (by omega)
    rw [if_neg (show ¬ a.k = 1 by omega), if_pos k, if_neg (show ¬ b.k = 1 by omega), if_pos (show b.k = 2 by omega)]
    exact rcQ_anti h1.2 h2.2
   ·rw [if_neg (show ¬ a.k = 1 by omega), if_neg (show ¬ a.k = 2 by omega), if_neg (show ¬ b.k = 1 by omega), if_neg (show ¬ b.k = 2 by omega)]
    exact cb_anti _ _
  ·rw [if_pos hk, if_pos (fun e => hk e.symm), compareInt_neg, compareInt_pos]
 ·rw [cfQ_eq ha hb] at h1
  rw [cfQ_eq hb hc] at h2
  rw [cfQ_eq ha hc]
  by_cases hk : a.k = b.k
  ·rw [if_neg (by simp [hk])] at h1
   by_cases hk2 : b.k = c.k
   ·rw [if_neg (by simp [hk2])] at h2
    rw [if_neg (by simp [hk, hk2])]
    rcases ok_kind ha with k | k | k
    ·rw [if_pos k, compareInt_neg] at h1
     rw [if_pos (by omega), compareInt_neg] at h2
     rw [if_pos k, compareInt_neg]
     omega
    ·have q1 := ok_rat ha k
     have q2 := ok_rat hb (by omega)
     have q3 := ok_rat hc (by omega)
     rw [if_neg (by omega), if_pos k] at h1
     rw [if_neg (by omega), if_pos (by omega)] at h2
     rw [if_neg (by omega), if_pos k]
     exact rcQ_trans q1.2.1 q2.2.1 q3.2.1 h1 h2
    ·rw [if_neg (by omega), if_neg (by omega)] at h1
     rw [if_neg (by omega), if_neg (by omega)] at h2
     rw [if_neg (by omega), if_neg (by omega)]
     exact cb_trans _ _ _ h1 h2
   ·rw [if_pos hk2, compareInt_neg] at h2
    rw [if_pos (by rw [hk]; exact hk2), compareInt_neg]
    omega
  ·rw [if_pos hk, compareInt_neg] at h1
   by_cases hk2 : b.k = c.k
   ·rw [if_pos (by rw [<- hk2]; exact hk), compareInt_neg]
    omega
   ·rw [if_pos hk2, compareInt_neg] at h2
    rw [if_pos (by omega), compareInt_neg]
    omega
end
end Go.Proofs.YtbejmdlncnkaaaaGreat
