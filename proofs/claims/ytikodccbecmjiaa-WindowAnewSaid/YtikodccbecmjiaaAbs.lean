/-
  What a window's state stands for: a list; all that a window tells is what the list, folded, tells, of an operation that is associative.
-/
import Derived.Test.YtikodccbecmjiaaPlain2
import Derived.Test.YtikodccbecmjiaaRefWin2
namespace Go.Proofs.Ytikodccbecmjiaa
open Go.Win

section
variable {α : Type} {f : α → α → α}

/-- those ahead, the first one first, each with what is made of it and of all behind it -/
def AhR (f : α → α → α) : List (α × α) → Prop
  | [] => True
  | [q] => q.2 = q.1
  | q :: q' :: r => q.2 = f q.1 q'.2 ∧ AhR f (q' :: r)

structure Abs (f : α → α → α) (s : WSt α) (l : List α) : Prop where
  list : l = s.ahead.reverse.map (·.1) ++ s.behind
  ahead : AhR f s.ahead.reverse
  sum : ∀ b r, s.behind = b :: r → s.sum = r.foldl f b

theorem foldl_assoc (hf : ∀ x y z, f (f x y) z = f x (f y z)) (x y : α) (t : List α) : f x (t.foldl f y) = t.foldl f (f x y) := by
  induction t generalizing x y with
  | nil => rfl
  | cons a t ih => simp only [List.foldl_cons]; rw [ih, hf]

theorem AhR.head (hf : ∀ x y z, f (f x y) z = f x (f y z)) (q : α × α) (r : List (α × α)) (h : AhR f (q :: r)) : q.2 = (r.map (·.1)).foldl f q.1 := by
  induction r generalizing q with
  | nil => exact h
  | cons q' r ih =>
    obtain ⟨h1, h2⟩ := h
    rw [h1, ih q' h2, foldl_assoc hf]
    rfl
theorem AhR.tail (q : α × α) (r : List (α × α)) (h : AhR f (q :: r)) : AhR f r := by
  cases r with
  | nil => trivial
  | cons q' r => exact h.2

theorem Abs.push {s : WSt α} {l : List α} (h : Abs f s l) (x : α) : Abs f (s.push f x) (l ++ [x]) := by
  unfold WSt.push
  cases hb : s.behind with
  | nil =>
    refine ⟨by simp only; rw [h.list, hb]; simp, h.ahead, fun b r he => ?_⟩
    simp only [List.cons.injEq] at he
    obtain ⟨rfl, rfl⟩ := he
    rfl
  | cons c t =>
    refine ⟨by simp only; rw [h.list, hb]; simp, h.ahead, fun b r he => ?_⟩
    simp only [List.cons_append, List.cons.injEq] at he
    obtain ⟨rfl, rfl⟩ := he
    simp only [List.foldl_append, List.foldl_cons, List.foldl_nil]
    rw [h.sum _ _ hb]

theorem turnAt_abs {s : WSt α} (hA : s.ahead = []) (k : Nat) (hk : k ≤ s.behind.length) :
    (turnAt f s k).1.reverse.map (·.1) = s.behind.drop k ∧ AhR f (turnAt f s k).1.reverse := by
  induction hd : s.behind.length - k generalizing k with
  | zero =>
    obtain rfl : k = s.behind.length := by omega
    rw [turnAt_end, hA]
    exact ⟨by simp, trivial⟩
  | succ d ih =>
    obtain ⟨h1, h2⟩ := ih (k + 1) (by omega) (by omega)
    have hkl : k < s.behind.length := by omega
    rw [turnAt_succ f s k hkl, List.drop_eq_getElem_cons hkl, ← h1]
    unfold turn1
    cases hl : (turnAt f s (k + 1)).1.getLast? with
    | none =>
      have he := List.getLast?_eq_none_iff.1 hl
      simp [he, AhR]
    | some q0 =>
      have hr : (turnAt f s (k + 1)).1.reverse = q0 :: (turnAt f s (k + 1)).1.dropLast.reverse := by
        rcases List.eq_nil_or_concat (turnAt f s (k + 1)).1 with he | ⟨a0, q, he⟩
        · rw [he] at hl; cases hl
        · rw [List.concat_eq_append] at he
          rw [he] at hl ⊢
          simp at hl
          subst hl
          simp
      rw [hr] at h2
      simp only [List.reverse_append, List.reverse_cons, List.reverse_nil, List.nil_append, List.cons_append, List.map_cons, hr]
      exact ⟨trivial, rfl, h2⟩

theorem Abs.turned {s : WSt α} {l : List α} (h : Abs f s l) : Abs f (s.turned f) l := by
  unfold WSt.turned
  split
  · rename_i hA
    obtain ⟨h1, h2⟩ := turnAt_abs hA 0 (by omega)
    rw [turnAt_zero]
    refine ⟨?_, h2, by simp⟩
    simp only [List.append_nil]
    rw [h1, h.list, hA]
    simp
  · exact h

/-- what Pop hands back is the list's first, and it leaves the rest -/
theorem Abs.cut {s : WSt α} {l : List α} (h : Abs f s l) (h0 : s.ahead = [] → s.behind = []) :
    Abs f s.cut l.tail ∧ (s.ahead.getLast? = none → l = []) ∧ ∀ q, s.ahead.getLast? = some q → ∃ t, l = q.1 :: t := by
  rcases List.eq_nil_or_concat s.ahead with hA | ⟨a0, q, hA⟩
  · have hb := h0 hA
    have hl : l = [] := by rw [h.list, hA, hb]; rfl
    refine ⟨⟨by rw [hl]; simp [WSt.cut, hA, hb], by simp [WSt.cut, hA, AhR], by simp [WSt.cut, hb]⟩, fun _ => hl, fun q hq => by rw [hA] at hq; cases hq⟩
  · rw [List.concat_eq_append] at hA
    have hr : s.ahead.reverse = q :: a0.reverse := by rw [hA]; simp
    have hl : l = q.1 :: (a0.reverse.map (·.1) ++ s.behind) := by rw [h.list, hr]; rfl
    have ha := h.ahead
    rw [hr] at ha
    refine ⟨⟨by rw [hl]; simp [WSt.cut, hA], by simp [WSt.cut, hA]; exact ha.tail, h.sum⟩, fun hn => by rw [hA] at hn; simp at hn, fun q' hq => ?_⟩
    rw [hA] at hq
    simp at hq
    subst hq
    exact ⟨_, hl⟩

theorem turned_empty (s : WSt α) : (s.turned f).ahead = [] → (s.turned f).behind = [] := by
  unfold WSt.turned
  split
  · intro _; rw [turnAt_zero]
  · intro h; contradiction

def allL (f : α → α → α) (no : α) : List α → α
  | [] => no
  | x :: t => t.foldl f x

theorem Abs.all (hf : ∀ x y z, f (f x y) z = f x (f y z)) {s : WSt α} {l : List α} (h : Abs f s l) :
    s.all f = allL f s.nothing l := by
  have hlist := h.list
  have hah := h.ahead
  have hsum := h.sum
  clear h
  subst hlist
  unfold WSt.all
  rcases List.eq_nil_or_concat s.ahead with hA | ⟨a0, q, hA⟩
  · rw [hA]
    cases hb : s.behind with
    | nil => rfl
    | cons b r => simp [hsum _ _ hb, allL]
  · rw [List.concat_eq_append] at hA
    have hr : s.ahead.reverse = q :: a0.reverse := by rw [hA]; simp
    have ha := hah
    rw [hr] at ha
    have hq := AhR.head hf q _ ha
    rw [hr]
    have hlast : s.ahead.getLast? = some q := by rw [hA]; simp
    rw [hlast]
    cases hb : s.behind with
    | nil => simp [hq, allL]
    | cons b r =>
      simp only [List.map_cons, List.cons_append, allL, List.foldl_append, List.foldl_cons]
      rw [hsum _ _ hb, hq, foldl_assoc hf]
theorem Abs.asked {s : WSt α} {l : List α} (h : Abs f s l) : Abs f s.asked l := by
  obtain ⟨e1, e2, e3, _⟩ := asked_same s
  exact ⟨by rw [e1, e2]; exact h.list, by rw [e1]; exact h.ahead, by rw [e2, e3]; exact h.sum⟩
theorem Abs.len {s : WSt α} {l : List α} (h : Abs f s l) : l.length = s.len := by rw [h.list]; simp [WSt.len]
theorem push_nothing (s : WSt α) (x : α) : (s.push f x).nothing = s.nothing := by unfold WSt.push; split <;> rfl
theorem turned_nothing (s : WSt α) : (s.turned f).nothing = s.nothing := by unfold WSt.turned; split <;> first | rfl | rw [turnAt_zero]
end

theorem wrap_u64 (n : Int) : IntKind.u64.wrap n = n % 18446744073709551616 := by
  simp [IntKind.wrap, IntKind.bits, IntKind.signed]
theorem opT_assoc (x y z : T) : opT (opT x y) z = opT x (opT y z) := by
  unfold opT
  simp only [wrap_u64, Prod.mk.injEq]
  generalize (18446744073709551616 : Int) = M
  constructor
  · rw [Int.mul_emod, Int.emod_emod_of_dvd _ (Int.dvd_refl M), ← Int.mul_emod, Int.mul_emod (z.1 * y.1 % M), Int.emod_emod_of_dvd _ (Int.dvd_refl M), ← Int.mul_emod, Int.mul_assoc]
  · have e1 : ∀ a b : Int, (a % M * b) % M = (a * b) % M := fun a b => by rw [Int.mul_emod, Int.emod_emod_of_dvd _ (Int.dvd_refl M), ← Int.mul_emod]
    have e2 : ∀ a b : Int, (a * (b % M)) % M = (a * b) % M := fun a b => by rw [Int.mul_emod, Int.emod_emod_of_dvd _ (Int.dvd_refl M), ← Int.mul_emod]
    have e3 : ∀ a b : Int, (a % M + b) % M = (a + b) % M := fun a b => by rw [Int.add_emod, Int.emod_emod_of_dvd _ (Int.dvd_refl M), ← Int.add_emod]
    have e4 : ∀ a b : Int, (a + b % M) % M = (a + b) % M := fun a b => by rw [Int.add_emod, Int.emod_emod_of_dvd _ (Int.dvd_refl M), ← Int.add_emod]
    simp only [e1, e2, e3, e4]
    rw [Int.mul_add, Int.mul_assoc, Int.add_assoc]
end Go.Proofs.Ytikodccbecmjiaa
