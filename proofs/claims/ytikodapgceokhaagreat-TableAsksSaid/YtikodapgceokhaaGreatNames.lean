/-
  The walks over lists of names: slices.Index, Contains, Clone, table.places.
-/
import Derived.Test.YtikodapgceokhaaGreatSame
namespace Go.Proofs.YtikodapgceokhaaGreat
open Go.RowKit

/-- the place of a name; -1: there is none -/
def idx (l : List BA) (x : BA) : Int := match l with | [] => -1 | a :: t => if x.toList == a.toList then 0 else (if idx t x < 0 then -1 else idx t x + 1)
theorem idx_range (l : List BA) (x : BA) : -1 ≤ idx l x ∧ idx l x < l.length := by
  induction l with
  | nil => simp [idx]
  | cons a t ih =>
    unfold idx
    simp only [List.length_cons]
    split
    · omega
    · split <;> omega
theorem idx_neg {l : List BA} {x : BA} (h : ∀ y, y ∈ l → (x.toList == y.toList) = false) : idx l x = -1 := by
  induction l with
  | nil => rfl
  | cons a t ih =>
    have h1 := h a (by simp)
    have h2 := ih (fun y hy => h y (by simp [hy]))
    unfold idx
    rw [h1, h2]
    rfl
theorem idx_at {l : List BA} {x : BA} (j : Nat) {y : BA} (hy : l[j]? = some y) (hxy : (x.toList == y.toList) = true) (h : ∀ (i : Nat) (a : BA), i < j → l[i]? = some a → (x.toList == a.toList) = false) : idx l x = j := by
  induction j generalizing l with
  | zero =>
    cases l with
    | nil => simp at hy
    | cons a t => simp at hy; subst hy; unfold idx; rw [hxy]; rfl
  | succ j ih =>
    cases l with
    | nil => simp at hy
    | cons a t =>
      have h1 := h 0 a (by omega) rfl
      have h2 := ih (l := t) (by simpa using hy) (fun i b hi hb => h (i + 1) b (by omega) (by simpa using hb))
      unfold idx
      rw [h1, h2]
      simp only [Bool.false_eq_true, if_false]
      rw [if_neg (by omega)]
      omega
theorem idx_mem {l : List BA} {x : BA} : 0 ≤ idx l x ↔ x ∈ l := by
  constructor
  · intro h
    by_cases hm : ∃ y, y ∈ l ∧ (x.toList == y.toList) = true
    · obtain ⟨y, hy, hxy⟩ := hm
      have := toList_inj (beq_iff_eq.1 hxy)
      exact this ▸ hy
    · have := idx_neg (l := l) (x := x) (fun y hy => by
        cases hb : x.toList == y.toList with
        | false => rfl
        | true => exact absurd ⟨y, hy, hb⟩ hm)
      omega
  · intro h
    induction l with
    | nil => cases h
    | cons a t ih =>
      unfold idx
      split
      · omega
      · rename_i hne
        rcases List.mem_cons.1 h with rfl | h
        · exact absurd (beq_self_eq_true _) hne
        · have := ih h
          rw [if_neg (by omega)]
          omega

set_option maxRecDepth 100000 in
set_option maxHeartbeats 1000000 in
theorem index97 {w : World} {v : Value} {l : List BA} (x : BA) (h : RdStr w v l) (hl : l.length ≤ 8000000000000000000) :
    Calls Tryz.prog 97 #[v, .string x] w fun e w' => e = .returned (.int .i64 (idx l x)) ∧ w = w' := by
  obtain ⟨a1, c1, rfl, _, _⟩ := h.rd.shape
  have H := Lib.hid h; have Hl := Lib.hid hl; clear h hl
  generalize hR : idx l x = R
  have HR := Lib.hid hR; clear hR
  go_enter Tryz.func97, Tryz.ntmps97
  go_wp2
  go_loopw [8] (fun i wr => ∃ j : Nat, i = .int .i64 j ∧ j ≤ l.length ∧ Hid (∀ (i : Nat) (a : BA), i < j → l[i]? = some a → (x.toList == a.toList) = false) ∧ wr = w) (fun i _ => (l.length - intOf i).toNat)
  case atStart => exact ⟨0, rfl, Nat.zero_le _, Lib.hid (fun i a hi => by omega), rfl⟩
  case round =>
    obtain ⟨j, rfl, hj, HA, rfl⟩ := hrel
    by_cases hlt : j < l.length
    · obtain ⟨y, hy⟩ : ∃ y, l[j]? = some y := ⟨l[j], List.getElem?_eq_getElem (by omega)⟩
      obtain ⟨g, off, c, hv, hg, kx⟩ := H.out.at hy
      cases hv
      have hrI : (j : Int) < (l.length : Int) := by omega
      have hw1 : IntKind.i64.wrap ((j : Int) + 1) = (j : Int) + 1 := IntWalk.i64_in _ (by have := Hl.out; omega)
      have Hy := Lib.hid hy; clear hy
      cases hxy : x.toList == y.toList with
      | true =>
        have hres : R = (j : Int) := by rw [← HR.out]; exact idx_at j Hy.out hxy HA.out
        subst hres
        go_wp2
        go_ret
        exact ⟨rfl, rfl⟩
      | false =>
        have Hxy := Lib.hid hxy
        go_wp2
        go_roundw
        case rel => exact ⟨j + 1, by go_num, by omega, Lib.hid (fun k a hk ha => by
          rcases Nat.lt_or_ge k j with h | h
          · exact HA.out k a h ha
          · obtain rfl : k = j := by omega
            rw [Hy.out] at ha
            cases ha; exact Hxy.out), trivial⟩
        case measure => simp [intOf]; omega
    · have hres : R = -1 := by
        rw [← HR.out]
        exact idx_neg (fun y hy => by
          obtain ⟨i, hi⟩ := List.getElem?_of_mem hy
          exact HA.out i y (by have := (List.getElem?_eq_some_iff.1 hi).1; omega) hi)
      have hd : decide ((j : Int) < (l.length : Int)) = false := decide_eq_false (by omega)
      have hd2 : decide (j < l.length) = false := decide_eq_false hlt
      subst hres
      clear HA hlt hj HR
      go_wp2
      go_ret
      exact ⟨rfl, rfl⟩

open Classical in
noncomputable def hasS (l : List BA) (x : BA) : Bool := decide (x ∈ l)
theorem contains67 {w : World} {v : Value} {l : List BA} (x : BA) (h : RdStr w v l) (hl : l.length ≤ 8000000000000000000) :
    Calls Tryz.prog 67 #[v, .string x] w fun e w' => e = .returned (.bool (hasS l x)) ∧ w = w' := by
  have hc := index97 x h hl
  obtain ⟨a1, c1, rfl, _, _⟩ := h.rd.shape
  have hi := idx_mem (l := l) (x := x)
  have hres : decide (0 ≤ idx l x) = hasS l x := by unfold hasS; by_cases h : x ∈ l <;> simp [h] at hi ⊢ <;> omega
  have Hc := Lib.hid hc; have Hres := Lib.hid hres; clear hc h hl hres hi
  generalize idx l x = i at *
  go_enter Tryz.func67, Tryz.ntmps67
  go_wp2_with fail
  refine Hc.out.mono ?_
  rintro e w2 ⟨rfl, rfl⟩
  go_wp2
  go_ret
  rw [← Hres.out]
  exact ⟨rfl, rfl⟩
end Go.Proofs.YtikodapgceokhaaGreat
