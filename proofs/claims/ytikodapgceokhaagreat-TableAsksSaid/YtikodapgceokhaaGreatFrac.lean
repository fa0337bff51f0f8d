/-
  The order of all values that may be, fractions among them: plainly.
-/
import Derived.Test.YtikodapgceokhaaGreatTabs
namespace Go.Proofs.YtikodapgceokhaaGreat
open Go.RowKit

theorem frac_eq {n d m e : Int} (hd : 0 < d) (he : 0 < e) (h1 : Nat.gcd n.natAbs d.natAbs = 1) (h2 : Nat.gcd m.natAbs e.natAbs = 1) (h : n * e = m * d) : n = m ∧ d = e := by
  have hn : n.natAbs * e.natAbs = m.natAbs * d.natAbs := by rw [← Int.natAbs_mul, ← Int.natAbs_mul, h]
  have a1 : d.natAbs ∣ e.natAbs := by
    have : d.natAbs ∣ n.natAbs * e.natAbs := ⟨m.natAbs, by rw [hn, Nat.mul_comm]⟩
    exact Nat.Coprime.dvd_of_dvd_mul_left (Nat.Coprime.symm h1) this
  have a2 : e.natAbs ∣ d.natAbs := by
    have : e.natAbs ∣ m.natAbs * d.natAbs := ⟨n.natAbs, by rw [← hn, Nat.mul_comm]⟩
    exact Nat.Coprime.dvd_of_dvd_mul_left (Nat.Coprime.symm h2) this
  have a3 := Nat.dvd_antisymm a1 a2
  have hde : d = e := by omega
  subst hde
  exact ⟨Int.eq_of_mul_eq_mul_right (by omega) h, rfl⟩
theorem frac_trans {n1 d1 n2 d2 n3 d3 : Int} (h1 : 0 < d1) (h2 : 0 < d2) (h3 : 0 < d3) (a : n1 * d2 < n2 * d1) (b : n2 * d3 < n3 * d2) : n1 * d3 < n3 * d1 := by
  have e1 : n1 * d2 * d3 < n2 * d1 * d3 := Int.mul_lt_mul_of_pos_right a h3
  have e2 : n2 * d3 * d1 < n3 * d2 * d1 := Int.mul_lt_mul_of_pos_right b h1
  have e3 : n1 * d3 * d2 < n3 * d1 * d2 := by
    have x1 : n1 * d2 * d3 = n1 * d3 * d2 := by rw [Int.mul_assoc, Int.mul_assoc, Int.mul_comm d2]
    have x2 : n2 * d1 * d3 = n2 * d3 * d1 := by rw [Int.mul_assoc, Int.mul_assoc, Int.mul_comm d1]
    have x3 : n3 * d2 * d1 = n3 * d1 * d2 := by rw [Int.mul_assoc, Int.mul_assoc, Int.mul_comm d2]
    omega
  exact Int.lt_of_mul_lt_mul_right e3 (by omega)

/-- how two fractions stand -/
def rcQ (a b : V) : Int := if a.n = b.n ∧ a.d = b.d then 0 else if a.n * b.d < b.n * a.d then -1 else 1
/-- the order of values -/
noncomputable def cfQ : V → V → Int := vcmpBy rcQ
theorem ok_rat {v : V} (h : vcheck v = 0) (hk : v.k = 2) : v.s.size = 0 ∧ 0 < v.d ∧ Nat.gcd v.n.natAbs v.d.natAbs = 1 := by
  unfold vcheck at h
  rw [if_neg (by omega), if_pos hk] at h
  split at h
  · rename_i hx; exact ⟨hx.1, hx.2.1, hx.2.2⟩
  · omega
theorem ok_int {v : V} (h : vcheck v = 0) (hk : v.k = 1) : v.d = 0 ∧ v.s.size = 0 := by
  unfold vcheck at h
  rw [if_pos hk] at h
  split at h
  · assumption
  · omega
theorem ok_str {v : V} (h : vcheck v = 0) (hk : v.k = 3) : v.n = 0 ∧ v.d = 0 ∧ v.s.size ≤ 64 := by
  unfold vcheck at h
  rw [if_neg (by omega), if_neg (by omega), if_pos hk] at h
  split at h
  · rename_i hx
    split at h
    · omega
    · exact ⟨hx.1, hx.2, by omega⟩
  · omega
theorem ok_kind {v : V} (h : vcheck v = 0) : v.k = 1 ∨ v.k = 2 ∨ v.k = 3 := by
  unfold vcheck at h
  split at h
  · omega
  · split at h
    · omega
    · split at h
      · omega
      · omega
theorem size_zero {s : BA} (h : s.size = 0) : s = ⟨#[]⟩ := by
  cases s with | mk a => 
    have : a.size = 0 := h
    rw [Array.eq_empty_of_size_eq_zero this]
theorem V.eq_of {a b : V} (h1 : a.k = b.k) (h2 : a.n = b.n) (h3 : a.d = b.d) (h4 : a.s = b.s) : a = b := by
  cases a; cases b; simp only at h1 h2 h3 h4; subst h1 h2 h3 h4; rfl
theorem rcQ_anti {a b : V} (ha : 0 < a.d ∧ Nat.gcd a.n.natAbs a.d.natAbs = 1) (hb : 0 < b.d ∧ Nat.gcd b.n.natAbs b.d.natAbs = 1) : rcQ a b < 0 ↔ 0 < rcQ b a := by
  unfold rcQ
  by_cases h : a.n = b.n ∧ a.d = b.d
  · rw [if_pos h, if_pos ⟨h.1.symm, h.2.symm⟩]
  · have h' : ¬ (b.n = a.n ∧ b.d = a.d) := fun e => h ⟨e.1.symm, e.2.symm⟩
    rw [if_neg h, if_neg h']
    have hne : a.n * b.d ≠ b.n * a.d := fun e => h (frac_eq ha.1 hb.1 ha.2 hb.2 e)
    by_cases h1 : a.n * b.d < b.n * a.d
    · rw [if_pos h1, if_neg (by omega)]; omega
    · rw [if_neg h1, if_pos (by omega)]; omega
theorem rcQ_trans {a b c : V} (ha : 0 < a.d) (hb : 0 < b.d) (hc : 0 < c.d) (h1 : rcQ a b < 0) (h2 : rcQ b c < 0) : rcQ a c < 0 := by
  have key : ∀ {x y : V}, rcQ x y < 0 → x.n * y.d < y.n * x.d := by
    intro x y h
    unfold rcQ at h
    split at h
    · omega
    · split at h
      · assumption
      · omega
  have h3 := frac_trans ha hb hc (key h1) (key h2)
  unfold rcQ
  rw [if_neg (fun e => by rw [e.1, e.2] at h3; omega), if_pos h3]
  omega
theorem compareInt_neg (a b : Int) : Lib.compareInt a b < 0 ↔ a < b := by unfold Lib.compareInt; (repeat' split) <;> omega
theorem compareInt_pos (a b : Int) : 0 < Lib.compareInt a b ↔ b < a := by unfold Lib.compareInt; (repeat' split) <;> omega
theorem compareInt_zero (a b : Int) : Lib.compareInt a b = 0 ↔ a = b := by unfold Lib.compareInt; (repeat' split) <;> omega
theorem cfQ_eq {a b : V} (ha : vcheck a = 0) (hb : vcheck b = 0) : cfQ a b = if a.k ≠ b.k then Lib.compareInt a.k b.k else if a.k = 1 then Lib.compareInt a.n b.n else if a.k = 2 then rcQ a b else Lib.compareBytes a.s.data.toList b.s.data.toList := by
  unfold cfQ vcmpBy
  rw [if_neg (by rw [ha, hb]; simp)]
theorem cb_zero : ∀ x y : List UInt8, Lib.compareBytes x y = 0 ↔ x = y
  | [], [] => by simp [Lib.compareBytes]
  | [], _ :: _ => by simp [Lib.compareBytes]
  | _ :: _, [] => by simp [Lib.compareBytes]
  | a :: x, b :: y => by
    simp only [Lib.compareBytes]
    by_cases h1 : a < b
    · rw [if_pos h1]
      constructor
      · intro h; omega
      · intro h; injection h with h _; subst h; exact absurd h1 (UInt8.lt_irrefl _)
    · rw [if_neg h1]
      by_cases h2 : b < a
      · rw [if_pos h2]
        constructor
        · intro h; omega
        · intro h; injection h with h _; subst h; exact absurd h2 (UInt8.lt_irrefl _)
      · rw [if_neg h2, cb_zero x y]
        have : a = b := UInt8.le_antisymm (UInt8.not_lt.1 h2) (UInt8.not_lt.1 h1)
        subst this
        simp
theorem cb_anti : ∀ x y : List UInt8, Lib.compareBytes x y < 0 ↔ 0 < Lib.compareBytes y x
  | [], [] => by simp [Lib.compareBytes]
  | [], _ :: _ => by simp [Lib.compareBytes]
  | _ :: _, [] => by simp [Lib.compareBytes]
  | a :: x, b :: y => by
    simp only [Lib.compareBytes]
    by_cases h1 : a < b
    · rw [if_pos h1, if_neg (UInt8.lt_asymm h1), if_pos h1]; omega
    · rw [if_neg h1]
      by_cases h2 : b < a
      · rw [if_pos h2, if_pos h2]; omega
      · rw [if_neg h2, if_neg h2, if_neg h1]; exact cb_anti x y
theorem cb_trans : ∀ x y z : List UInt8, Lib.compareBytes x y < 0 → Lib.compareBytes y z < 0 → Lib.compareBytes x z < 0
  | [], [], _, h, _ => by simp [Lib.compareBytes] at h
  | _ :: _, [], _, h, _ => by simp [Lib.compareBytes] at h
  | _, _ :: _, [], _, h => by simp [Lib.compareBytes] at h
  | [], _ :: _, _ :: _, _, _ => by simp [Lib.compareBytes]
  | a :: x, b :: y, c :: z, h1, h2 => by
    simp only [Lib.compareBytes] at h1 h2 ⊢
    by_cases a1 : a < b
    · by_cases b1 : b < c
      · rw [if_pos (UInt8.lt_trans a1 b1)]; omega
      · rw [if_neg b1] at h2
        by_cases b2 : c < b
        · rw [if_pos b2] at h2; omega
        · have : b = c := UInt8.le_antisymm (UInt8.not_lt.1 b2) (UInt8.not_lt.1 b1)
          subst this
          rw [if_pos a1]; omega
    · rw [if_neg a1] at h1
      by_cases a2 : b < a
      · rw [if_pos a2] at h1; omega
      · rw [if_neg a2] at h1
        have : a = b := UInt8.le_antisymm (UInt8.not_lt.1 a2) (UInt8.not_lt.1 a1)
        subst this
        by_cases b1 : a < c
        · rw [if_pos b1]; omega
        · rw [if_neg b1] at h2 ⊢
          by_cases b2 : c < a
          · rw [if_pos b2] at h2; omega
          · rw [if_neg b2] at h2 ⊢
            exact cb_trans x y z h1 h2
theorem BA_ext {a b : BA} (h : a.data.toList = b.data.toList) : a = b := by
  cases a with | mk a => cases b with | mk b => simp at h; rw [h]
theorem ordQ : OrdOk (fun v => vcheck v = 0) cfQ := by
  refine ⟨fun a ha => ?_, fun a b ha hb h => ?_, fun a b ha hb => ?_, fun a b c ha hb hc h1 h2 => ?_⟩
  · rw [cfQ_eq ha ha, if_neg (by simp)]
    split
    · exact (compareInt_zero _ _).2 rfl
    · split
      · simp [rcQ]
      · exact (cb_zero _ _).2 rfl
  · rw [cfQ_eq ha hb] at h
    by_cases hk : a.k = b.k
    · rw [if_neg (by simp [hk])] at h
      rcases ok_kind ha with k | k | k
      · have h1 := ok_int ha k
        have h2 := ok_int hb (by omega)
        rw [if_pos k] at h
        exact V.eq_of hk ((compareInt_zero _ _).1 h) (by omega) (by rw [size_zero h1.2, size_zero h2.2])
      · have h1 := ok_rat ha k
        have h2 := ok_rat hb (by omega)
        rw [if_neg (by omega), if_pos k] at h
        unfold rcQ at h
        split at h
        · rename_i hx
          exact V.eq_of hk hx.1 hx.2 (by rw [size_zero h1.1, size_zero h2.1])
        · split at h <;> omega
      · have h1 := ok_str ha k
        have h2 := ok_str hb (by omega)
        rw [if_neg (by omega), if_neg (by omega)] at h
        exact V.eq_of hk (by omega) (by omega) (BA_ext ((cb_zero _ _).1 h))
    · rw [if_pos hk] at h
      exact absurd ((compareInt_zero _ _).1 h) hk
  · rw [cfQ_eq ha hb, cfQ_eq hb ha]
    by_cases hk : a.k = b.k
    · rw [if_neg (show ¬ (a.k ≠ b.k) by simp [hk]), if_neg (show ¬ (b.k ≠ a.k) by simp [hk])]
      rcases ok_kind ha with k | k | k
      · rw [if_pos k, if_pos (show b.k = 1 by omega), compareInt_neg, compareInt_pos]
      · have h1 := ok_rat ha k
        have h2 := ok_rat hb (by omega)
        rw [if_neg (show ¬ a.k = 1 by omega), if_pos k, if_neg (show ¬ b.k = 1 by omega), if_pos (show b.k = 2 by omega)]
        exact rcQ_anti h1.2 h2.2
      · rw [if_neg (show ¬ a.k = 1 by omega), if_neg (show ¬ a.k = 2 by omega), if_neg (show ¬ b.k = 1 by omega), if_neg (show ¬ b.k = 2 by omega)]
        exact cb_anti _ _
    · rw [if_pos hk, if_pos (fun e => hk e.symm), compareInt_neg, compareInt_pos]
  · rw [cfQ_eq ha hb] at h1
    rw [cfQ_eq hb hc] at h2
    rw [cfQ_eq ha hc]
    by_cases hk : a.k = b.k
    · rw [if_neg (by simp [hk])] at h1
      by_cases hk2 : b.k = c.k
      · rw [if_neg (by simp [hk2])] at h2
        rw [if_neg (by simp [hk, hk2])]
        rcases ok_kind ha with k | k | k
        · rw [if_pos k, compareInt_neg] at h1
          rw [if_pos (by omega), compareInt_neg] at h2
          rw [if_pos k, compareInt_neg]
          omega
        · have q1 := ok_rat ha k
          have q2 := ok_rat hb (by omega)
          have q3 := ok_rat hc (by omega)
          rw [if_neg (by omega), if_pos k] at h1
          rw [if_neg (by omega), if_pos (by omega)] at h2
          rw [if_neg (by omega), if_pos k]
          exact rcQ_trans q1.2.1 q2.2.1 q3.2.1 h1 h2
        · rw [if_neg (by omega), if_neg (by omega)] at h1
          rw [if_neg (by omega), if_neg (by omega)] at h2
          rw [if_neg (by omega), if_neg (by omega)]
          exact cb_trans _ _ _ h1 h2
      · rw [if_pos hk2, compareInt_neg] at h2
        rw [if_pos (by rw [hk]; exact hk2), compareInt_neg]
        omega
    · rw [if_pos hk, compareInt_neg] at h1
      by_cases hk2 : b.k = c.k
      · rw [if_pos (by rw [← hk2]; exact hk), compareInt_neg]
        omega
      · rw [if_pos hk2, compareInt_neg] at h2
        rw [if_pos (by omega), compareInt_neg]
        omega
end Go.Proofs.YtikodapgceokhaaGreat
