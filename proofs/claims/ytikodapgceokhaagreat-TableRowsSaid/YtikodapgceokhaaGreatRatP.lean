/-
  Fractions, plainly: the least form, the order.
-/
import Derived.Test.YtikodapgceokhaaGreatFraA
import Derived.Test.YtikodapgceokhaaGreatTbs
namespace Go.Proofs.YtikodapgceokhaaGreat
open Go.RowKit

theorem ratOf_eq {n d : Int} (hn : inI64 n) (hd : inI64 d) : ratOf n d = (n, d, 0) ↔ (0 < d ∧ Nat.gcd n.natAbs d.natAbs = 1) := by
  obtain ⟨n0, n1⟩ := hn
  obtain ⟨d0, d1⟩ := hd
  constructor
  · intro h
    unfold ratOf at h
    by_cases hz : d = 0
    · rw [if_pos hz] at h
      injection h with _ h; injection h with _ h; omega
    · rw [if_neg hz] at h
      simp only at h
      have key : ((d.natAbs / Nat.gcd n.natAbs d.natAbs : Nat) : Int) = d := by
        split at h
        · split at h
          · injection h with _ h; injection h with _ h; omega
          · injection h with _ h; injection h with h _
        · split at h
          · injection h with _ h; injection h with _ h; omega
          · injection h with _ h; injection h with h _
      have hp : 0 < d := by generalize d.natAbs / Nat.gcd n.natAbs d.natAbs = q at key; omega
      refine ⟨hp, ?_⟩
      have h2 : d.natAbs / Nat.gcd n.natAbs d.natAbs = d.natAbs := by generalize d.natAbs / Nat.gcd n.natAbs d.natAbs = q at *; omega
      have h3 := Nat.div_mul_cancel (Nat.gcd_dvd_right n.natAbs d.natAbs)
      rw [h2] at h3
      exact Nat.eq_of_mul_eq_mul_left (show 0 < d.natAbs by omega) (by rw [h3, Nat.mul_one])
  · rintro ⟨hp, hg⟩
    unfold ratOf
    rw [if_neg (by omega), hg]
    simp only [Nat.div_one]
    have hdd : decide (d < 0) = false := decide_eq_false (by omega)
    by_cases hn : n < 0
    · rw [if_pos ⟨by omega, by rw [hdd, decide_eq_true hn]; rfl⟩, if_neg (by rintro (h | h) <;> omega)]
      rw [show -(n.natAbs : Int) = n by omega, show (d.natAbs : Int) = d by omega]
    · rw [if_neg (fun h => by rw [hdd, decide_eq_false hn] at h; exact Bool.noConfusion h.2), if_neg (by rintro (h | h) <;> omega)]
      rw [show (n.natAbs : Int) = n by omega, show (d.natAbs : Int) = d by omega]

theorem plusW_neg (X Y : Nat) (s t : Bool) :
    (plusW ⟨X / 18446744073709551616, X % 18446744073709551616, s⟩ ⟨Y / 18446744073709551616, Y % 18446744073709551616, !t⟩).m = if s = t then (if X < Y then !t else s) else s := by
  unfold plusW
  simp only
  cases s <;> cases t <;> simp only [Bool.not_true, Bool.not_false, if_true, if_false, Bool.false_eq_true, reduceCtorEq]
  · by_cases h : X < Y
    · rw [if_pos (by omega), if_pos h]; rfl
    · rw [if_neg (by omega), if_neg h]; rfl
  · by_cases h : X < Y
    · rw [if_pos (by omega), if_pos h]; rfl
    · rw [if_neg (by omega), if_neg h]; rfl

theorem ratCmp_eq {n d m e : Int} (h1 : 0 < d ∧ Nat.gcd n.natAbs d.natAbs = 1) (h2 : 0 < e ∧ Nat.gcd m.natAbs e.natAbs = 1) :
    ratCmp n d m e = if n = m ∧ d = e then 0 else if n * e < m * d then -1 else 1 := by
  unfold ratCmp
  rw [if_pos ⟨by rw [mayB, decide_eq_true h1.1, decide_eq_true h1.2]; rfl, by rw [mayB, decide_eq_true h2.1, decide_eq_true h2.2]; rfl⟩]
  by_cases hs : n = m ∧ d = e
  · rw [if_pos hs, if_pos hs]
  · rw [if_neg hs, if_neg hs]
    have hne : n * e ≠ m * d := fun h => hs (frac_eq h1.1 h2.1 h1.2 h2.2 h)
    have hed : decide (e < 0) = false := decide_eq_false (by omega)
    have hdd : decide (d < 0) = false := decide_eq_false (by omega)
    have hpl := plusW_neg (n.natAbs * e.natAbs) (m.natAbs * d.natAbs) (decide (n < 0)) (decide (m < 0))
    have e1 : (timesW n e) = ⟨n.natAbs * e.natAbs / 18446744073709551616, n.natAbs * e.natAbs % 18446744073709551616, decide (n < 0)⟩ := by
      unfold timesW; rw [hed]; cases decide (n < 0) <;> rfl
    have e2 : (timesW m d) = ⟨m.natAbs * d.natAbs / 18446744073709551616, m.natAbs * d.natAbs % 18446744073709551616, decide (m < 0)⟩ := by
      unfold timesW; rw [hdd]; cases decide (m < 0) <;> rfl
    rw [e1, e2]
    simp only
    rw [hpl]
    have z1 : n * e = if n < 0 then -((n.natAbs * e.natAbs : Nat) : Int) else ((n.natAbs * e.natAbs : Nat) : Int) := by
      split
      · rw [Int.natCast_mul, ← Int.neg_mul, show -(n.natAbs : Int) = n by omega, show (e.natAbs : Int) = e by omega]
      · rw [Int.natCast_mul, show (n.natAbs : Int) = n by omega, show (e.natAbs : Int) = e by omega]
    have z2 : m * d = if m < 0 then -((m.natAbs * d.natAbs : Nat) : Int) else ((m.natAbs * d.natAbs : Nat) : Int) := by
      split
      · rw [Int.natCast_mul, ← Int.neg_mul, show -(m.natAbs : Int) = m by omega, show (d.natAbs : Int) = d by omega]
      · rw [Int.natCast_mul, show (m.natAbs : Int) = m by omega, show (d.natAbs : Int) = d by omega]
    have p1 : n < 0 → 0 < n.natAbs * e.natAbs := fun h => Nat.mul_pos (by omega) (by omega)
    have p2 : m < 0 → 0 < m.natAbs * d.natAbs := fun h => Nat.mul_pos (by omega) (by omega)
    generalize n.natAbs * e.natAbs = X at *
    generalize m.natAbs * d.natAbs = Y at *
    generalize n * e = NE at *
    generalize m * d = MD at *
    by_cases q1 : n < 0 <;> by_cases q2 : m < 0
    · have := p1 q1
      rw [if_pos q1] at z1; rw [if_pos q2] at z2
      rw [decide_eq_true q1, decide_eq_true q2]
      by_cases hl : X < Y
      · simp only [if_true, if_pos hl, Bool.not_true, Bool.false_eq_true, if_false]
        rw [if_neg (by omega)]
      · simp only [if_true, if_neg hl]
        rw [if_pos (by omega)]
    · have := p1 q1
      rw [if_pos q1] at z1; rw [if_neg q2] at z2
      rw [decide_eq_true q1, decide_eq_false q2]
      simp only [if_true, Bool.true_eq_false, if_false]
      rw [if_pos (by omega)]
    · have := p2 q2
      rw [if_neg q1] at z1; rw [if_pos q2] at z2
      rw [decide_eq_false q1, decide_eq_true q2]
      simp only [Bool.false_eq_true, if_false]
      rw [if_neg (by omega)]
    · rw [if_neg q1] at z1; rw [if_neg q2] at z2
      rw [decide_eq_false q1, decide_eq_false q2]
      by_cases hl : X < Y
      · simp only [if_true, if_pos hl, Bool.not_false]
        rw [if_pos (by omega)]
      · simp only [if_true, if_neg hl, Bool.false_eq_true, if_false]
        rw [if_neg (by omega)]
end Go.Proofs.YtikodapgceokhaaGreat
