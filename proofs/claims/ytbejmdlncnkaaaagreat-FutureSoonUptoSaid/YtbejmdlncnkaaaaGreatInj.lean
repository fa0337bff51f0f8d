/-
  Keys tell values apart: plainly.
-/
import Derived.Test.YtbejmdlncnkaaaaGreatKys
import Derived.Test.YtbejmdlncnkaaaaGreatTbs
namespace Go.Proofs.YtbejmdlncnkaaaaGreat
open Go.RowKit

theorem byt_inj {x y : Int} (h : byt x = byt y) : x % 256 = y % 256 := by
  have h1 := congrArg UInt8.toNat h
  unfold byt at h1
  rw [UInt8.toNat_ofNat', UInt8.toNat_ofNat'] at h1
  have a1 := Int.emod_nonneg x (show (256 : Int) ≠ 0 by decide)
  have a2 := Int.emod_lt_of_pos x (show (0 : Int) < 256 by decide)
  have b1 := Int.emod_nonneg y (show (256 : Int) ≠ 0 by decide)
  have b2 := Int.emod_lt_of_pos y (show (0 : Int) < 256 by decide)
  omega
theorem bytes_mod : ∀ (t : Nat) (n m : Int), (∀ j, j < t → (n / 2 ^ (8 * j)) % 256 = (m / 2 ^ (8 * j)) % 256) → n % (256 ^ t) = m % (256 ^ t)
  | 0, n, m, _ => by simp [Int.emod_one]
  | t + 1, n, m, h => by
    have h0 := h 0 (by omega)
    simp at h0
    have ih := bytes_mod t (n / 256) (m / 256) (fun j hj => by
      have := h (j + 1) (by omega)
      have e : (2 : Int) ^ (8 * (j + 1)) = 256 * 2 ^ (8 * j) := by rw [show 8 * (j + 1) = 8 + 8 * j by omega, Int.pow_add]; rfl
      rw [e, ← Int.ediv_ediv_of_nonneg (by decide), ← Int.ediv_ediv_of_nonneg (by decide)] at this
      exact this)
    have key : ∀ x : Int, x % 256 ^ (t + 1) = x % 256 + 256 * ((x / 256) % 256 ^ t) := fun x => by
      have hp : (0 : Int) < 256 ^ t := Int.pow_pos (by decide)
      have e : (256 : Int) ^ (t + 1) = 256 * 256 ^ t := by rw [Int.pow_succ, Int.mul_comm]
      have h1 := Int.emod_nonneg x (show (256 : Int) ≠ 0 by decide)
      have h2 := Int.emod_lt_of_pos x (show (0 : Int) < 256 by decide)
      have h3 := Int.emod_nonneg (x / 256) (show (256 : Int) ^ t ≠ 0 by omega)
      have h4 := Int.emod_lt_of_pos (x / 256) hp
      have h5 := Int.emod_add_mul_ediv x 256
      have h6 := Int.emod_add_mul_ediv (x / 256) (256 ^ t)
      have h7 : x = (x % 256 + 256 * ((x / 256) % 256 ^ t)) + (256 * 256 ^ t) * (x / 256 / 256 ^ t) := by
        have : 256 * (x / 256) = 256 * ((x / 256) % 256 ^ t) + 256 * (256 ^ t * (x / 256 / 256 ^ t)) := by rw [← Int.mul_add, h6]
        rw [← Int.mul_assoc] at this
        omega
      rw [e]
      conv => lhs; rw [h7]
      rw [Int.add_mul_emod_self_left]
      exact Int.emod_eq_of_lt (by omega) (by
        have : 256 * ((x / 256) % 256 ^ t) + 256 ≤ 256 * 256 ^ t := by
          have := Int.mul_le_mul_of_nonneg_left (show (x / 256) % 256 ^ t + 1 ≤ 256 ^ t by omega) (show (0 : Int) ≤ 256 by decide)
          rw [Int.mul_add] at this
          omega
        omega)
    rw [key, key, h0, ih]
theorem bytes_inj {n m : Int} (hn : inI64 n) (hm : inI64 m) (h : ∀ j, j < 8 → byt (n / 2 ^ (8 * j)) = byt (m / 2 ^ (8 * j))) : n = m := by
  have h1 := bytes_mod 8 n m (fun j hj => byt_inj (h j hj))
  have e : (256 : Int) ^ 8 = 18446744073709551616 := by decide
  rw [e] at h1
  unfold inI64 at hn hm
  omega
theorem keyN_inj {n d m e : Int} : ∀ t : Nat, (List.range t).flatMap (keyN n d) = (List.range t).flatMap (keyN m e) → ∀ j, j < t → byt (n / 2 ^ (8 * j)) = byt (m / 2 ^ (8 * j)) ∧ byt (d / 2 ^ (8 * j)) = byt (e / 2 ^ (8 * j))
  | 0, _, _, hj => by omega
  | t + 1, h, j, hj => by
    rw [List.range_succ, List.flatMap_append, List.flatMap_append] at h
    obtain ⟨h1, h2⟩ := List.append_inj h (by rw [keyN_len, keyN_len])
    simp [keyN] at h2
    rcases Nat.lt_or_ge j t with hlt | hge
    · exact keyN_inj t h1 j hlt
    · obtain rfl : j = t := by omega
      exact h2
structure VOk (v : V) : Prop where
  ok : vcheck v = 0
  wf : v.wf
theorem VOk.small {v : V} (h : VOk v) : v.s.size ≤ 64 := by
  rcases ok_kind h.ok with k | k | k
  · have := ok_int h.ok k; omega
  · have := ok_rat h.ok k; omega
  · have := ok_str h.ok k; omega
theorem keyV_inj {x y : V} {A B : List UInt8} (hx : VOk x) (hy : VOk y) (h : keyV x ++ A = keyV y ++ B) : x = y ∧ A = B := by
  unfold keyV at h
  simp only [List.cons_append, List.append_assoc] at h
  injection h with h1 h2
  obtain ⟨h3, h4⟩ := List.append_inj h2 (by rw [keyN_len, keyN_len])
  injection h4 with h5 h6
  have hk := byt_inj h1
  have hs := byt_inj h5
  have s1 := hx.small
  have s2 := hy.small
  have hsz : x.s.size = y.s.size := by omega
  have hkk : x.k = y.k := by
    have := ok_kind hx.ok
    have := ok_kind hy.ok
    omega
  obtain ⟨h7, h8⟩ := List.append_inj h6 (by
    have e1 : x.s.data.toList.length = x.s.size := by rw [Array.length_toList]; rfl
    have e2 : y.s.data.toList.length = y.s.size := by rw [Array.length_toList]; rfl
    rw [e1, e2, hsz])
  have hb := keyN_inj 8 h3
  exact ⟨V.eq_of hkk (bytes_inj hx.wf.n hy.wf.n fun j hj => (hb j hj).1) (bytes_inj hx.wf.d hy.wf.d fun j hj => (hb j hj).2) (BA_ext h7), h8⟩
theorem keyL_inj : ∀ (xs ys : List V), xs.length = ys.length → (∀ v, v ∈ xs → VOk v) → (∀ v, v ∈ ys → VOk v) → xs.flatMap keyV = ys.flatMap keyV → xs = ys
  | [], [], _, _, _, _ => rfl
  | x :: xs, y :: ys, hl, h1, h2, h => by
    simp only [List.flatMap_cons] at h
    obtain ⟨e1, e2⟩ := keyV_inj (h1 x (by simp)) (h2 y (by simp)) h
    rw [e1, keyL_inj xs ys (by simpa using hl) (fun v hv => h1 v (by simp [hv])) (fun v hv => h2 v (by simp [hv])) e2]
  | [], _ :: _, hl, _, _, _ => by simp at hl
  | _ :: _, [], hl, _, _, _ => by simp at hl
theorem kyOf_pick (l want : List BA) (r : Row) : kyOf l want r = ⟨((pick l r want).flatMap keyV).toArray⟩ := by
  unfold kyOf keyS keyL plc pick
  rw [List.flatMap_map, List.flatMap_map]
/-- two rows have the same key just if they have the same values at the names -/
theorem kyOf_eq {l m want : List BA} {r s : Row} (hr : r.length = l.length) (hs : s.length = m.length) (hl : ∀ x, x ∈ want → x ∈ l) (hm : ∀ x, x ∈ want → x ∈ m) (ho1 : ∀ v, v ∈ r → VOk v) (ho2 : ∀ v, v ∈ s → VOk v) :
    kyOf l want r = kyOf m want s ↔ pick l r want = pick m s want := by
  rw [kyOf_pick, kyOf_pick]
  constructor
  · intro h
    have h1 := congrArg (fun b : BA => b.data.toList) h
    simp only at h1
    exact keyL_inj _ _ (by rw [pick_len, pick_len]) (fun v hv => ho1 v (pick_mem hl hr hv)) (fun v hv => ho2 v (pick_mem hm hs hv)) h1
  · intro h; rw [h]
end Go.Proofs.YtbejmdlncnkaaaaGreat
