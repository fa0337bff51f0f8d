/-
  The document's Many and Light: how many rows tables have, and what they may make.
-/
import Derived.Test.YtikodapgceokhaaGreatLow
namespace Go.Proofs.YtikodapgceokhaaGreat
open Go.RowKit

/-- the lengths of tables' rows, as they lie in a slice of tables -/
def Lens (w : World) (g off : Nat) (ls : List Nat) : Prop := ∀ (i n : Nat), ls[i]? = some n → ∃ a c, w.cell? ⟨g, off + i * 2 + 1, none⟩ = some (.slice a n c)
/-- are they light? -/
def lightF : Nat → List Nat → Bool
  | _, [] => true
  | n, l :: t => if 20000 < n * max 1 l then false else lightF (n * max 1 l) t

set_option maxRecDepth 100000 in
set_option maxHeartbeats 1000000 in
theorem many42 {w : World} {g off cap : Nat} {ls : List Nat} (h : Lens w g off ls) (hg : g < w.heap.size) (hs : ls.sum ≤ 8000000000000000000) (hl : ls.length ≤ 8000000000000000000) :
    Calls Tryz.prog 42 #[.slice (some ⟨g, off, none⟩) ls.length cap] w fun e w' => e = .returned (.int .i64 (ls.sum : Int)) ∧ w = w' := by
  have H := Lib.hid h; have Hs := Lib.hid hs; have Hl := Lib.hid hl; clear h hs hl
  go_enter Tryz.func42, Tryz.ntmps42
  go_wp2
  go_loopw [3, 4] (fun n i wr => ∃ (j m : Nat), i = .int .i64 j ∧ n = .int .i64 m ∧ j ≤ ls.length ∧ Hid ((ls.take j).sum = m) ∧ wr = w) (fun _ i _ => (ls.length - intOf i).toNat)
  case atStart => exact ⟨0, 0, rfl, rfl, Nat.zero_le _, Lib.hid (by simp), rfl⟩
  case round =>
    obtain ⟨j, m, rfl, rfl, hj, HM, rfl⟩ := hrel
    by_cases hlt : j < ls.length
    · obtain ⟨k, hk⟩ : ∃ k, ls[j]? = some k := ⟨ls[j], List.getElem?_eq_getElem hlt⟩
      obtain ⟨a, c, kx⟩ := H.out j k hk
      have hjI : (j : Int) < (ls.length : Int) := by omega
      have hw1 : IntKind.i64.wrap ((j : Int) + 1) = (j : Int) + 1 := IntWalk.i64_in _ (by have := Hl.out; omega)
      have hsn : (ls.take (j + 1)).sum = m + k := by
        rw [List.take_succ_eq_append_getElem hlt, (List.getElem?_eq_some_iff.1 hk).2, List.sum_append, HM.out]; simp
      have hle : m + k ≤ 8000000000000000000 := by
        rw [← hsn]
        refine Nat.le_trans ?_ Hs.out
        conv => rhs; rw [← List.take_append_drop (j + 1) ls, List.sum_append]
        omega
      have hw2 : IntKind.i64.wrap ((m : Int) + (k : Int)) = (m : Int) + (k : Int) := IntWalk.i64_in _ (by omega)
      have Hsn := Lib.hid hsn; clear hsn hle hk
      go_wp2
      go_roundw
      case rel => exact ⟨j + 1, m + k, by go_num, by go_num, by omega, Hsn, trivial⟩
      case measure => simp [intOf]; omega
    · have hd : decide ((j : Int) < (ls.length : Int)) = false := decide_eq_false (by omega)
      have hd2 : decide (j < ls.length) = false := decide_eq_false hlt
      have hm := HM.out
      rw [List.take_of_length_le (by omega)] at hm
      have Hm := Lib.hid hm; clear hm HM hlt hj
      go_wp2
      go_ret
      exact ⟨by rw [Hm.out]; rfl, rfl⟩

set_option maxRecDepth 100000 in
set_option maxHeartbeats 1000000 in
theorem light22 {w : World} {g off cap : Nat} {ls : List Nat} (h : Lens w g off ls) (hg : g < w.heap.size) (hb : ∀ n, n ∈ ls → n ≤ 5864062014634) (hl : ls.length ≤ 8000000000000000000) :
    Calls Tryz.prog 22 #[.slice (some ⟨g, off, none⟩) ls.length cap] w fun e w' => e = .returned (.bool (lightF 1 ls)) ∧ w = w' := by
  generalize hR : lightF 1 ls = R
  have H := Lib.hid h; have Hb := Lib.hid hb; have Hl := Lib.hid hl; have HR := Lib.hid hR; clear h hb hl hR
  go_enter Tryz.func22, Tryz.ntmps22
  go_wp2
  go_loopw [3, 4] (fun n i wr => ∃ (j m : Nat), i = .int .i64 j ∧ n = .int .i64 m ∧ j ≤ ls.length ∧ Hid (m ≤ 20000) ∧ Hid (lightF m (ls.drop j) = R) ∧ wr = w) (fun _ i _ => (ls.length - intOf i).toNat)
  case atStart => exact ⟨0, 1, rfl, rfl, Nat.zero_le _, Lib.hid (by decide), by rw [List.drop_zero]; exact HR, rfl⟩
  case round =>
    obtain ⟨j, m, rfl, rfl, hj, HM, HL, rfl⟩ := hrel
    by_cases hlt : j < ls.length
    · obtain ⟨k, hk⟩ : ∃ k, ls[j]? = some k := ⟨ls[j], List.getElem?_eq_getElem hlt⟩
      obtain ⟨a, c, kx⟩ := H.out j k hk
      have hjI : (j : Int) < (ls.length : Int) := by omega
      have hw1 : IntKind.i64.wrap ((j : Int) + 1) = (j : Int) + 1 := IntWalk.i64_in _ (by have := Hl.out; omega)
      have hkb := Hb.out k (List.mem_of_getElem? hk)
      have hst := HL.out
      rw [List.drop_eq_getElem_cons hlt, (List.getElem?_eq_some_iff.1 hk).2, lightF] at hst
      by_cases hk1 : 1 < k
      · have hkI : (1 : Int) < (k : Int) := by omega
        have hkd : decide ((1 : Int) < (k : Int)) = true := decide_eq_true hkI
        have hmax : max 1 k = k := by omega
        have hmul : m * k ≤ 20000 * 5864062014634 := Nat.mul_le_mul HM.out hkb
        rw [hmax] at hst
        have hmi : (m : Int) * (k : Int) = ((m * k : Nat) : Int) := by rw [Int.natCast_mul]
        obtain ⟨z, hz⟩ : ∃ z, z = m * k := ⟨_, rfl⟩
        rw [← hz] at hst hmul hmi
        have hw2 : IntKind.i64.wrap ((m : Int) * (k : Int)) = (z : Int) := by rw [hmi]; exact IntWalk.i64_in _ (by omega)
        clear hmi hmax hk1
        have Hst := Lib.hid hst; have Hmul := Lib.hid hmul
        clear hst hmul hk hkb hz
        by_cases h2 : 20000 < z
        · have hd : decide ((20000 : Int) < (z : Int)) = true := decide_eq_true (by omega)
          have hd2 : decide (20000 < z) = true := decide_eq_true h2
          have hres : R = false := by rw [← Hst.out, if_pos h2]
          subst hres
          clear h2 HR HL Hst
          go_wp2
          go_ret
          exact ⟨rfl, rfl⟩
        · have hd : decide ((20000 : Int) < (z : Int)) = false := decide_eq_false (by omega)
          have hd2 : decide (20000 < z) = false := decide_eq_false h2
          have hL2 : lightF z (ls.drop (j + 1)) = R := by rw [← Hst.out, if_neg h2]
          have HL2 := Lib.hid hL2; have HM2 : Hid (z ≤ 20000) := Lib.hid (by omega)
          clear h2 hL2 HL Hst
          go_wp2
          go_roundw
          case rel => exact ⟨j + 1, z, by go_num, by go_num, by omega, HM2, HL2, trivial⟩
          case measure => simp [intOf]; omega
      · have hkI : ¬ (1 : Int) < (k : Int) := by omega
        have hkd : decide ((1 : Int) < (k : Int)) = false := decide_eq_false hkI
        have hmax : max 1 k = 1 := by omega
        rw [hmax, Nat.mul_one] at hst
        obtain ⟨z, hz⟩ : ∃ z, z = m := ⟨_, rfl⟩
        subst hz
        have hmul : z ≤ 20000 := HM.out
        have hw2 : IntKind.i64.wrap (z : Int) = (z : Int) := IntWalk.i64_in _ (by omega)
        have hw3 : IntKind.i64.wrap ((z : Int) * 1) = (z : Int) := by rw [Int.mul_one]; exact hw2
        have hz : z = z := rfl
        clear hmax hk1
        have Hst := Lib.hid hst; have Hmul := Lib.hid hmul
        clear hst hmul hk hkb hz
        have h2 : ¬ 20000 < z := by have := Hmul.out; omega
        · have hd : decide ((20000 : Int) < (z : Int)) = false := decide_eq_false (by omega)
          have hd2 : decide (20000 < z) = false := decide_eq_false h2
          have hL2 : lightF z (ls.drop (j + 1)) = R := by rw [← Hst.out, if_neg h2]
          have HL2 := Lib.hid hL2; have HM2 : Hid (z ≤ 20000) := Lib.hid (by omega)
          clear h2 hL2 HL Hst
          go_wp2
          go_roundw
          case rel => exact ⟨j + 1, z, by go_num, by go_num, by omega, HM2, HL2, trivial⟩
          case measure => simp [intOf]; omega
    · have hd : decide ((j : Int) < (ls.length : Int)) = false := decide_eq_false (by omega)
      have hd2 : decide (j < ls.length) = false := decide_eq_false hlt
      have hm := HL.out
      rw [List.drop_of_length_le (by omega), lightF] at hm
      subst hm
      clear HL HM hlt hj HR
      go_wp2
      go_ret
      exact ⟨rfl, rfl⟩
end Go.Proofs.YtikodapgceokhaaGreat
