/-
  The document's Many and Light: how many rows tables have, and what they may make.
-/
import Derived.Test.YtbejmdlncnkaaaaGreatLow
namespace Go.Proofs.YtbejmdlncnkaaaaGreat
open Go.RowKit

/-- the lengths of tables' rows, as they lie in a slice of tables -/
def Lens (w : World) (g off : Nat) (ls : List Nat) : Prop := ∀ (i n : Nat), ls[i]? = some n → ∃ a c, w.cell? ⟨g, off + i * 2 + 1, none⟩ = some (.slice a n c)
set_option maxRecDepth 100000 in
set_option maxHeartbeats 1000000 in
theorem many42 {w : World} {g off cap : Nat} {ls : List Nat} (h : Lens w g off ls) (hg : g < w.heap.size) (hs : ls.sum ≤ 8000000000000000000) (hl : ls.length ≤ 8000000000000000000) :
    Calls Tryz.prog 57 #[.slice (some ⟨g, off, none⟩) ls.length cap] w fun e w' => e = .returned (.int .i64 (ls.sum : Int)) ∧ w = w' := by
  have H := Lib.hid h; have Hs := Lib.hid hs; have Hl := Lib.hid hl; clear h hs hl
  go_enter Tryz.func57, Tryz.ntmps57
  go_wp2
  go_loopw [3, 4] (fun n i wr => ∃ (j m : Nat), i = .int .i64 j ∧ n = .int .i64 m ∧ j ≤ ls.length ∧ Hid ((ls.take j).sum = m) ∧ wr = w) (fun _ i _ => (ls.length - intOf i).toNat)
  case atStart => exact ⟨0, 0, rfl, rfl, Nat.zero_le _, Lib.hid (by simp), rfl⟩
  case round =>
    obtain ⟨j, m, rfl, rfl, hj, HM, rfl⟩ := hrel
    by_cases hlt : j < ls.length
    · obtain ⟨k, hk⟩ : ∃ k, ls[j]? = some k := ⟨ls[j], List.getElem?_eq_getElem hlt⟩
      obtain ⟨a, c, kx⟩ := H.out j k hk
      have hjI : (j : Int) < (ls.length : Int) := by omega
      have hw1 : IntKind.i64.wrap ((j : Int) + 1) = (j : Int) + 1 := IntWalk.i64_in _ (by have := Hl.out; omega)
      have hsn : (ls.take (j + 1)).sum = m + k := by
        rw [List.take_succ_eq_append_getElem hlt, (List.getElem?_eq_some_iff.1 hk).2, List.sum_append, HM.out]; simp
      have hle : m + k ≤ 8000000000000000000 := by
        rw [← hsn]
        refine Nat.le_trans ?_ Hs.out
        conv => rhs; rw [← List.take_append_drop (j + 1) ls, List.sum_append]
        omega
      have hw2 : IntKind.i64.wrap ((m : Int) + (k : Int)) = (m : Int) + (k : Int) := IntWalk.i64_in _ (by omega)
      have Hsn := Lib.hid hsn; clear hsn hle hk
      go_wp2
      go_roundw
      case rel => exact ⟨j + 1, m + k, by go_num, by go_num, by omega, Hsn, trivial⟩
      case measure => simp [intOf]; omega
    · have hd : decide ((j : Int) < (ls.length : Int)) = false := decide_eq_false (by omega)
      have hd2 : decide (j < ls.length) = false := decide_eq_false hlt
      have hm := HM.out
      rw [List.take_of_length_le (by omega)] at hm
      have Hm := Lib.hid hm; clear hm HM hlt hj
      go_wp2
      go_ret
      exact ⟨by rw [Hm.out]; rfl, rfl⟩

end Go.Proofs.YtbejmdlncnkaaaaGreat
