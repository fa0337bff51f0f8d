/-
  WindowNumbers: the numbers of errors and limits are the document's: the law returns true. No condition.
-/
import Derived.Test.YtikodccbecmjiaaRef
import Derived.Test.YtikodccbecmjiaaLive
import Derived.Test.YtikodccbecmjiaaRows
import Derived.ProofKit
import Derived.OpenShut
namespace Go.Proofs.Ytikodccbecmjiaa
open Go.RowKit Go.Win

def nst (i : Nat) : WSt T := { nothing := (5, 0), ahead := [], behind := List.replicate i (1, 1), sum := if i = 0 then (0, 0) else (1, i), calls := i - 1 }

theorem nst_push (i : Nat) (h : i < 4096) : (nst i).push opT (1, 1) = nst (i + 1) := by
  cases i with
  | zero => rfl
  | succ i =>
    unfold WSt.push nst
    simp only [List.replicate_succ, List.cons_append]
    have e1 : IntKind.u64.wrap (1 : Int) = 1 := IntWalk.u64_in _ (by omega)
    have e2 : IntKind.u64.wrap ((i : Int) + 1) = (i : Int) + 1 := IntWalk.u64_in _ (by omega)
    have e3 : IntKind.u64.wrap ((i : Int) + 1 + 1) = (i : Int) + 1 + 1 := IntWalk.u64_in _ (by omega)
    have e4 : List.replicate i ((1, 1) : T) ++ [(1, 1)] = (1, 1) :: List.replicate i (1, 1) := by
      rw [← List.replicate_succ', List.replicate_succ]
    simp [opT, e1, e2, e3, e4]
theorem nst_len (i : Nat) : (nst i).len = i := by simp [WSt.len, nst]

theorem nst_calls (i : Nat) : (nst i).calls ≤ i := by simp [nst]
theorem nst_all (i : Nat) : (nst (i + 1)).all opT = (1, ((i + 1 : Nat) : Int)) := by simp [WSt.all, nst, List.replicate_succ]

/-- a window of the call's own -/
def MineT (F : FuncId) (cap : Array Value) (J : Nat → World → Prop) (Lo : List Nat) (w wi : World) (p : Nat) (s : WSt T) : Prop := ∃ L, THas F cap J Lo wi p s L ∧ w.Fr wi [] ∧ (∀ k, k ∈ L → w.heap.size ≤ k) ∧ ∀ k, k ∈ Lo → w.heap.size ≤ k
theorem MineT.step {F : FuncId} {cap : Array Value} {J : Nat → World → Prop} {Lo : List Nat} {w wi wj : World} {p : Nat} {s' : WSt T} {L : List Nat} {r : Value} {e : Ending}
    (h0 : w.Fr wi []) (hL : ∀ k, k ∈ L → w.heap.size ≤ k) (hLo : ∀ k, k ∈ Lo → w.heap.size ≤ k) (hp : TPost F cap J Lo p wi L s' r e wj) : e = .returned r ∧ MineT F cap J Lo w wj p s' := by
  obtain ⟨he, L', hw, hf, hL'⟩ := hp
  refine ⟨he, L', hw, h0.trans hf (fun j hj => .inr ?_), fun k hk => (hL' k hk).elim (hL k) (fun hge => Nat.le_trans h0.size hge), hLo⟩
  rcases List.mem_append.1 hj with h | h
  · exact hL j h
  · exact hLo j h

theorem field_b (w : World) : Sem.run Try.prog (Instr.field 26 (tv (1, 4096)) 1) w = .ok (.int .u64 4096) w := by kernel_rfl

set_option maxHeartbeats 1000000 in
theorem numbers3 (w : World) : Calls Try.prog 3 #[] w fun e w' => e = .returned (.bool true) ∧ w.Fr w' [] := by
  go_enter Try.func3, Try.ntmps3
  go_wp2_with fail
  refine (new7 ok8 (5, 0) _ trivial).mono ?_
  rintro e w1 ⟨p, rfl, hw, hfr, hp⟩
  have H1 : Hid (MineT 8 #[] (fun _ _ => True) [] w w1 p (nst 0)) := ⟨[p], hw, hfr, by simpa using hp, by simp⟩
  clear hw hfr
  go_wp2_with fail
  go_loopw [2] (fun i wr => ∃ k : Nat, k ≤ 4096 ∧ i = .int .i64 k ∧ Hid (MineT 8 #[] (fun _ _ => True) [] w wr p (nst k))) (fun i _ => (4096 - intOf i).toNat)
  case atStart => exact ⟨0, by omega, rfl, H1⟩
  case round =>
    obtain ⟨k, hk, rfl, HM⟩ := hrel
    obtain ⟨L, hT, hfr, hL, hLo⟩ := HM.out
    by_cases hlt : k < 4096
    · have hd : decide ((k : Int) < 4096) = true := decide_eq_true (by omega)
      have hd2 : decide (k < 4096) = true := decide_eq_true hlt
      have hpush := push9 ok8 hT (by rw [nst_len]; exact hlt) (by simp [nst]; omega) (1, 1) trivial (fun _ => trivial)
      rw [nst_push k hlt] at hpush
      have Hpush := Lib.hid hpush; have Hlt := Lib.hid hlt; have Hk := Lib.hid hk; clear hpush hlt hk hT
      have hw1 : IntKind.i64.wrap ((k : Int) + 1) = (k : Int) + 1 := IntWalk.i64_in _ (by have := Hlt.out; omega)
      have HL := Lib.hid hL; have HLo := Lib.hid hLo; have Hfr := Lib.hid hfr; clear hL hLo hfr
      go_wp2_with fail
      refine Hpush.out.mono ?_
      rintro e w2 hpost
      obtain ⟨rfl, hM2⟩ := MineT.step Hfr.out HL.out HLo.out hpost
      have HM2 := Lib.hid hM2; clear hM2 hpost
      go_wp2
      go_roundw
      case rel => exact ⟨k + 1, by have := Hlt.out; omega, by go_num, HM2⟩
      case measure => have := Hlt.out; simp [intOf]; omega
    · have hd : decide ((k : Int) < 4096) = false := decide_eq_false (by omega)
      have hd2 : decide (k < 4096) = false := decide_eq_false hlt
      obtain rfl : k = 4096 := by omega
      have hpush := push9_full ok8 hT (by rw [nst_len]; exact Nat.le_refl _) (by rw [nst_len]; omega) (0, 0)
      have Hpush := Lib.hid hpush; clear hpush hlt hk hT
      have HL := Lib.hid hL; have HLo := Lib.hid hLo; have Hfr := Lib.hid hfr; clear hL hLo hfr HM
      go_wp2_with fail
      refine Hpush.out.mono ?_
      rintro e w2 hpost
      obtain ⟨rfl, L2, hT2, hfr2, hL2⟩ := hpost
      have hM2 : ∀ j, j ∈ L2 → w.heap.size ≤ j := fun j hj => (hL2 j hj).elim (HL.out j) (fun h => Nat.le_trans Hfr.out.size h)
      have hfr3 : w.Fr w2 [] := Hfr.out.trans hfr2 (fun j hj => .inr (by simp at hj; exact HL.out j hj))
      have hall := all10 ok8 hT2 (by rw [nst_len]; omega) (by have := nst_calls 4096; omega) (fun _ _ => trivial) (fun _ => trivial)
      have hav : (nst 4096).all opT = (1, 4096) := nst_all 4095
      rw [hav] at hall
      have Hall := Lib.hid hall; have HM2 := Lib.hid hM2; have Hfr3 := Lib.hid hfr3; clear hall hM2 hfr3 hT2 hfr2 hL2 hav
      have hfield := field_b
      go_wp2_with fail
      refine Hall.out.mono ?_
      rintro e w3 hpost
      obtain ⟨rfl, L3, hT3, hfr3, hL3⟩ := hpost
      have hfr4 : w.Fr w3 [] := Hfr3.out.trans hfr3 (fun j hj => .inr (by simp at hj; exact HM2.out j hj))
      have Hfr4 := Lib.hid hfr4; clear hT3 hfr3 hL3 hfr4
      go_wp2_with fail
      refine (live11 _).mono ?_
      rintro e w4 ⟨rfl, hl4⟩
      have hfr5 : w.Fr w4 [] := Hfr4.out.trans hl4 (by simp)
      have Hfr5 := Lib.hid hfr5; clear hfr5 hl4
      go_wp2
      go_ret
      exact ⟨rfl, Hfr5.out⟩
end Go.Proofs.Ytikodccbecmjiaa
