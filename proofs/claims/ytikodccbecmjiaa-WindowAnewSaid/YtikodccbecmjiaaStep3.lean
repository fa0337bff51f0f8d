/-
  The walk of step, more: many pushes, many pops, nothing.
-/
import Derived.Test.YtikodccbecmjiaaStep2
namespace Go.Proofs.Ytikodccbecmjiaa
open Go.RowKit Go.Win

section
variable {w0 : World} {N0 : List Nat} {p r : Nat} {no : T} {Q : List (Nat × Obj)} {wi : World} {s : WSt T} {l : List T} {B : Nat}

theorem step_none (h : TwoAt w0 N0 p r no Q wi s l) (hF : Fits B no s l) (k a b n : Int) (h1 : (k == 1) = false) (h2 : (k == 2) = false) (h3 : (k == 3) = false) (h4 : (k == 4) = false) (h5 : (k == 5) = false) :
    Calls Try.prog 26 #[.pointer (some ⟨p,0,none⟩), .pointer (some ⟨r,0,none⟩), opv k a b n] wi (StepPost w0 N0 p r no Q (B + 10001)) := by
  have hT := (h.alloc (.cells #[.int .i64 k, .int .u64 a, .int .u64 b, .int .i64 n] 38)).drop
  have HT := Lib.hid hT; have HF := Lib.hid (hF.mono (show B ≤ B + 10001 by omega)); clear h hF hT
  go_enter Try.func26, Try.ntmps26
  go_wp2
  go_ret
  exact ⟨rfl, _, _, HT.out, HF.out⟩

set_option maxHeartbeats 2000000 in
theorem step_many (h : TwoAt w0 N0 p r no Q wi s l) (hF : Fits B no s l) (hB : B + 10001 ≤ room) (a b n : Int) :
    Calls Try.prog 26 #[.pointer (some ⟨p,0,none⟩), .pointer (some ⟨r,0,none⟩), opv 4 a b n] wi (StepPost w0 N0 p r no Q (B + 10001)) := by
  have hT := h.alloc (.cells #[.int .i64 4, .int .u64 a, .int .u64 b, .int .i64 n] 38)
  obtain ⟨N, hN⟩ : ∃ N : Nat, max 0 (min n 5000) = (N : Int) := ⟨(max 0 (min n 5000)).toNat, by omega⟩
  have hN5 : N ≤ 5000 := by omega
  have hlim : ∀ w, Calls Try.prog 20 #[.int .i64 n] w fun e w' => e = .returned (.int .i64 N) ∧ w = w' := fun w => by have := limit20 n w; rw [hN] at this; exact this
  have Hlim := Lib.hid hlim; have HF := Lib.hid hF; have HB := Lib.hid hB; have HN := Lib.hid hN5; clear h hF hB hN hlim hN5
  have hbox := hT.box (List.mem_cons_self ..)
  have HT := Lib.hid hT; clear hT hbox
  go_enter Try.func26, Try.ntmps26
  go_wp2
  generalize hW : World.alloc wi _ = W at *
  clear hW
  go_loopw [11] (fun i wr => ∃ (k : Nat) (s' : WSt T) (l' : List T), k ≤ N ∧ i = .int .i64 k ∧ Hid (TwoAt w0 N0 p r no ((wi.heap.size, .cells #[.int .i64 4, .int .u64 a, .int .u64 b, .int .i64 n] 38) :: Q) wr s' l') ∧ Hid (Fits (B + 2 * k) no s' l')) (fun i _ => (N - intOf i).toNat)
  case atStart => exact ⟨0, s, l, Nat.zero_le _, rfl, HT, HF⟩
  case round =>
    obtain ⟨k, s', l', hk, rfl, HTk, HFk⟩ := hrel
    have hbox := HTk.out.box (List.mem_cons_self ..)
    obtain ⟨c0, c1, c2, c3, cf⟩ := four hbox
    by_cases hlt : k < N
    · have hltI : (k : Int) < (N : Int) := by omega
      have hw1 : IntKind.i64.wrap ((k : Int) + 1) = (k : Int) + 1 := IntWalk.i64_in _ (by have := HN.out; omega)
      have hbl := lt_of_heap hbox
      have hbl1 : wi.heap.size < wr.heap.size + 1 := by omega
      go_wp2_with fail
      refine (Hlim.out _).mono ?_
      rintro e w' ⟨rfl, rfl⟩
      go_upto_region 15 with (fail)
      have hA := (HTk.out.alloc (.cells #[.int .u64 (IntKind.u64.wrap (a + IntKind.u64.wrap (k : Int))), .int .u64 b] 26))
      generalize IntKind.u64.wrap (a + IntKind.u64.wrap (k : Int)) = xa at *
      generalize hW : World.alloc wr _ = W2 at *
      have hsz : W2.heap.size = wr.heap.size + 1 := by rw [← hW]; simp
      clear hW
      have h2 := hA.still ((World.Fr.refl W2 []).drew)
      obtain ⟨d0, d1, df⟩ := two (h2.box (List.mem_cons_self ..))
      have hfp := fPush h2 HFk.out (by have := HB.out; have := HN.out; omega) (xa, b)
      have hfr := fun Q' w3 (hT3 : TwoAt w0 N0 p r no Q' w3 (pushR opT s' (xa, b)) l') => fRPush hT3 HFk.out (xa, b)
      have hnext := HFk.out.push (xa, b)
      have Hfp := Lib.hid hfp; have Hfr := Lib.hid hfr; have Hnext := Lib.hid hnext; have Hsz := Lib.hid hsz; clear hfp hfr hnext hA hbox c0 c1 c2 c3 cf h2 hsz
      generalize errP s' = ee at *
      go_region_with (first | (go_at_call 9; refine Hfp.out.mono ?_; rintro e w2 ⟨rfl, hT2⟩; obtain ⟨k0, k1, kf⟩ := two (hT2.box (List.mem_cons_self ..))) | (go_at_call 34; refine (Hfr.out _ _ (by assumption)).mono ?_; rintro e w3 ⟨rfl, hT3⟩))
      all_goals
        have HT3 := Lib.hid hT3.drop
        clear hT3 hT2
        go_wp2
        go_roundw
        case rel => exact ⟨k + 1, _, _, by omega, by go_num, HT3, (Hnext.out.mono (by omega))⟩
        case measure => simp [intOf]; omega
    · have hnI : ¬ ((k : Int) < (N : Int)) := by omega
      have hd : decide ((k : Int) < (N : Int)) = false := decide_eq_false hnI
      have hd2 : decide (k < N) = false := decide_eq_false hlt
      have HTf := Lib.hid HTk.out.drop
      have HFf := Lib.hid (HFk.out.mono (show B + 2 * k ≤ B + 10001 by have := HN.out; omega))
      clear hnI hlt HFk hbox HTk
      go_wp2_with fail
      refine (Hlim.out _).mono ?_
      rintro e w' ⟨rfl, rfl⟩
      go_wp2
      go_ret
      exact ⟨rfl, _, _, HTf.out, HFf.out⟩
end
end Go.Proofs.Ytikodccbecmjiaa
