/-
  The walk of step, whole.
-/
import Derived.Test.YtikodccbecmjiaaStep3
namespace Go.Proofs.Ytikodccbecmjiaa
open Go.RowKit Go.Win

section
variable {w0 : World} {N0 : List Nat} {p r : Nat} {no : T} {Q : List (Nat × Obj)} {wi : World} {s : WSt T} {l : List T} {B : Nat}

set_option maxHeartbeats 2000000 in
theorem step_few (h : TwoAt w0 N0 p r no Q wi s l) (hF : Fits B no s l) (hB : B + 10001 ≤ room) (a b n : Int) :
    Calls Try.prog 26 #[.pointer (some ⟨p,0,none⟩), .pointer (some ⟨r,0,none⟩), opv 5 a b n] wi (StepPost w0 N0 p r no Q (B + 10001)) := by
  have hT := h.alloc (.cells #[.int .i64 5, .int .u64 a, .int .u64 b, .int .i64 n] 38)
  obtain ⟨N, hN⟩ : ∃ N : Nat, max 0 (min n 5000) = (N : Int) := ⟨(max 0 (min n 5000)).toNat, by omega⟩
  have hN5 : N ≤ 5000 := by omega
  have hlim : ∀ w, Calls Try.prog 20 #[.int .i64 n] w fun e w' => e = .returned (.int .i64 N) ∧ w = w' := fun w => by have := limit20 n w; rw [hN] at this; exact this
  have Hlim := Lib.hid hlim; have HF := Lib.hid hF; have HB := Lib.hid hB; have HN := Lib.hid hN5; clear h hF hB hN hlim hN5
  have HT := Lib.hid hT; clear hT
  go_enter Try.func26, Try.ntmps26
  go_wp2
  generalize hW : World.alloc wi _ = W at *
  clear hW
  go_loopw [13] (fun i wr => ∃ (k : Nat) (s' : WSt T) (l' : List T), k ≤ N ∧ i = .int .i64 k ∧ Hid (TwoAt w0 N0 p r no ((wi.heap.size, .cells #[.int .i64 5, .int .u64 a, .int .u64 b, .int .i64 n] 38) :: Q) wr s' l') ∧ Hid (Fits B no s' l')) (fun i _ => (N - intOf i).toNat)
  case atStart => exact ⟨0, s, l, Nat.zero_le _, rfl, HT, HF⟩
  case round =>
    obtain ⟨k, s', l', hk, rfl, HTk, HFk⟩ := hrel
    have hbox := HTk.out.box (List.mem_cons_self ..)
    obtain ⟨c0, c1, c2, c3, cf⟩ := four hbox
    by_cases hlt : k < N
    · have hltI : (k : Int) < (N : Int) := by omega
      have hw1 : IntKind.i64.wrap ((k : Int) + 1) = (k : Int) + 1 := IntWalk.i64_in _ (by have := HN.out; omega)
      have Hbox := Lib.hid hbox; clear hbox
      have hfp := fPop HTk.out HFk.out (by have := HB.out; omega)
      have hfr := fun Q' w3 (hT3 : TwoAt w0 N0 p r no Q' w3 (s'.turned opT).cut l') => fRPop hT3 HFk.out
      have hnext := HFk.out.pop
      have Hfp := Lib.hid hfp; have Hfr := Lib.hid hfr; have Hnext := Lib.hid hnext; clear hfp hfr hnext
      generalize rpopT l' = v at *
      obtain ⟨⟨v1, v2⟩, v3⟩ := v
      go_wp2_with fail
      refine (Hlim.out _).mono ?_
      rintro e w' ⟨rfl, rfl⟩
      go_wp2_with fail
      refine Hfp.out.mono ?_
      rintro e w2 ⟨rfl, hT2⟩
      have hA := hT2.alloc (.cells #[.int .u64 v1, .int .u64 v2] 26)
      have hr := Hfr.out _ _ hA
      have Hr := Lib.hid hr; clear hr hA hT2
      go_wp2_with fail
      refine Hr.out.mono ?_
      rintro e w3 ⟨rfl, hT3⟩
      have hb := hT3.box (List.mem_cons_self ..)
      have hlt3 := lt_of_heap hb
      have hlt4 : w2.heap.size < w3.heap.size + 1 := by omega
      obtain ⟨d0, d1, df⟩ := two hb
      have hA := hT3.drop.still ((World.Fr.refl w3 []).alloc (.cells #[.int .u64 v1, .int .u64 v2] 26))
      have HA := Lib.hid hA; clear hA hT3 hb Hr c0 c1 c2 c3 cf
      go_wp2
      go_roundw
      case rel => exact ⟨k + 1, _, _, by omega, by go_num, HA, Hnext⟩
      case measure => simp [intOf]; omega
    · have hnI : ¬ ((k : Int) < (N : Int)) := by omega
      have hd : decide ((k : Int) < (N : Int)) = false := decide_eq_false hnI
      have hd2 : decide (k < N) = false := decide_eq_false hlt
      have HTf := Lib.hid HTk.out.drop
      have HFf := Lib.hid (HFk.out.mono (show B ≤ B + 10001 by omega))
      clear hnI hlt HFk hbox HTk
      go_wp2_with fail
      refine (Hlim.out _).mono ?_
      rintro e w' ⟨rfl, rfl⟩
      go_wp2
      go_ret
      exact ⟨rfl, _, _, HTf.out, HFf.out⟩

theorem step26 (h : TwoAt w0 N0 p r no Q wi s l) (hF : Fits B no s l) (hB : B + 10001 ≤ room) (k a b n : Int) :
    Calls Try.prog 26 #[.pointer (some ⟨p,0,none⟩), .pointer (some ⟨r,0,none⟩), opv k a b n] wi (StepPost w0 N0 p r no Q (B + 10001)) := by
  by_cases h1 : k = 1
  · subst h1; exact step_push h hF hB a b n
  by_cases h2 : k = 2
  · subst h2; exact step_pop h hF hB a b n
  by_cases h3 : k = 3
  · subst h3; exact step_all h hF hB a b n
  by_cases h4 : k = 4
  · subst h4; exact step_many h hF hB a b n
  by_cases h5 : k = 5
  · subst h5; exact step_few h hF hB a b n
  exact step_none h hF k a b n (beq_eq_false_iff_ne.2 h1) (beq_eq_false_iff_ne.2 h2) (beq_eq_false_iff_ne.2 h3) (beq_eq_false_iff_ne.2 h4) (beq_eq_false_iff_ne.2 h5)
end
end Go.Proofs.Ytikodccbecmjiaa
