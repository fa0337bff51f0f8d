/-
  The operation of the reference, the closure of WindowCounts, and the small functions of the laws.
-/
import Derived.Test.YtikodccbecmjiaaWalkT5
namespace Go.Proofs.Ytikodccbecmjiaa
open Go.RowKit Go.Win

def opT (x y : T) : T := (IntKind.u64.wrap (y.1 * x.1), IntKind.u64.wrap (IntKind.u64.wrap (y.1 * x.2) + y.2))

theorem op8 (x y : T) (w : World) : Calls Try.prog 8 #[tv x, tv y] w fun e w' => e = .returned (tv (opT x y)) ∧ w.Fr w' [] := by
  go_enter Try.func8, Try.ntmps8
  go_wp2
  refine bodyPost_ret (v := tv (opT x y)) (by simp [results, Try.results8, go_sem, opT]) rfl ⟨rfl, ?_⟩
  exact ((World.Fr.refl _ _).alloc _).alloc _ |>.alloc _

theorem ok8 : OpOk 8 #[] opT (fun _ _ => True) [] (fun _ => True) := by
  refine ⟨fun args w => by kernel_rfl, fun n x y w _ _ _ _ => ?_, fun _ _ _ _ => trivial, fun _ _ _ _ _ _ _ => trivial, fun _ _ _ k hk => by cases hk⟩
  exact (op8 x y w).mono fun e w' ⟨h1, h2⟩ => ⟨h1, h2, trivial⟩

theorem limit20 (n : Int) (w : World) : Calls Try.prog 20 #[.int .i64 n] w fun e w' => e = .returned (.int .i64 (max 0 (min n 5000))) ∧ w = w' := by
  by_cases h1 : n < 0
  · have e : max 0 (min n 5000) = 0 := by omega
    have E := Lib.hid e; clear e
    go_enter Try.func20, Try.ntmps20
    go_wp2
    go_ret
    rw [E.out]; exact ⟨rfl, rfl⟩
  · by_cases h2 : 5000 < n
    · have e : max 0 (min n 5000) = 5000 := by omega
      have E := Lib.hid e; clear e
      have hd : decide (n < 0) = false := decide_eq_false h1
      have hd2 : decide (5000 < n) = true := decide_eq_true h2
      clear h1 h2
      go_enter Try.func20, Try.ntmps20
      go_wp2
      go_ret
      rw [E.out]; exact ⟨rfl, rfl⟩
    · have e : max 0 (min n 5000) = n := by omega
      have E := Lib.hid e; clear e
      have hd : decide (n < 0) = false := decide_eq_false h1
      have hd2 : decide (5000 < n) = false := decide_eq_false h2
      clear h1 h2
      go_enter Try.func20, Try.ntmps20
      go_wp2
      go_ret
      rw [E.out]; exact ⟨rfl, rfl⟩
theorem thing23 (k a b n : Int) (w : World) : Calls Try.prog 23 #[.agg #[.int .i64 k, .int .u64 a, .int .u64 b, .int .i64 n]] w fun e w' => e = .returned (tv (a, b)) ∧ w.Fr w' [] := by
  go_enter Try.func23, Try.ntmps23
  go_wp2
  refine bodyPost_ret (v := tv (a, b)) (by simp [results, Try.results23, go_sem]) rfl ⟨rfl, ?_⟩
  exact ((World.Fr.refl _ _).alloc _).alloc _
end Go.Proofs.Ytikodccbecmjiaa
