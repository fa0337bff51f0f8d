/-
  The walks of rat.gcd, rat.size, value.fraction, value.Check (of what is no fraction), table.rises, table.checkRow.
-/
import Derived.Test.YtikodapgceokhaaGreatMem
namespace Go.Proofs.YtikodapgceokhaaGreat
open Go.RowKit

/-- may a fraction be? -/
def ratOk (n d : Int) : Prop := 0 < d ∧ Nat.gcd n.natAbs d.natAbs = 1
open Classical in
/-- what Check tells -/
noncomputable def vcheck (v : V) : Int :=
  if v.k = 1 then (if v.d = 0 ∧ v.s.size = 0 then 0 else 20)
  else if v.k = 2 then (if v.s.size = 0 ∧ ratOk v.n v.d then 0 else 20)
  else if v.k = 3 then (if v.n = 0 ∧ v.d = 0 then (if 64 < v.s.size then 2 else 0) else 20)
  else 20

theorem toList_size (s : BA) : s.toList.length = s.size := by rw [ByteArray.toList_eq, Array.length_toList]; rfl
theorem isEmpty_size (s : BA) : s.toList.isEmpty = decide (s.size = 0) := by
  rw [← toList_size]
  cases s.toList <;> simp

set_option maxHeartbeats 1000000 in
theorem check88 (v : V) (hk : v.k ≠ 2) (w : World) : Calls Tryz.prog 88 #[vv v] w fun e w' => e = .returned (.int .i64 (vcheck v)) ∧ w.Gr w' := by
  obtain ⟨k, n, d, s⟩ := v
  simp only at hk
  by_cases h1 : k = 1
  · subst h1
    clear hk
    go_enter Tryz.func88, Tryz.ntmps88
    go_wp2
    all_goals
      go_ret
      refine ⟨congrArg (fun x => Ending.returned (Value.int .i64 x)) ?_, (World.Gr.refl w).alloc _⟩
      simp_all [vcheck, isEmpty_size]
      done
  · have h1b : (k == 1) = false := beq_eq_false_iff_ne.2 h1
    have h2b : (k == 2) = false := beq_eq_false_iff_ne.2 hk
    by_cases h3 : k = 3
    · subst h3
      clear h1 h1b h2b hk
      go_enter Tryz.func88, Tryz.ntmps88
      go_wp2
      all_goals
        go_ret
        refine ⟨congrArg (fun x => Ending.returned (Value.int .i64 x)) ?_, (World.Gr.refl w).alloc _⟩
        simp_all [vcheck]
        try omega
        done
    · have h3b : (k == 3) = false := beq_eq_false_iff_ne.2 h3
      have hv : vcheck ⟨k, n, d, s⟩ = 20 := by simp [vcheck, h1, hk, h3]
      have Hv := Lib.hid hv; clear hv h1 hk h3
      go_enter Tryz.func88, Tryz.ntmps88
      go_wp2
      go_ret
      rw [Hv.out]
      exact ⟨rfl, (World.Gr.refl w).alloc _⟩
end Go.Proofs.YtikodapgceokhaaGreat
