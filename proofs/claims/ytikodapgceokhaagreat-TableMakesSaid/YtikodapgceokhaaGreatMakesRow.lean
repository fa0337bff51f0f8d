/-
  TableMakes: whatever variables and rows: they make the document's table, or its error: the given statement, in full. No condition.
-/
import Derived.Test.YtikodapgceokhaaGreatRows
import Derived.Test.YtikodapgceokhaaGreatMakes
import Derived.Test.YtikodapgceokhaaGreatRv2
import Derived.Test.YtikodapgceokhaaGreatLive
import Derived.Test.YtikodapgceokhaaGreatOpen
import Derived.Test.YtikodapgceokhaaGreatLaw
namespace Go.Proofs.YtikodapgceokhaaGreat.tableMakes
open Go.ChangeShapes Go.WideShapes Go.ChangeAt Go.RowKit Go.Joins

theorem own : ownKnob Tryz.prog.godebug = none := by kernel_rfl
theorem mulOk : MulOk := fun x y w hx hy => Tryz.bits_Mul64 x y hx hy w

set_option maxRecDepth 100000 in
theorem lifted (os : Os) (started : os.Started) (H : Type) (enc : TypeId × Value → H) :
    ReturnsInHanded {} Tryz.checked os 8 .any (Rows.tableMakesSpec.pre6 enc Tryz.prog Tryz.f8 Rows.tableMakesRow.domain false) (Rows.tableMakesSpec.post enc Tryz.prog Tryz.f8 false true false false) := by
  refine returnsInHanded_of_change_sized (C := Tryz.checked) own started (by kernel_rfl) Tryz.func8
    (ChangeSpec.witness6 (enc := enc) (C := Tryz.checked) false ⟨#[], #[.slice none 0 0, .slice none 0 0], []⟩ 8 (by kernel_rfl) (by kernel_rfl) (by kernel_rfl) (by kernel_rfl)) ?_
  intro W base args ds gs before hval0 hW _ hsz _
  have hval : ∀ (j : Nat) t v, Tryz.f8.params[j]? = some t → args[j]? = some v → Value.okWide Tryz.prog W .any base t v := hval0
  have hW' := hW
  obtain ⟨p, q, hA0, hV, rfl, hfz, hnd⟩ := hW
  have hA : DataW.TrodAll enc Tryz.prog W 0 (fun _ => true) true Tryz.f8.params.toList args.toList ds p := hA0
  rw [Tryz.params8] at hA hval
  obtain ⟨v0, v1, d0, d1, p0, p1, rfl, rfl, rfl, h0, h1⟩ := trodAll_two hA
  obtain ⟨rfl, rfl⟩ := trodVars_none hV
  have hlite : ∀ (j : Nat) (t : TypeId) (d : DataW H), [22, 23][j]? = some t → [d0, d1][j]? = some d → Lite t d := fun j t d ht hd n hn => by
    have := List.all_eq_true.1 hsz n (DataW.weights_mem_each (j := j) (by rw [Tryz.params8]; exact ht) (by rw [List.append_nil]; exact hd) n hn)
    unfold reachBytes at this
    simpa using this
  obtain ⟨fuel0, hf0⟩ := h0
  obtain ⟨fuel1, hf1⟩ := h1
  obtain ⟨a0, len0, cap0, rfl⟩ := okWide_slice Tryz.underlying22 (hval 0 22 v0 rfl rfl)
  obtain ⟨a1, len1, cap1, rfl⟩ := okWide_slice Tryz.underlying23 (hval 1 23 v1 rfl rfl)
  obtain ⟨l, hl, hll⟩ := open_strs (x := (d0, p0)) hf0
  obtain ⟨rs, hs, hr, hrl⟩ := open_rows (x := (d1, p1)) hf1
  have b0 := hll (hlite 0 22 d0 rfl rfl)
  have b1 := hrl (hlite 1 23 d1 rfl rfl)
  refine (makes8 live18 (ctxQ mulOk) (fun v w hv => rcheck91 v hv w) (fun a b w ha hb => rcompare92 a b ha hb w) hl hr ⟨by show l.length ≤ _; omega, by show rs.length ≤ _; omega, fun r hr' => by have := b1.2 r hr'; omega⟩).mono fun e W' ⟨he, hg⟩ => ⟨_, he, ?_⟩
  exact law_post (tb := 4) (by kernel_rfl) (by rw [Tryz.params8]; intro t ht; simp at ht; rcases ht with rfl | rfl <;> exact ⟨by kernel_rfl, of_decide_eq_true (by kernel_rfl)⟩) rfl (by kernel_rfl) Tryz.underlying4 rfl hW' (hg.below (Nat.le_refl _) (by simp))

theorem proved : Rows.TableMakesSaid :=
  OpenClaim.holds_of_wide 8 Tryz.f8 rfl rfl rfl rfl rfl rfl rfl ⟨rfl, rfl, rfl, rfl, rfl⟩ rfl rfl rfl rfl rfl (by kernel_rfl) Tryz.func8 (by kernel_rfl)
    (of_decide_eq_true (by kernel_rfl)) (by unfold Func.isWrapper; first | (rw [if_pos (by decide +kernel)]; kernel_rfl) | (rw [if_neg (by decide +kernel)]; exact ⟨rfl, rfl⟩))
    (fun os started H enc _ => lifted os started H enc)
#print axioms proved
end Go.Proofs.YtikodapgceokhaaGreat.tableMakes
