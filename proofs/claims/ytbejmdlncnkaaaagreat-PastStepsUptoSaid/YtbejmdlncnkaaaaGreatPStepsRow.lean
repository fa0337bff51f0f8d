/-
  PastSteps, where what it reads is of bulk at most 1048576: Prev, Once, Since tell the right table at each point: the given statement's second form. Condition: the form's own bound of the bulk.
-/
import Derived.Test.YtbejmdlncnkaaaaGreatRows
import Derived.Test.YtbejmdlncnkaaaaGreatXQW
import Derived.Test.YtbejmdlncnkaaaaGreatFraB
import Derived.Test.YtbejmdlncnkaaaaGreatXBig10
import Derived.Test.YtbejmdlncnkaaaaGreatLaw
import Derived.Test.YtbejmdlncnkaaaaGreatPaF
import Derived.JoinedCond
set_option maxRecDepth 100000
set_option maxHeartbeats 16000000
set_option linter.unusedSimpArgs false
namespace Go.Proofs.YtbejmdlncnkaaaaGreat.pastSteps
open Go.ChangeShapes Go.WideShapes Go.ChangeAt Go.RowKit Go.Joins
theorem own : ownKnob Tryz.prog.godebug = none := by kernel_rfl
theorem mulOk : MulOk := fun x y w hx hy => Tryz.bits_Mul64 x y hx hy w
theorem cells23 : Tryz.prog.cellsOf 23 = 3 := by kernel_rfl
theorem contract (H : Type) (enc : TypeId × Value -> H) (W : World) (base : Nat) (args : Array Value) (ds gs : List (DataW H)) (before : List MemPlace)
  (hval : ∀ (j : Nat) t v, Tryz.f6.params[j]? = some t -> args[j]? = some v -> Value.okWide Tryz.prog W .any base t v)
  (hW : DataW.Whole enc Tryz.prog Tryz.f6.params.toList Rows.pastStepsSpec.vars false W args.toList ds gs before) (hk : Rows.uptoSmall H (ds ++ gs) = true) :
  Calls Tryz.prog 6 args W fun e W' => ∃ v, e = .returned v /\ Rows.pastStepsSpec.post enc Tryz.prog Tryz.f6 false true false false W args v W' := by
 have hW' := hW
 obtain ⟨p, q, hA0, hV, rfl, hfz, hnd⟩ := hW
 have hA : DataW.TrodAll enc Tryz.prog W 0 (fun _ => true) true Tryz.f6.params.toList args.toList ds p := hA0
 rw [Tryz.params6] at hA hval
 obtain ⟨v0, v1, d0, d1, p0, p1, rfl, rfl, rfl, h0, h1⟩ := trodAll_two hA
 obtain ⟨rfl, rfl⟩ := trodVars_none hV
 clear hA0
 simp only [List.append_nil] at hk
 have hB := bk_all (of_decide_eq_true hk)
 obtain ⟨m0, mv0, mw0, rfl, hm0, hn0, hb0⟩ := open_make47 (hval 0 47 v0 rfl rfl) h0
 have c0 := hb0 (hB d0 (by simp))
 obtain ⟨fuel1, hf1⟩ := h1
 obtain ⟨a1, len1, cap1, rfl⟩ := okWide_slice Tryz.underlying25 (hval 1 25 v1 rfl rfl)
 obtain ⟨l1, hs1, hll1⟩ := open_stepsU (x := (d1, p1)) hf1
 have c1 := hll1 (hB d1 (by simp))
 refine (steps6 (ctxQ mulOk) ⟨fun v w hv => rcheck91 v hv w, fun a b w ha hb => rcompare92 a b ha hb w, (ctxQ mulOk).ord⟩ (m := m0) hm0 hn0 c0.1 c0.2 hs1 c1.1 c1.2).mono fun e W' ⟨he, hg⟩ => ⟨_, he, ?_⟩
 exact law_post (tb := 4) (by kernel_rfl) (by rw [Tryz.params6]; intro t ht; simp at ht; rcases ht with rfl | rfl <;> exact ⟨by kernel_rfl, of_decide_eq_true (by kernel_rfl)⟩) rfl (by kernel_rfl) Tryz.underlying4 rfl hW' (hg.below (Nat.le_refl _) (by simp))
theorem lifted (os : Os) (started : os.Started) (H : Type) (enc : TypeId × Value -> H) (F : Stop.Interp) :
  ReturnsInHanded {} Tryz.checked os 6 .any ((Rows.OpenSpec.upto Rows.pastStepsSpec).pre6 enc Tryz.prog Tryz.f6 Rows.pastStepsUptoRow.domain false) (((Rows.OpenSpec.upto Rows.pastStepsSpec).at F).post enc Tryz.prog Tryz.f6 false true false false) := by
 refine returnsInHanded_of_cond (C := Tryz.checked) (s := Rows.OpenSpec.upto Rows.pastStepsSpec) (k := Rows.uptoSmall) rfl own started (by kernel_rfl) Tryz.func6
  (OpenSpec.witness (enc := enc) (C := Tryz.checked) (s := Rows.OpenSpec.upto Rows.pastStepsSpec) (k := Rows.uptoSmall) rfl false ⟨#[], #[.agg #[.int .i64 0, .int .i64 0, .int .i64 0, .bool false, .bool false, .slice none 0 0, .slice none 0 0], .slice none 0 0], []⟩ 8 (by kernel_rfl) (by kernel_rfl) (by kernel_rfl)
   (x := ([.agg [.lit (.int .i64 0), .agg [.lit (.int .i64 0), .lit (.int .i64 0), .lit (.bool false)], .lit (.bool false), .nil, .nil], .nil], [], [])) (by kernel_rfl) rfl (by kernel_rfl)) ?_
 intro W base args ds gs before hval hW _ hk _
 exact contract H enc W base args ds gs before hval hW hk
theorem named : Tryz.pinned.checked.prog.funcNamed Rows.pastStepsUptoRow.func = some 6 := by kernel_rfl
theorem closed : joinedFacts Tryz.pinned.checked.prog 6 Tryz.f6 (Rows.OpenSpec.upto Rows.pastStepsSpec).bare Rows.pastStepsUptoRow = true := by kernel_rfl
theorem inst : Tryz.f6.isInstance Tryz.pinned.checked.prog Rows.pastStepsUptoRow.origin Rows.pastStepsUptoRow.targs := of_decide_eq_true (by kernel_rfl)
theorem wrap : Tryz.f6.isWrapper Tryz.pinned.checked.prog Rows.pastStepsUptoRow.wrapper Rows.pastStepsUptoRow.mainSum := by unfold Func.isWrapper; first | (rw [if_pos (by decide +kernel)]; kernel_rfl) | (rw [if_neg (by decide +kernel)]; exact ⟨rfl, rfl⟩)
theorem over : Rows.pastStepsUptoRow.holds Tryz.pinned (Rows.OpenSpec.upto Rows.pastStepsSpec) :=
 OpenClaim.holds_of_cond 6 Tryz.f6 rfl rfl rfl rfl rfl rfl rfl ⟨rfl, rfl, rfl, rfl, rfl⟩ rfl rfl rfl rfl rfl named Tryz.func6 closed
  inst wrap
  (fun os started H enc _ F => lifted os started H enc F)
theorem proved : Rows.PastStepsUptoSaid := over
#print axioms proved
end Go.Proofs.YtbejmdlncnkaaaaGreat.pastSteps
