/-
  FutureSteps: Next, Soon, Until tell the right table as soon as a point is settled. Condition: the form's own bound of the bulk.
-/
import Derived.Test.YtbejmdlncnkaaaaGreatRows
import Derived.Test.YtbejmdlncnkaaaaGreatFR18
import Derived.Test.YtbejmdlncnkaaaaGreatFraB
import Derived.Test.YtbejmdlncnkaaaaGreatXBig10
import Derived.Test.YtbejmdlncnkaaaaGreatLaw
import Derived.Test.YtbejmdlncnkaaaaGreatPaF
import Derived.Test.YtbejmdlncnkaaaaGreatFuD
import Derived.JoinedCond
set_option maxRecDepth 100000
set_option maxHeartbeats 16000000
set_option linter.unusedSimpArgs false
namespace Go.Proofs.YtbejmdlncnkaaaaGreat.futureSteps
open Go.ChangeShapes Go.WideShapes Go.ChangeAt Go.RowKit Go.Joins YtbejmdlncnkaaaaGreat.Rows
theorem own : ownKnob Tryz.prog.godebug = .none := by kernel_rfl
theorem mulOk : MulOk := fun x y w hx hy => Tryz.bits_Mul64 x y hx hy w
theorem cells23 : Tryz.prog.cellsOf 23 = 3 := by kernel_rfl
theorem contract (H : Type) (enc : TypeId × Value -> H) (W : World) (base : Nat) (args : Array Value) (ds gs : List (DataW H)) (bf : List MemPlace)
  (hval : ∀ (j : Nat) t v, Tryz.f9.params[j]? = some t -> args[j]? = some v -> Value.okWide Tryz.prog W .any base t v)
  (hW : DataW.Whole enc Tryz.prog Tryz.f9.params.toList futureStepsSpec.vars false W args.toList ds gs bf) (hk : uptoSmall H (ds ++ gs) = true) :
  Calls Tryz.prog 9 args W fun e W' => ∃ v, e = .returned v /\ futureStepsSpec.post enc Tryz.prog Tryz.f9 false true false false W args v W' := by
 have hW' := hW
 obtain ⟨p, q, hA0, hV, rfl, hfz, hnd⟩ := hW
 have hA : DataW.TrodAll enc Tryz.prog W 0 (fun _ => true) true Tryz.f9.params.toList args.toList ds p := hA0
 rw [Tryz.params9] at hA hval
 obtain ⟨v0, v1, d0, d1, p0, p1, rfl, rfl, rfl, h0, h1⟩ := trodAll_two hA
 obtain ⟨rfl, rfl⟩ := trodVars_none hV
 clear hA0
 simp only [List.append_nil] at hk
 have hB := bk_all (of_decide_eq_true hk)
 obtain ⟨m0, mv0, mw0, rfl, hm0, hn0, hb0⟩ := open_make (hval 0 68 v0 rfl rfl) h0
 have c0 := hb0 (hB d0 (by simp))
 obtain ⟨f1, hf1⟩ := h1
 obtain ⟨a1, len1, cap1, rfl⟩ := okWide_slice Tryz.underlying55 (hval 1 55 v1 rfl rfl)
 obtain ⟨l1, hs1, hll1⟩ := open_stepsU14 (x := (d1, p1)) hf1
 have c1 := hll1 (hB d1 (by simp))
 refine (steps9 (ctxQ mulOk) ⟨fun v w hv => rcheck91 v hv w, fun a b w ha hb => rcompare92 a b ha hb w, (ctxQ mulOk).ord⟩ cfQ_12 (m := m0) hm0 hn0 c0.1 c0.2 hs1 c1.1 c1.2).mono fun e W' ⟨he, hg⟩ => ⟨_, he, ?_⟩
 exact law_post (tb := 4) (by kernel_rfl) (by rw [Tryz.params9]; intro t ht; simp at ht; rcases ht with rfl | rfl <;> exact ⟨by kernel_rfl, of_decide_eq_true (by kernel_rfl)⟩) rfl (by kernel_rfl) Tryz.underlying4 rfl hW' (hg.below (Nat.le_refl _) (by simp))
theorem lifted (os : Os) (started : os.Started) (H : Type) (enc : TypeId × Value -> H) (F : Stop.Interp) :
  ReturnsInHanded {} Tryz.checked os 9 .any ((Rows.OpenSpec.upto futureStepsSpec).pre6 enc Tryz.prog Tryz.f9 futureStepsUptoRow.domain false) (((Rows.OpenSpec.upto futureStepsSpec).at F).post enc Tryz.prog Tryz.f9 false true false false) := by
 refine returnsInHanded_of_cond (C := Tryz.checked) (s := Rows.OpenSpec.upto futureStepsSpec) (k := uptoSmall) rfl own started (by kernel_rfl) Tryz.func9
  (OpenSpec.witness (enc := enc) (C := Tryz.checked) (s := Rows.OpenSpec.upto futureStepsSpec) (k := uptoSmall) rfl false ⟨#[], #[.agg #[.int .i64 0, .int .i64 0, .int .i64 0, .bool false, .bool false, .slice none 0 0, .slice none 0 0], .slice none 0 0], []⟩ 8 (by kernel_rfl) (by kernel_rfl) (by kernel_rfl)
   (x := ([.agg [.lit (.int .i64 0), .agg [.lit (.int .i64 0), .lit (.int .i64 0), .lit (.bool false)], .lit (.bool false), .nil, .nil], .nil], [], [])) (by kernel_rfl) rfl (by kernel_rfl)) ?_
 intro W base args ds gs bf hval hW _ hk _
 exact contract H enc W base args ds gs bf hval hW hk
theorem named : Tryz.pinned.checked.prog.funcNamed futureStepsUptoRow.func = some 9 := by kernel_rfl
theorem closed : joinedFacts Tryz.pinned.checked.prog 9 Tryz.f9 (Rows.OpenSpec.upto futureStepsSpec).bare futureStepsUptoRow = true := by kernel_rfl
theorem inst : Tryz.f9.isInstance Tryz.pinned.checked.prog futureStepsUptoRow.origin futureStepsUptoRow.targs := of_decide_eq_true (by kernel_rfl)
theorem wrap : Tryz.f9.isWrapper Tryz.pinned.checked.prog futureStepsUptoRow.wrapper futureStepsUptoRow.mainSum := by unfold Func.isWrapper; first | (rw [if_pos (by decide +kernel)]; kernel_rfl) | (rw [if_neg (by decide +kernel)]; exact ⟨rfl, rfl⟩)
theorem over : futureStepsUptoRow.holds Tryz.pinned (Rows.OpenSpec.upto futureStepsSpec) :=
 OpenClaim.holds_of_cond 9 Tryz.f9 rfl rfl rfl rfl rfl rfl rfl ⟨rfl, rfl, rfl, rfl, rfl⟩ rfl rfl rfl rfl rfl named Tryz.func9 closed
  inst wrap
  (fun os started H enc _ F => lifted os started H enc F)
theorem proved : Rows.FutureStepsUptoSaid := over
#print axioms proved
end Go.Proofs.YtbejmdlncnkaaaaGreat.futureSteps
