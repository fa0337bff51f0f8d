/-
  PastPrev: whatever the interval, the variables and the points: Prev tells the table of the point ahead where that is as far back as the interval has it, else nothing: the given statement, in full. No condition.
-/
import Derived.Test.YtbejmdlncnkaaaaGreatRows
import Derived.Test.YtbejmdlncnkaaaaGreatP24
import Derived.Test.YtbejmdlncnkaaaaGreatRv2
import Derived.Test.YtbejmdlncnkaaaaGreatFraB
import Derived.Test.YtbejmdlncnkaaaaGreatLaw
namespace Go.Proofs.YtbejmdlncnkaaaaGreat.pastPrev
open Go.ChangeShapes Go.WideShapes Go.ChangeAt Go.RowKit Go.Joins

theorem own : ownKnob Tryz.prog.godebug = none := by kernel_rfl
theorem mulOk : MulOk := fun x y w hx hy => Tryz.bits_Mul64 x y hx hy w
theorem cellsOf23i : Tryz.prog.cellsOf 23 = 3 := by kernel_rfl

set_option maxRecDepth 100000 in
theorem lifted (os : Os) (started : os.Started) (H : Type) (enc : TypeId × Value → H) :
    ReturnsInHanded {} Tryz.checked os 3 .any (Rows.pastPrevSpec.pre6 enc Tryz.prog Tryz.f3 Rows.pastPrevRow.domain false) (Rows.pastPrevSpec.post enc Tryz.prog Tryz.f3 false true false false) := by
  refine returnsInHanded_of_change_sized (C := Tryz.checked) own started (by kernel_rfl) Tryz.func3
    (ChangeSpec.witness6 (enc := enc) (C := Tryz.checked) false ⟨#[], #[.agg #[.int .i64 0, .int .i64 0, .bool false], .slice none 0 0, .slice none 0 0], []⟩ 8 (by kernel_rfl) (by kernel_rfl) (by kernel_rfl) (by kernel_rfl)) ?_
  intro W base args ds gs before hval0 hW _ hsz _
  have hval : ∀ (j : Nat) t v, Tryz.f3.params[j]? = some t → args[j]? = some v → Value.okWide Tryz.prog W .any base t v := hval0
  have hW' := hW
  obtain ⟨p, q, hA0, hV, rfl, hfz, hnd⟩ := hW
  have hA : DataW.TrodAll enc Tryz.prog W 0 (fun _ => true) true Tryz.f3.params.toList args.toList ds p := hA0
  rw [Tryz.params3] at hA hval
  obtain ⟨v0, v1, v2, d0, d1, d2, p0, p1, p2, rfl, rfl, rfl, h0, h1, h2⟩ := trodAll_three hA
  obtain ⟨rfl, rfl⟩ := trodVars_none hV
  have hlite : ∀ (j : Nat) (t : TypeId) (d : DataW H), [23, 24, 25][j]? = some t → [d0, d1, d2][j]? = some d → Lite t d := fun j t d ht hd n hn => by
    have := List.all_eq_true.1 hsz n (DataW.weights_mem_each (j := j) (by rw [Tryz.params3]; exact ht) (by rw [List.append_nil]; exact hd) n hn)
    unfold reachBytes at this
    simpa using this
  obtain ⟨x0, x1, x2, y0, y1, y2, n, rfl, hd0, hp0, e0, e1, e2⟩ := _root_.Go.Joins.open_agg3 Tryz.underlying23 (by kernel_rfl) cellsOf23i (hval 0 23 v0 rfl rfl) h0
  obtain ⟨lo, ea, _, _⟩ := DataW.trod_int Tryz.underlying2 e0
  obtain ⟨hi, eb, _, _⟩ := DataW.trod_int Tryz.underlying2 e1
  obtain ⟨op, ec, _⟩ := DataW.trod_bool Tryz.underlying4 e2
  simp only [List.cons.injEq, and_true] at ea eb ec
  subst ea eb ec
  obtain ⟨fuel1, hf1⟩ := h1
  obtain ⟨a1, len1, cap1, rfl⟩ := okWide_slice Tryz.underlying24 (hval 1 24 v1 rfl rfl)
  obtain ⟨l1, hs1, hll1⟩ := open_strs (x := (d1, p1)) hf1
  have c1 := hll1 (hlite 1 24 d1 rfl rfl)
  obtain ⟨fuel2, hf2⟩ := h2
  obtain ⟨a2, len2, cap2, rfl⟩ := okWide_slice Tryz.underlying25 (hval 2 25 v2 rfl rfl)
  obtain ⟨l2, hs2, hll2⟩ := open_stepsL (x := (d2, p2)) hf2
  have c2 := hll2 (hlite 2 25 d2 rfl rfl)
  refine (prev3 (ctxQ mulOk) (fun v w hv => rcheck91 v hv w) (fun a b w ha hb => rcompare92 a b ha hb w) (i := ⟨lo, hi, op⟩) hs1 c1 hs2 c2.1 c2.2).mono fun e W' ⟨he, hg⟩ => ⟨_, he, ?_⟩
  exact law_post (tb := 4) (by kernel_rfl) (by rw [Tryz.params3]; intro t ht; simp at ht; rcases ht with rfl | rfl | rfl <;> exact ⟨by kernel_rfl, of_decide_eq_true (by kernel_rfl)⟩) rfl (by kernel_rfl) Tryz.underlying4 rfl hW' (hg.below (Nat.le_refl _) (by simp))

theorem named : Tryz.pinned.checked.prog.funcNamed Rows.pastPrevRow.func = some 3 := by kernel_rfl
theorem closed : joinedFacts Tryz.pinned.checked.prog 3 Tryz.f3 (OpenSpec.ofChange Rows.pastPrevSpec).bare Rows.pastPrevRow = true := by kernel_rfl
theorem inst : Tryz.f3.isInstance Tryz.pinned.checked.prog Rows.pastPrevRow.origin Rows.pastPrevRow.targs := of_decide_eq_true (by kernel_rfl)
theorem wrap : Tryz.f3.isWrapper Tryz.pinned.checked.prog Rows.pastPrevRow.wrapper Rows.pastPrevRow.mainSum := by unfold Func.isWrapper; first | (rw [if_pos (by decide +kernel)]; kernel_rfl) | (rw [if_neg (by decide +kernel)]; exact ⟨rfl, rfl⟩)
theorem proved : Rows.PastPrevSaid :=
  OpenClaim.holds_of_wide 3 Tryz.f3 rfl rfl rfl rfl rfl rfl rfl ⟨rfl, rfl, rfl, rfl, rfl⟩ rfl rfl rfl rfl rfl named Tryz.func3 closed
    inst wrap
    (fun os started H enc _ => lifted os started H enc)
#print axioms proved
end Go.Proofs.YtbejmdlncnkaaaaGreat.pastPrev
