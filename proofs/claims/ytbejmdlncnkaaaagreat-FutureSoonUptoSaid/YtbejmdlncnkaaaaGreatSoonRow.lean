/-
  FutureSoon, where what it reads is of bulk at most 1048576: Soon is Until, not, of what is always false: the given statement's second form. Condition: the form's own bound of the bulk.
-/
import Derived.Test.YtbejmdlncnkaaaaGreatRows
import Derived.Test.YtbejmdlncnkaaaaGreatF20
import Derived.Test.YtbejmdlncnkaaaaGreatFraB
import Derived.Test.YtbejmdlncnkaaaaGreatLaw
import Derived.Test.YtbejmdlncnkaaaaGreatPaF
import Derived.Test.YtbejmdlncnkaaaaGreatF23
import Derived.JoinedCond
namespace Go.Proofs.YtbejmdlncnkaaaaGreat.futureSoon
open Go.ChangeShapes Go.WideShapes Go.ChangeAt Go.RowKit Go.Joins

theorem own : ownKnob Tryz.prog.godebug = none := by kernel_rfl
theorem mulOk : MulOk := fun x y w hx hy => Tryz.bits_Mul64 x y hx hy w
theorem cells23 : Tryz.prog.cellsOf 23 = 3 := by kernel_rfl

set_option maxRecDepth 100000 in
theorem contract (H : Type) (enc : TypeId × Value → H) (W : World) (base : Nat) (args : Array Value) (ds gs : List (DataW H)) (before : List MemPlace)
    (hval : ∀ (j : Nat) t v, Tryz.f7.params[j]? = some t → args[j]? = some v → Value.okWide Tryz.prog W .any base t v)
    (hW : DataW.Whole enc Tryz.prog Tryz.f7.params.toList Rows.futureSoonSpec.vars false W args.toList ds gs before) (hk : Rows.uptoSmall H (ds ++ gs) = true) :
    Calls Tryz.prog 7 args W fun e W' => ∃ v, e = .returned v ∧ Rows.futureSoonSpec.post enc Tryz.prog Tryz.f7 false true false false W args v W' := by
  have hW' := hW
  obtain ⟨p, q, hA0, hV, rfl, hfz, hnd⟩ := hW
  have hA : DataW.TrodAll enc Tryz.prog W 0 (fun _ => true) true Tryz.f7.params.toList args.toList ds p := hA0
  rw [Tryz.params7] at hA hval
  obtain ⟨v0, v1, v2, d0, d1, d2, p0, p1, p2, rfl, rfl, rfl, h0, h1, h2⟩ := trodAll_three hA
  obtain ⟨rfl, rfl⟩ := trodVars_none hV
  clear hA0
  simp only [List.append_nil] at hk
  have hB := bk_all (of_decide_eq_true hk)
  obtain ⟨x00, x01, x02, y00, y01, y02, n0, rfl, hd0, hp0, e00, e01, e02⟩ := _root_.Go.Joins.open_agg3 Tryz.underlying23 (by kernel_rfl) cells23 (hval 0 23 v0 rfl rfl) h0
  obtain ⟨lo, ea, _, _⟩ := DataW.trod_int Tryz.underlying2 e00
  obtain ⟨hi, eb, _, _⟩ := DataW.trod_int Tryz.underlying2 e01
  obtain ⟨op, ec, _⟩ := DataW.trod_bool Tryz.underlying4 e02
  simp only [List.cons.injEq, and_true] at ea eb ec
  subst ea eb ec
  obtain ⟨fuel1, hf1⟩ := h1
  obtain ⟨a1, len1, cap1, rfl⟩ := okWide_slice Tryz.underlying24 (hval 1 24 v1 rfl rfl)
  obtain ⟨l1, hs1, hll1⟩ := open_strsU (x := (d1, p1)) hf1
  have c1 := hll1 (hB d1 (by simp))
  obtain ⟨fuel2, hf2⟩ := h2
  obtain ⟨a2, len2, cap2, rfl⟩ := okWide_slice Tryz.underlying55 (hval 2 55 v2 rfl rfl)
  obtain ⟨l2, hs2, hll2⟩ := open_stepsU14 (x := (d2, p2)) hf2
  have c2 := hll2 (hB d2 (by simp))
  refine (soon7 (ctxQ mulOk) cfQ_12 (i := ⟨lo, hi, op⟩) hs1 c1 hs2 c2.1 c2.2).mono fun e W' ⟨he, hg⟩ => ⟨_, he, ?_⟩
  exact law_post (tb := 4) (by kernel_rfl) (by rw [Tryz.params7]; intro t ht; simp at ht; rcases ht with rfl | rfl | rfl <;> exact ⟨by kernel_rfl, of_decide_eq_true (by kernel_rfl)⟩) rfl (by kernel_rfl) Tryz.underlying4 rfl hW' (hg.below (Nat.le_refl _) (by simp))

set_option maxRecDepth 100000 in
theorem lifted (os : Os) (started : os.Started) (H : Type) (enc : TypeId × Value → H) (F : Stop.Interp) :
    ReturnsInHanded {} Tryz.checked os 7 .any ((Rows.OpenSpec.upto Rows.futureSoonSpec).pre6 enc Tryz.prog Tryz.f7 Rows.futureSoonUptoRow.domain false) (((Rows.OpenSpec.upto Rows.futureSoonSpec).at F).post enc Tryz.prog Tryz.f7 false true false false) := by
  refine returnsInHanded_of_cond (C := Tryz.checked) (s := Rows.OpenSpec.upto Rows.futureSoonSpec) (k := Rows.uptoSmall) rfl own started (by kernel_rfl) Tryz.func7
    (OpenSpec.witness (enc := enc) (C := Tryz.checked) (s := Rows.OpenSpec.upto Rows.futureSoonSpec) (k := Rows.uptoSmall) rfl false ⟨#[], #[.agg #[.int .i64 0, .int .i64 0, .bool false], .slice none 0 0, .slice none 0 0], []⟩ 8 (by kernel_rfl) (by kernel_rfl) (by kernel_rfl)
      (x := ([.agg [.lit (.int .i64 0), .lit (.int .i64 0), .lit (.bool false)], .nil, .nil], [], [])) (by kernel_rfl) rfl (by kernel_rfl)) ?_
  intro W base args ds gs before hval hW _ hk _
  exact contract H enc W base args ds gs before hval hW hk

theorem named : Tryz.pinned.checked.prog.funcNamed Rows.futureSoonUptoRow.func = some 7 := by kernel_rfl
theorem closed : joinedFacts Tryz.pinned.checked.prog 7 Tryz.f7 (Rows.OpenSpec.upto Rows.futureSoonSpec).bare Rows.futureSoonUptoRow = true := by kernel_rfl
theorem inst : Tryz.f7.isInstance Tryz.pinned.checked.prog Rows.futureSoonUptoRow.origin Rows.futureSoonUptoRow.targs := of_decide_eq_true (by kernel_rfl)
theorem wrap : Tryz.f7.isWrapper Tryz.pinned.checked.prog Rows.futureSoonUptoRow.wrapper Rows.futureSoonUptoRow.mainSum := by unfold Func.isWrapper; first | (rw [if_pos (by decide +kernel)]; kernel_rfl) | (rw [if_neg (by decide +kernel)]; exact ⟨rfl, rfl⟩)
theorem over : Rows.futureSoonUptoRow.holds Tryz.pinned (Rows.OpenSpec.upto Rows.futureSoonSpec) :=
  OpenClaim.holds_of_cond 7 Tryz.f7 rfl rfl rfl rfl rfl rfl rfl ⟨rfl, rfl, rfl, rfl, rfl⟩ rfl rfl rfl rfl rfl named Tryz.func7 closed
    inst wrap
    (fun os started H enc _ F => lifted os started H enc F)
theorem proved : Rows.FutureSoonUptoSaid := over
#print axioms proved
end Go.Proofs.YtbejmdlncnkaaaaGreat.futureSoon
