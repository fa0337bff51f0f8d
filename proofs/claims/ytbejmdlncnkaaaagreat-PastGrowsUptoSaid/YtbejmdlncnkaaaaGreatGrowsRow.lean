/-
  PastGrows, where what it reads is of bulk at most 1048576: of an Open interval from 0 on Once loses no row, and Since gains none but those of its right part: the given statement's second form. Condition: the form's own bound of the bulk.
-/
import Derived.Test.YtbejmdlncnkaaaaGreatRows
import Derived.Test.YtbejmdlncnkaaaaGreatP29
import Derived.Test.YtbejmdlncnkaaaaGreatFraB
import Derived.Test.YtbejmdlncnkaaaaGreatRv2
import Derived.Test.YtbejmdlncnkaaaaGreatLaw
import Derived.Test.YtbejmdlncnkaaaaGreatPaF
import Derived.JoinedCond
namespace Go.Proofs.YtbejmdlncnkaaaaGreat.pastGrows
open Go.ChangeShapes Go.WideShapes Go.ChangeAt Go.RowKit Go.Joins

theorem own : ownKnob Tryz.prog.godebug = none := by kernel_rfl
theorem mulOk : MulOk := fun x y w hx hy => Tryz.bits_Mul64 x y hx hy w
theorem cells23 : Tryz.prog.cellsOf 23 = 3 := by kernel_rfl

set_option maxRecDepth 100000 in
theorem contract (H : Type) (enc : TypeId × Value → H) (W : World) (base : Nat) (args : Array Value) (ds gs : List (DataW H)) (before : List MemPlace)
    (hval : ∀ (j : Nat) t v, Tryz.f5.params[j]? = some t → args[j]? = some v → Value.okWide Tryz.prog W .any base t v)
    (hW : DataW.Whole enc Tryz.prog Tryz.f5.params.toList Rows.pastGrowsSpec.vars false W args.toList ds gs before) (hk : Rows.uptoSmall H (ds ++ gs) = true) :
    Calls Tryz.prog 5 args W fun e W' => ∃ v, e = .returned v ∧ Rows.pastGrowsSpec.post enc Tryz.prog Tryz.f5 false true false false W args v W' := by
  have hW' := hW
  obtain ⟨p, q, hA0, hV, rfl, hfz, hnd⟩ := hW
  have hA : DataW.TrodAll enc Tryz.prog W 0 (fun _ => true) true Tryz.f5.params.toList args.toList ds p := hA0
  rw [Tryz.params5] at hA hval
  obtain ⟨v0, vs0, d0, ds0, p0, q0, hargs, rfl, rfl, h0, r0⟩ := trodAll_cons hA
  obtain ⟨v1, vs1, d1, ds1, p1, q1, hargs1, rfl, rfl, h1, r1⟩ := trodAll_cons r0
  obtain ⟨v2, vs2, d2, ds2, p2, q2, hargs2, rfl, rfl, h2, r2⟩ := trodAll_cons r1
  obtain ⟨v3, vs3, d3, ds3, p3, q3, hargs3, rfl, rfl, h3, r3⟩ := trodAll_cons r2
  obtain ⟨hnil, rfl, rfl⟩ := trodAll_nil r3
  obtain rfl : args = #[v0, v1, v2, v3] := by cases args; simp_all
  obtain ⟨rfl, rfl⟩ := trodVars_none hV
  clear hA0
  simp only [List.append_nil] at hk
  have hB := bk_all (of_decide_eq_true hk)
  obtain ⟨b0, rfl, _⟩ := open_bool Tryz.underlying4 (hval 0 4 v0 rfl rfl) h0
  obtain ⟨fuel1, hf1⟩ := h1
  obtain ⟨a1, len1, cap1, rfl⟩ := okWide_slice Tryz.underlying24 (hval 1 24 v1 rfl rfl)
  obtain ⟨l1, hs1, hll1⟩ := open_strsU (x := (d1, p1)) hf1
  have c1 := hll1 (hB d1 (by simp))
  obtain ⟨fuel2, hf2⟩ := h2
  obtain ⟨a2, len2, cap2, rfl⟩ := okWide_slice Tryz.underlying24 (hval 2 24 v2 rfl rfl)
  obtain ⟨l2, hs2, hll2⟩ := open_strsU (x := (d2, p2)) hf2
  have c2 := hll2 (hB d2 (by simp))
  obtain ⟨fuel3, hf3⟩ := h3
  obtain ⟨a3, len3, cap3, rfl⟩ := okWide_slice Tryz.underlying25 (hval 3 25 v3 rfl rfl)
  obtain ⟨l3, hs3, hll3⟩ := open_stepsU (x := (d3, p3)) hf3
  have c3 := hll3 (hB d3 (by simp))
  refine (grows5 (ctxQ mulOk) (fun v w hv => rcheck91 v hv w) (fun a b w ha hb => rcompare92 a b ha hb w) hs1 hs2 c1 c2 hs3 c3.1 c3.2).mono fun e W' ⟨he, hg⟩ => ⟨_, he, ?_⟩
  exact law_post (tb := 4) (by kernel_rfl) (by rw [Tryz.params5]; intro t ht; simp at ht; rcases ht with rfl | rfl | rfl <;> exact ⟨by kernel_rfl, of_decide_eq_true (by kernel_rfl)⟩) rfl (by kernel_rfl) Tryz.underlying4 rfl hW' (hg.below (Nat.le_refl _) (by simp))

set_option maxRecDepth 100000 in
theorem lifted (os : Os) (started : os.Started) (H : Type) (enc : TypeId × Value → H) (F : Stop.Interp) :
    ReturnsInHanded {} Tryz.checked os 5 .any ((Rows.OpenSpec.upto Rows.pastGrowsSpec).pre6 enc Tryz.prog Tryz.f5 Rows.pastGrowsUptoRow.domain false) (((Rows.OpenSpec.upto Rows.pastGrowsSpec).at F).post enc Tryz.prog Tryz.f5 false true false false) := by
  refine returnsInHanded_of_cond (C := Tryz.checked) (s := Rows.OpenSpec.upto Rows.pastGrowsSpec) (k := Rows.uptoSmall) rfl own started (by kernel_rfl) Tryz.func5
    (OpenSpec.witness (enc := enc) (C := Tryz.checked) (s := Rows.OpenSpec.upto Rows.pastGrowsSpec) (k := Rows.uptoSmall) rfl false ⟨#[], #[.bool false, .slice none 0 0, .slice none 0 0, .slice none 0 0], []⟩ 8 (by kernel_rfl) (by kernel_rfl) (by kernel_rfl)
      (x := ([.lit (.bool false), .nil, .nil, .nil], [], [])) (by kernel_rfl) rfl (by kernel_rfl)) ?_
  intro W base args ds gs before hval hW _ hk _
  exact contract H enc W base args ds gs before hval hW hk

theorem named : Tryz.pinned.checked.prog.funcNamed Rows.pastGrowsUptoRow.func = some 5 := by kernel_rfl
theorem closed : joinedFacts Tryz.pinned.checked.prog 5 Tryz.f5 (Rows.OpenSpec.upto Rows.pastGrowsSpec).bare Rows.pastGrowsUptoRow = true := by kernel_rfl
theorem inst : Tryz.f5.isInstance Tryz.pinned.checked.prog Rows.pastGrowsUptoRow.origin Rows.pastGrowsUptoRow.targs := of_decide_eq_true (by kernel_rfl)
theorem wrap : Tryz.f5.isWrapper Tryz.pinned.checked.prog Rows.pastGrowsUptoRow.wrapper Rows.pastGrowsUptoRow.mainSum := by unfold Func.isWrapper; first | (rw [if_pos (by decide +kernel)]; kernel_rfl) | (rw [if_neg (by decide +kernel)]; exact ⟨rfl, rfl⟩)
theorem over : Rows.pastGrowsUptoRow.holds Tryz.pinned (Rows.OpenSpec.upto Rows.pastGrowsSpec) :=
  OpenClaim.holds_of_cond 5 Tryz.f5 rfl rfl rfl rfl rfl rfl rfl ⟨rfl, rfl, rfl, rfl, rfl⟩ rfl rfl rfl rfl rfl named Tryz.func5 closed
    inst wrap
    (fun os started H enc _ F => lifted os started H enc F)
theorem proved : Rows.PastGrowsUptoSaid := over
#print axioms proved
end Go.Proofs.YtbejmdlncnkaaaaGreat.pastGrows
