/-
  The statements' arguments, opened: what is to be made; the order of two numbers.
-/
import Derived.Test.YtbejmdlncnkaaaaGreatFuD
import Derived.Test.YtbejmdlncnkaaaaGreatFuC
import Derived.Test.YtbejmdlncnkaaaaGreatFraB
namespace Go.Proofs.YtbejmdlncnkaaaaGreat
open Go.RowKit Go.ChangeShapes Go.WideShapes Go.ChangeAt Go.Joins

theorem cfQ_12 : cfQ (vI 1) (vI 2) < 0 := by
  rw [cfQ_eq (vI_okW 1 in1).2 (vI_okW 2 in2).2]
  decide
theorem array7 {α : Type} {cs : Array α} (h : cs.size = 7) : ∃ c0 c1 c2 c3 c4 c5 c6, cs = #[c0, c1, c2, c3, c4, c5, c6] := by
  obtain ⟨l⟩ := cs
  match l, h with
  | [c0, c1, c2, c3, c4, c5, c6], _ => exact ⟨c0, c1, c2, c3, c4, c5, c6, rfl⟩
section
variable {H : Type} {enc : TypeId × Value → H} {w : World}
theorem cellsOf68 : Tryz.prog.cellsOf 68 = 7 := by kernel_rfl
theorem cellsOf24' : Tryz.prog.cellsOf 24 = 1 := by kernel_rfl
theorem cellsOf23' : Tryz.prog.cellsOf 23 = 3 := by kernel_rfl
set_option maxRecDepth 100000 in
theorem open_make {b0 : Nat} {v : Value} {d : DataW H} {p : List MemPlace} (hv : Value.okWide Tryz.prog w .any b0 68 v) (h : DataW.Trod enc Tryz.prog w 0 (fun _ => true) true 68 v d p) :
    ∃ (m : MkD) (v1 v2 : Value), v = m.v v1 v2 ∧ RdStr w v1 m.left ∧ RdStr w v2 m.right ∧ (Bk d → m.left.length ≤ 1048576 ∧ m.right.length ≤ 1048576) := by
  obtain ⟨cs, rfl, hsz⟩ := okWide_struct Tryz.underlying68 hv
  obtain ⟨c0, c1, c2, c3, c4, c5, c6, rfl⟩ := array7 (hsz.trans cellsOf68)
  obtain ⟨fuel, hf⟩ := h
  obtain ⟨xs, n, _, hx, hl, hlen, hf⟩ := DataW.trod_struct Tryz.underlying68 hf
  match xs, hlen with
  | [y0, y1, y2, y3, y4], _ =>
    have h0 : tr enc w n 3 (([c0, c1, c2, c3, c4, c5, c6].drop 0).take (Tryz.prog.cellsOf 3)) = some y0 := hf 0 _ rfl
    simp only [cellsOf3, List.drop_zero, List.take_succ_cons, List.take_zero] at h0
    have h1 : tr enc w n 23 (([c0, c1, c2, c3, c4, c5, c6].drop 1).take (Tryz.prog.cellsOf 23)) = some y1 := hf 1 _ rfl
    simp only [cellsOf23', List.drop_zero, List.drop_succ_cons, List.take_succ_cons, List.take_zero] at h1
    have h2 : tr enc w n 4 (([c0, c1, c2, c3, c4, c5, c6].drop 4).take (Tryz.prog.cellsOf 4)) = some y2 := hf 2 _ rfl
    simp only [cellsOf4, List.drop_zero, List.drop_succ_cons, List.take_succ_cons, List.take_zero] at h2
    have h3 : tr enc w n 24 (([c0, c1, c2, c3, c4, c5, c6].drop 5).take (Tryz.prog.cellsOf 24)) = some y3 := hf 3 _ rfl
    simp only [cellsOf24', List.drop_zero, List.drop_succ_cons, List.take_succ_cons, List.take_zero] at h3
    have h4 : tr enc w n 24 (([c0, c1, c2, c3, c4, c5, c6].drop 6).take (Tryz.prog.cellsOf 24)) = some y4 := hf 4 _ rfl
    simp only [cellsOf24', List.drop_zero, List.drop_succ_cons, List.take_succ_cons, List.take_zero] at h4
    obtain ⟨a, e0, _, w0⟩ := DataW.trod_int Tryz.underlying3 h0
    obtain ⟨z0, z1, z2, n1, hz, _, k0, k1, k2⟩ := Go.Deep.trod_struct3 Tryz.underlying23 h1
    simp only [cellsOf2, cellsOf4, List.drop_zero, List.drop_succ_cons, List.take_succ_cons, List.take_zero] at k0 k1 k2
    obtain ⟨lo, ea, _, _⟩ := DataW.trod_int Tryz.underlying2 k0
    obtain ⟨hi, eb, _, _⟩ := DataW.trod_int Tryz.underlying2 k1
    obtain ⟨op, ec, _⟩ := DataW.trod_bool Tryz.underlying4 k2
    obtain ⟨nt, ed, _⟩ := DataW.trod_bool Tryz.underlying4 h2
    obtain ⟨l, hl1, hb1⟩ := open_strsU h3
    obtain ⟨r, hr1, hb2⟩ := open_strsU h4
    simp only [List.cons.injEq, and_true] at e0 ea eb ec ed
    subst e0 ea eb ec ed
    have hd : d = .agg [y0.1, y1.1, y2.1, y3.1, y4.1] := by have := congrArg Prod.fst hx; simpa using this
    refine ⟨⟨a, ⟨lo, hi, op⟩, nt, l, r⟩, c5, c6, rfl, hl1, hr1, fun hB => ?_⟩
    rw [hd] at hB
    have hb := bk_agg hB
    exact ⟨hb1 (hb _ (by simp)), hb2 (hb _ (by simp))⟩
end
end Go.Proofs.YtbejmdlncnkaaaaGreat
