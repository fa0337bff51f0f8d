/-
  The laws' arguments, opened: a script of steps, a step.
-/
import Derived.Test.YtikodccbecmjiaaPlays
import Derived.ProofKit
import Derived.OpenShut
import Derived.Deep.Slices
import Derived.Lib.SmallJoins
import Derived.SizedLaws
namespace Go.Proofs.Ytikodccbecmjiaa
open Go.RowKit Go.Win Go.ChangeShapes Go.WideShapes Go.ChangeAt Go.Joins

theorem cells38 : Try.prog.cellsOf 38 = 4 := by kernel_rfl

theorem ints4 {H : Type} {enc : TypeId × Value → H} {w : World} {base : Nat} {spare : Nat → Bool} {held : Bool} {fuel : Nat} {cs : List Value} {x : DataW H × List MemPlace} (h : DataW.trod enc Try.prog w base spare held fuel 38 cs = some x) :
    ∃ o : O, cs = encO o := by
  obtain ⟨y0, y1, y2, y3, n, rfl, hl, h0, h1, h2, h3⟩ := trod_struct4 Try.underlying38 h
  rw [cells38] at hl
  match cs, hl with
  | [c0, c1, c2, c3], _ =>
    obtain ⟨a, e0, _, _⟩ := DataW.trod_int Try.underlying3 h0
    obtain ⟨b, e1, _, _⟩ := DataW.trod_int Try.underlying24 h1
    obtain ⟨c, e2, _, _⟩ := DataW.trod_int Try.underlying24 h2
    obtain ⟨d, e3, _, _⟩ := DataW.trod_int Try.underlying3 h3
    have k3 : Try.prog.cellsOf 3 = 1 := by kernel_rfl
    have k24 : Try.prog.cellsOf 24 = 1 := by kernel_rfl
    simp only [k3, k24, List.drop_zero, List.drop_succ_cons, List.take_succ_cons, List.take_zero, List.cons.injEq, and_true] at e0 e1 e2 e3
    exact ⟨(a, b, c, d), by rw [e0, e1, e2, e3]; rfl⟩

theorem script_of {H : Type} {enc : TypeId × Value → H} {w : World} {fuel : Nat} {v : Value} {x : DataW H × List MemPlace} (hv : ∃ a len cap, v = .slice a len cap)
    (h : DataW.trod enc Try.prog w 0 (fun _ => true) true fuel 32 [v] = some x) : ∃ l : List O, Script w v l ∧ ∀ e sp, x.1 = .slice e sp → l.length ≤ e.length := by
  obtain ⟨a0, len, cap, rfl⟩ := hv
  rcases Deep.open_slice Try.underlying32 h with ⟨hcs, rfl⟩ | ⟨a, len', cap', m, n, D, Pl, hcs, _, hl, hm, hmm, rfl, hx⟩
  · simp only [List.cons.injEq, and_true] at hcs
    cases hcs
    exact ⟨[], ⟨⟨_, _, rfl⟩, fun j o ho => by simp at ho⟩, fun e sp he => by cases he⟩
  · simp only [List.cons.injEq, and_true] at hcs
    cases hcs
    simp only [if_true] at hmm
    subst hmm
    have hex : ∀ i, i < len → ∃ o : O, ∀ k, k < 4 → w.cell? ((a.add (i * 4)).add k) = (encO o)[k]? := by
      intro i hi
      obtain ⟨cs', h1, h2⟩ := hx i (by omega)
      obtain ⟨o, rfl⟩ := ints4 h2
      rw [cells38] at h1
      exact ⟨o, fun k hk => (World.cells?_some h1).2.2 k hk⟩
    haveI : Inhabited O := ⟨(0, 0, 0, 0)⟩
    obtain ⟨f, hf⟩ := Deep.choose_lt hex
    refine ⟨(List.range len).map f, ⟨⟨some a, m, by simp⟩, fun j o ho => ?_⟩, fun e sp he => by simp only at he; cases he; simp⟩
    have hjl : j < len := by have := (List.getElem?_eq_some_iff.1 ho).1; simpa using this
    have hof : f j = o := by simpa [hjl] using ho
    have h0 := hf 0 (by omega) 0 (by omega)
    obtain ⟨g, off, spot⟩ := a
    have hspot : spot = none := by
      cases spot with
      | none => rfl
      | some z => simp [Addr.add, World.cell?, encO] at h0; split at h0 <;> simp at h0
    subst hspot
    have hadd : ∀ i k, ((⟨g, off, none⟩ : Addr).add i).add k = ⟨g, off + i + k, none⟩ := by
      intro i k; unfold Addr.add; split <;> split <;> simp_all
    have hk := hf j hjl
    rw [hof] at hk
    have e0 := hk 0 (by omega); have e1 := hk 1 (by omega); have e2 := hk 2 (by omega); have e3 := hk 3 (by omega)
    rw [hadd] at e0 e1 e2 e3
    exact ⟨g, off, m, by simp, World.block_lt_of_cell? w _ e0, e0, e1, e2, e3⟩
end Go.Proofs.Ytikodccbecmjiaa
