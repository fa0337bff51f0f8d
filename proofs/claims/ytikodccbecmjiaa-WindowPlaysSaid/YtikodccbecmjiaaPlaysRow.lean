/-
  WindowPlays: whatever comes and goes, each thing and what is made of all is the document's: the given statement, in full. No condition.
-/
import Derived.Test.YtikodccbecmjiaaRows
import Derived.Test.YtikodccbecmjiaaPlays2
import Derived.Test.YtikodccbecmjiaaOpen
import Derived.Test.YtikodccbecmjiaaLaw
namespace Go.Proofs.Ytikodccbecmjiaa.windowPlays
open Go.ChangeShapes Go.WideShapes Go.ChangeAt Go.RowKit Go.Joins

theorem own : ownKnob Try.prog.godebug = none := by kernel_rfl
theorem bytes38 : Try.checked.prog.bytesOf 38 = 32 := by kernel_rfl

set_option maxRecDepth 100000 in
theorem lifted (os : Os) (started : os.Started) (H : Type) (enc : TypeId × Value → H) :
    ReturnsInHanded {} Try.checked os 6 .any (Rows.windowPlaysSpec.pre6 enc Try.prog Try.f6 Rows.windowPlaysRow.domain false) (Rows.windowPlaysSpec.post enc Try.prog Try.f6 false true false false) := by
  refine returnsInHanded_of_change_sized (C := Try.checked) own started (by kernel_rfl) Try.func6
    (ChangeSpec.witness6 (enc := enc) (C := Try.checked) false ⟨#[], #[.agg #[.int .i64 0, .int .u64 0, .int .u64 0, .int .i64 0], .slice none 0 0], []⟩ 8 (by kernel_rfl) (by kernel_rfl) (by kernel_rfl) (by kernel_rfl)) ?_
  intro W base args ds gs before hval0 hW _ hsz _
  have hval : ∀ (j : Nat) t v, Try.f6.params[j]? = some t → args[j]? = some v → Value.okWide Try.prog W .any base t v := hval0
  have hW' := hW
  obtain ⟨p, q, hA0, hV, rfl, hfz, hnd⟩ := hW
  have hA : DataW.TrodAll enc Try.prog W 0 (fun _ => true) true Try.f6.params.toList args.toList ds p := hA0
  rw [Try.params6] at hA hval
  obtain ⟨v0, v1, d0, d1, p0, p1, rfl, rfl, rfl, h0, h1⟩ := trodAll_two hA
  obtain ⟨rfl, rfl⟩ := trodVars_none hV
  obtain ⟨c0, c1, c2, c3, y0, y1, y2, y3, m, rfl, rfl, _, z0, z1, z2, z3⟩ := open_agg4 Try.underlying38 (by kernel_rfl) cells38 (hval 0 38 v0 rfl rfl) h0
  obtain ⟨a, e0, _, _⟩ := DataW.trod_int Try.underlying3 z0
  obtain ⟨b, e1, _, _⟩ := DataW.trod_int Try.underlying24 z1
  obtain ⟨c, e2, _, _⟩ := DataW.trod_int Try.underlying24 z2
  obtain ⟨d, e3, _, _⟩ := DataW.trod_int Try.underlying3 z3
  simp only [List.cons.injEq, and_true] at e0 e1 e2 e3
  subst e0 e1 e2 e3
  obtain ⟨fuel, hf⟩ := h1
  obtain ⟨a0, len, cap, rfl⟩ := okWide_slice Try.underlying32 (hval 1 32 v1 rfl rfl)
  obtain ⟨l, hS, hlen⟩ := script_of ⟨_, _, _, rfl⟩ hf
  have hl : l.length ≤ 8000000000000 := by
    rcases Deep.open_slice Try.underlying32 hf with ⟨hcs, hx⟩ | ⟨a', len', cap', m', n', D, Pl, hcs, _, _, _, _, hx, _⟩
    · obtain ⟨a2, c2, he⟩ := hS.shape
      have h1 : len = 0 := by simp [Value.cells] at hcs; exact hcs.2.1
      have h2 : len = l.length := by injection he
      omega
    · have hd : d1 = _ := (Prod.ext_iff.1 hx).1
      simp only at hd
      have hle := hlen _ _ hd
      have := sized_slice (j := 1) (P := Try.checked.prog) hsz rfl (by rw [List.append_nil, hd]; rfl) Try.underlying32
      rw [bytes38] at this
      unfold reachBytes at this
      omega
  refine (plays6 a b c d _ l W hS hl).mono fun e W' ⟨he, hg⟩ => ⟨_, he, ?_⟩
  exact law_post (tb := 4) (by kernel_rfl) (by rw [Try.params6]; intro t ht; simp at ht; rcases ht with rfl | rfl <;> exact ⟨by kernel_rfl, of_decide_eq_true (by kernel_rfl)⟩) rfl (by kernel_rfl) Try.underlying4 rfl hW' (hg.below (Nat.le_refl _) (by simp))

theorem proved : Rows.WindowPlaysSaid :=
  OpenClaim.holds_of_wide 6 Try.f6 rfl rfl rfl rfl rfl rfl rfl ⟨rfl, rfl, rfl, rfl, rfl⟩ rfl rfl rfl rfl rfl (by kernel_rfl) Try.func6 (by kernel_rfl)
    (of_decide_eq_true (by kernel_rfl)) (by unfold Func.isWrapper; first | (rw [if_pos (by decide +kernel)]; kernel_rfl) | (rw [if_neg (by decide +kernel)]; exact ⟨rfl, rfl⟩))
    (fun os started H enc _ => lifted os started H enc)
#print axioms proved
end Go.Proofs.Ytikodccbecmjiaa.windowPlays
