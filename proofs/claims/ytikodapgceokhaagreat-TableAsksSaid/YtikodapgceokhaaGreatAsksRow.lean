/-
  TableAsks: whatever two tables and a row: what is asked is the document's: the given statement, in full. No condition.
-/
import Derived.Test.YtikodapgceokhaaGreatRows
import Derived.Test.YtikodapgceokhaaGreatAsks
import Derived.Test.YtikodapgceokhaaGreatLive
import Derived.Test.YtikodapgceokhaaGreatOpen
import Derived.Test.YtikodapgceokhaaGreatLaw
namespace Go.Proofs.YtikodapgceokhaaGreat.tableAsks
open Go.ChangeShapes Go.WideShapes Go.ChangeAt Go.RowKit Go.Joins

theorem own : ownKnob Tryz.prog.godebug = none := by kernel_rfl
theorem small_of {t : Tb} (h : TabLite t) : Small t := ⟨by have := h.vars; omega, by have := h.rows; omega, fun r hr => by have := h.row r hr; omega⟩

set_option maxRecDepth 100000 in
theorem lifted (os : Os) (started : os.Started) (H : Type) (enc : TypeId × Value → H) :
    ReturnsInHanded {} Tryz.checked os 4 .any (Rows.tableAsksSpec.pre6 enc Tryz.prog Tryz.f4 Rows.tableAsksRow.domain false) (Rows.tableAsksSpec.post enc Tryz.prog Tryz.f4 false true false false) := by
  refine returnsInHanded_of_change_sized (C := Tryz.checked) own started (by kernel_rfl) Tryz.func4
    (ChangeSpec.witness6 (enc := enc) (C := Tryz.checked) false ⟨#[], #[.agg #[.slice none 0 0, .slice none 0 0], .agg #[.slice none 0 0, .slice none 0 0], .slice none 0 0], []⟩ 8 (by kernel_rfl) (by kernel_rfl) (by kernel_rfl) (by kernel_rfl)) ?_
  intro W base args ds gs before hval0 hW _ hsz _
  have hval : ∀ (j : Nat) t v, Tryz.f4.params[j]? = some t → args[j]? = some v → Value.okWide Tryz.prog W .any base t v := hval0
  have hW' := hW
  obtain ⟨p, q, hA0, hV, rfl, hfz, hnd⟩ := hW
  have hA : DataW.TrodAll enc Tryz.prog W 0 (fun _ => true) true Tryz.f4.params.toList args.toList ds p := hA0
  rw [Tryz.params4] at hA hval
  obtain ⟨v0, v1, v2, d0, d1, d2, p0, p1, p2, rfl, rfl, rfl, h0, h1, h2⟩ := trodAll_three hA
  obtain ⟨rfl, rfl⟩ := trodVars_none hV
  have hlite : ∀ (j : Nat) (t : TypeId) (d : DataW H), [25, 25, 32][j]? = some t → [d0, d1, d2][j]? = some d → Lite t d := fun j t d ht hd n hn => by
    have := List.all_eq_true.1 hsz n (DataW.weights_mem_each (j := j) (by rw [Tryz.params4]; exact ht) (by rw [List.append_nil]; exact hd) n hn)
    unfold reachBytes at this
    simpa using this
  obtain ⟨s, hs, hsl⟩ := open_tab (hval 0 25 v0 rfl rfl) h0
  obtain ⟨t, ht, htl⟩ := open_tab (hval 1 25 v1 rfl rfl) h1
  obtain ⟨fuel, hf⟩ := h2
  obtain ⟨a0, len, cap, rfl⟩ := okWide_slice Tryz.underlying32 (hval 2 32 v2 rfl rfl)
  obtain ⟨r, hr, _⟩ := open_row (x := (d2, p2)) hf
  refine (asks4 live18 hs ht hr (small_of (hsl (hlite 0 25 d0 rfl rfl))) (small_of (htl (hlite 1 25 d1 rfl rfl)))).mono fun e W' ⟨he, hg⟩ => ⟨_, he, ?_⟩
  exact law_post (tb := 4) (by kernel_rfl) (by rw [Tryz.params4]; intro t ht; simp at ht; rcases ht with rfl | rfl <;> exact ⟨by kernel_rfl, of_decide_eq_true (by kernel_rfl)⟩) rfl (by kernel_rfl) Tryz.underlying4 rfl hW' (hg.below (Nat.le_refl _) (by simp))

theorem proved : Rows.TableAsksSaid :=
  OpenClaim.holds_of_wide 4 Tryz.f4 rfl rfl rfl rfl rfl rfl rfl ⟨rfl, rfl, rfl, rfl, rfl⟩ rfl rfl rfl rfl rfl (by kernel_rfl) Tryz.func4 (by kernel_rfl)
    (of_decide_eq_true (by kernel_rfl)) (by unfold Func.isWrapper; first | (rw [if_pos (by decide +kernel)]; kernel_rfl) | (rw [if_neg (by decide +kernel)]; exact ⟨rfl, rfl⟩))
    (fun os started H enc _ => lifted os started H enc)
#print axioms proved
end Go.Proofs.YtikodapgceokhaaGreat.tableAsks
