/-
  WindowAnew: what a window tells, asked twice, is what a window made anew of the same things tells: the given statement, in full. No condition.
-/
import Derived.Test.YtikodccbecmjiaaRows
import Derived.Test.YtikodccbecmjiaaAnew2
import Derived.Test.YtikodccbecmjiaaOpen
import Derived.Test.YtikodccbecmjiaaLaw
namespace Go.Proofs.Ytikodccbecmjiaa.windowAnew
open Go.ChangeShapes Go.WideShapes Go.ChangeAt Go.RowKit Go.Joins

theorem own : ownKnob Try.prog.godebug = none := by kernel_rfl
theorem bytes38 : Try.checked.prog.bytesOf 38 = 32 := by kernel_rfl

set_option maxRecDepth 100000 in
theorem lifted (os : Os) (started : os.Started) (H : Type) (enc : TypeId × Value → H) :
    ReturnsInHanded {} Try.checked os 4 .any (Rows.windowAnewSpec.pre6 enc Try.prog Try.f4 Rows.windowAnewRow.domain false) (Rows.windowAnewSpec.post enc Try.prog Try.f4 false true false false) := by
  refine returnsInHanded_of_change_sized (C := Try.checked) own started (by kernel_rfl) Try.func4
    (ChangeSpec.witness6 (enc := enc) (C := Try.checked) false ⟨#[], #[.slice none 0 0], []⟩ 8 (by kernel_rfl) (by kernel_rfl) (by kernel_rfl) (by kernel_rfl)) ?_
  intro W base args ds gs before hval0 hW _ hsz _
  have hval : ∀ (j : Nat) t v, Try.f4.params[j]? = some t → args[j]? = some v → Value.okWide Try.prog W .any base t v := hval0
  have hW' := hW
  obtain ⟨p, q, hA0, hV, rfl, hfz, hnd⟩ := hW
  have hA : DataW.TrodAll enc Try.prog W 0 (fun _ => true) true Try.f4.params.toList args.toList ds p := hA0
  rw [Try.params4] at hA hval
  obtain ⟨v1, d1, rfl, rfl, fuel, hf⟩ := trodAll_one hA
  obtain ⟨rfl, rfl⟩ := trodVars_none hV
  obtain ⟨a0, len, cap, rfl⟩ := okWide_slice Try.underlying32 (hval 0 32 v1 rfl rfl)
  obtain ⟨l, hS, hlen⟩ := script_of ⟨_, _, _, rfl⟩ hf
  have hl : l.length ≤ 8000000000000 := by
    rcases Deep.open_slice Try.underlying32 hf with ⟨hcs, hx⟩ | ⟨a', len', cap', m', n', D, Pl, hcs, _, _, _, _, hx, _⟩
    · obtain ⟨a2, c2, he⟩ := hS.shape
      have h1 : len = 0 := by simp [Value.cells] at hcs; exact hcs.2.1
      have h2 : len = l.length := by injection he
      omega
    · have hd : d1 = _ := (Prod.ext_iff.1 hx).1
      simp only at hd
      have hle := hlen _ _ hd
      have := sized_slice (j := 0) (P := Try.checked.prog) hsz rfl (by rw [List.append_nil, hd]; rfl) Try.underlying32
      rw [bytes38] at this
      unfold reachBytes at this
      omega
  have hcap : ∀ a n c, (Value.slice a0 len cap) = .slice a n c → n ≤ c := by
    rintro a n c ⟨⟩
    rcases Deep.open_slice Try.underlying32 hf with ⟨hcs, _⟩ | ⟨a', len', cap', m', n', D, Pl, hcs, _, hle, _⟩
    · simp [Value.cells] at hcs; omega
    · simp [Value.cells] at hcs; omega
  refine (anew4 _ l W hS hl hcap).mono fun e W' ⟨he, hg⟩ => ⟨_, he, ?_⟩
  exact law_post (tb := 4) (by kernel_rfl) (by rw [Try.params4]; intro t ht; simp at ht; subst ht; exact ⟨by kernel_rfl, of_decide_eq_true (by kernel_rfl)⟩) rfl (by kernel_rfl) Try.underlying4 rfl hW' (hg.below (Nat.le_refl _) (by simp))

theorem proved : Rows.WindowAnewSaid :=
  OpenClaim.holds_of_wide 4 Try.f4 rfl rfl rfl rfl rfl rfl rfl ⟨rfl, rfl, rfl, rfl, rfl⟩ rfl rfl rfl rfl rfl (by kernel_rfl) Try.func4 (by kernel_rfl)
    (of_decide_eq_true (by kernel_rfl)) (by unfold Func.isWrapper; first | (rw [if_pos (by decide +kernel)]; kernel_rfl) | (rw [if_neg (by decide +kernel)]; exact ⟨rfl, rfl⟩))
    (fun os started H enc _ => lifted os started H enc)
#print axioms proved
end Go.Proofs.Ytikodccbecmjiaa.windowAnew
