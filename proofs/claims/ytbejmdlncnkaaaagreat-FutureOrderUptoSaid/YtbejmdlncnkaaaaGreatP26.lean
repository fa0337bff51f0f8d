/-
  Once, plainly, is Since, not, of what is always false.
-/
import Derived.Test.YtbejmdlncnkaaaaGreatPaE
import Derived.Test.YtbejmdlncnkaaaaGreatPaF
namespace Go.Proofs.YtbejmdlncnkaaaaGreat
open Go.RowKit

abbrev noT : Tb := ⟨[], []⟩
theorem noT_good {cf : V → V → Int} : Good cf noT := ⟨by simp, by simp, by simp, by simp, by simp⟩
theorem anti_noT {cf : V → V → Int} (hO : OrdOk okW cf) {k : Tb} (hk : Good cf k) : (antiT cf k noT).2 = k := by
  obtain ⟨u, e, hu, hv, hm⟩ := antiT_good hO hk (noT_good (cf := cf))
  rw [e]
  exact good_ext hO hu hk (fun s => by rw [hv]) (fun r => by rw [hm]; simp)
/-- the operator of two parts that goes with one of one -/
abbrev PX.two (X : PX) : PX := { X with nt := true, parts := 2 }
theorem POkP.two {cf : V → V → Int} {X : PX} {M : Nat} (h : POkP cf X M) (hf : X.fn = 65) : POkP cf X.two M :=
  ⟨h.upl, h.up, h.le8, .inr rfl, h.sub, h.time, h.times, h.good, .inr ⟨hf, by rcases h.fn with ⟨h1, _⟩ | ⟨_, h2⟩; rw [hf] at h1; cases h1; exact h2⟩⟩
theorem wrong_both {cf : V → V → Int} {X : PX} {n : Int} {t : Tb} (hp : X.parts = 1) (hl : X.left = []) : wrongP cf X.two n [noT, t] = wrongP cf X n [t] := by
  have h0 : tcheck cf noT = 0 := (noT_good (cf := cf)).check
  have h1 : firstBad cf [noT, t] = firstBad cf [t] := by simp [firstBad, h0]
  unfold wrongP wrongE
  simp only
  by_cases ha : n < 0 ∨ 1099511627776 < n ∨ n < X.time
  · rw [if_pos ha, if_pos ha]
  · rw [if_neg ha, if_neg ha, if_neg (show ¬ (([noT, t].length : Int) ≠ 2) by simp), if_neg (show ¬ (([t].length : Int) ≠ X.parts) by simp [hp]), h1]
    by_cases hb : firstBad cf [t] ≠ 0
    · rw [if_pos hb, if_pos hb]
    · rw [if_neg hb, if_neg hb]
      by_cases hc : t.vars = X.right
      · rw [if_neg, if_neg]
        · rintro (⟨h, _⟩ | ⟨t', h2, h3⟩)
          · rw [hp] at h; cases h
          · simp at h2; subst h2; exact h3 hc
        · rintro (⟨_, t', h2, h3⟩ | ⟨t', h2, h3⟩)
          · simp at h2; subst h2; exact h3 hl.symm
          · simp at h2; subst h2; exact h3 hc
      · rw [if_pos (.inr ⟨t, by simp, hc⟩), if_pos (.inr ⟨t, by simp, hc⟩)]
/-- two tables in a slice of the call's own, one of them an argument's -/
theorem tabs_pair {w : World} {g : Nat} {a b c d : Value} {t u : Tb} (hg : w.heap[g]? = some (.cells #[a, b, c, d] 34 (0, 0))) (h : RdTab w (.agg #[a, b]) t) (h' : RdTab w (.agg #[c, d]) u) : RdTabs w (.slice (some ⟨g, 0, none⟩) 2 2) [t, u] := by
  have hs : w.Sl 34 2 (.slice (some ⟨g, 0, none⟩) 2 2) 2 [a, b, c, d] := ⟨by simp, .inr ⟨g, 0, 2, _, rfl, hg, Nat.le_refl _, by simp [maxLen], by simp, by simp⟩⟩
  refine ⟨[(a, b), (c, d)], rfl, by simpa using hs.rd, fun j x t' h1 h2 => ?_⟩
  match j with
  | 0 => simp at h1 h2; subst h1 h2; exact h
  | 1 => simp at h1 h2; subst h1 h2; exact h'
  | j + 2 => simp at h1
theorem RdTab.nul (w : World) : RdTab w (.agg #[.slice none 0 0, .slice none 0 0]) noT := ⟨⟨_, _, [], rfl, ⟨rdNil _ _, by simp⟩, ⟨rdNil _ _, rfl, by simp⟩⟩⟩
theorem noT_fits : Fits V.wf noT := ⟨⟨by simp, by simp, fun r hr => by simp at hr⟩, by simp, fun r hr => by simp at hr⟩
theorem tabU_fits {w : World} {v : Value} {ts : List Tb} (h : RdTabs w v ts) (hu : ∀ t, t ∈ ts → TabU t) : ∀ t, t ∈ ts → Fits V.wf t := fun t ht => by
  obtain ⟨j, hj⟩ := List.getElem?_of_mem ht
  obtain ⟨_, _, _, _, _, _, _, _, _, _, _, hr⟩ := h.at hj
  have := hu t ht
  have hw : ∀ r, r ∈ t.rows → ∀ x, x ∈ r → V.wf x := by
    obtain ⟨va, vb, hs, he, _, hr⟩ := hr.ex
    intro r hrm
    obtain ⟨i, hi⟩ := List.getElem?_of_mem hrm
    have hlt := (List.getElem?_eq_some_iff.1 hi).1
    have hlen := hr.len
    obtain ⟨hvv, hh⟩ : ∃ x, hs[i]? = some x := ⟨hs[i]'(by omega), List.getElem?_eq_getElem (by omega)⟩
    exact (hr.row i hvv r hh hi).wf
  exact ⟨⟨by have := this.vars; omega, by have := this.rows; omega, fun r hr => by have := this.row r hr; omega⟩, by have := this.rows; omega, hw⟩
theorem RdTabs.below {w : World} {v : Value} {ts : List Tb} (h : RdTabs w v ts) (hp : 0 < ts.length) {g off l c : Nat} (e : v = .slice (some ⟨g, off, none⟩) l c) : g < w.heap.size := by
  obtain ⟨g3, off3, c3, _, _, _, _, hv3, hg3, _⟩ := h.at (j := 0) (List.getElem?_eq_getElem hp)
  rw [hv3] at e
  cases e
  exact hg3
theorem same_refl (t : Tb) : sameB t t = true := by simp [sameB, eqB_true]
end Go.Proofs.YtbejmdlncnkaaaaGreat
