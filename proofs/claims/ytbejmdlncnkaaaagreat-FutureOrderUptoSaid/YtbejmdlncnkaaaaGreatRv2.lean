/-
  The document's values: Compare.
-/
import Derived.Test.YtbejmdlncnkaaaaGreatNumC
import Derived.Test.YtbejmdlncnkaaaaGreatBig10
import Derived.Test.YtbejmdlncnkaaaaGreatFraB
namespace Go.Proofs.YtbejmdlncnkaaaaGreat
open Go.RowKit

set_option maxRecDepth 100000 in
set_option maxHeartbeats 4000000 in
theorem rcompare92 (a b : V) (ha : a.wf) (hb : b.wf) (w : World) : Calls Tryz.prog 204 #[vv a, vv b] w fun e w' => e = .returned (.int .i64 (cfQ a b)) ∧ w.Gr w' := by
  have hca := rcheck91 a ha
  have hcb := rcheck91 b hb
  have hfa := fun w => rfraction116 a w
  have hfb := fun w => rfraction116 b w
  have hrc := fun w => rcompare117 ha.n ha.d hb.n hb.d w
  have htx := fun w => rtexts118 (s := a.s) (t := b.s) ha.s w
  have hres := cfQ_rat ha hb
  obtain ⟨ak, an, ad, sa⟩ := a
  obtain ⟨bk, bn, bd, sb⟩ := b
  simp only [vv] at hca hcb hfa hfb hrc htx hres
  generalize cfQ ⟨ak, an, ad, sa⟩ ⟨bk, bn, bd, sb⟩ = R at *
  generalize vcheck ⟨ak, an, ad, sa⟩ = ca at *
  generalize vcheck ⟨bk, bn, bd, sb⟩ = cb at *
  generalize ratCmp an ad bn bd = RC at *
  generalize Lib.compareBytes sa.data.toList sb.data.toList = TX at *
  have HR := Lib.hid hres; have Hca := Lib.hid hca; have Hcb := Lib.hid hcb; have HFa := Lib.hid hfa; have HFb := Lib.hid hfb; have HRC := Lib.hid hrc; have HTX := Lib.hid htx
  clear hres hca hcb hfa hfb hrc htx ha hb
  have q1 := heap_alloc_at w (.cells #[.int .i64 ak, .int .i64 an, .int .i64 ad, .string sa] 83) _ rfl
  have q2 := heap_alloc_at (w.alloc (.cells #[.int .i64 ak, .int .i64 an, .int .i64 ad, .string sa] 83)) (.cells #[.int .i64 bk, .int .i64 bn, .int .i64 bd, .string sb] 83) (w.heap.size + 1) (by simp)
  have q1 := heap_alloc_some q1 (.cells #[.int .i64 bk, .int .i64 bn, .int .i64 bd, .string sb] 83)
  have q3 := ((World.Gr.refl w).alloc (.cells #[.int .i64 ak, .int .i64 an, .int .i64 ad, .string sa] 83)).alloc (.cells #[.int .i64 bk, .int .i64 bn, .int .i64 bd, .string sb] 83)
  go_enter Tryz.func204, Tryz.ntmps204
  go_upto_region 1 with (fail)
  generalize hW : World.alloc (World.alloc w _) _ = W at *
  clear hW
  obtain ⟨a0, a1, a2, a3, af⟩ := four' q1
  obtain ⟨b0, b1, b2, b3, bf⟩ := four' q2
  have Q1 := Lib.hid q1; have Q2 := Lib.hid q2; have Q3 := Lib.hid q3; clear q1 q2 q3
  go_wp2_with fail
  with_reducible refine (Hca.out _).mono ?_
  rintro e w1 ⟨rfl, hf1⟩
  clear a0 a1 a2 a3 af b0 b1 b2 b3 bf
  have q1 := hf1.fr.heap Q1.out (by simp)
  have q2 := hf1.fr.heap Q2.out (by simp)
  have q3 := Q3.out.trans hf1
  clear Q1 Q2 Q3 hf1
  obtain ⟨a0, a1, a2, a3, af⟩ := four' q1
  obtain ⟨b0, b1, b2, b3, bf⟩ := four' q2
  have Q1 := Lib.hid q1; have Q2 := Lib.hid q2; have Q3 := Lib.hid q3; clear q1 q2 q3
  go_wp2_with fail
  with_reducible refine (Hcb.out _).mono ?_
  rintro e w2 ⟨rfl, hf2⟩
  clear a0 a1 a2 a3 af b0 b1 b2 b3 bf
  have q1 := hf2.fr.heap Q1.out (by simp)
  have q2 := hf2.fr.heap Q2.out (by simp)
  have q3 := Q3.out.trans hf2
  clear Q1 Q2 Q3 hf2
  obtain ⟨a0, a1, a2, a3, af⟩ := four' q1
  obtain ⟨b0, b1, b2, b3, bf⟩ := four' q2
  have Q1 := Lib.hid q1; have Q2 := Lib.hid q2; have Q3 := Lib.hid q3; clear q1 q2 q3
  by_cases hA : ca = 0
  · have hAb : (ca == 0) = true := by simp [hA]
    have hAc : (ca != 0) = false := by simp [hA]
    by_cases hB : cb = 0
    · have hBb : (cb == 0) = true := by simp [hB]
      have hBc : (cb != 0) = false := by simp [hB]
      have hr := HR.out
      rw [if_neg (by omega)] at hr
      clear HR hA hB
      by_cases hk : ak = bk
      · subst hk
        rw [if_neg (by simp)] at hr
        have hkb : (ak == ak) = true := by simp
        have hkc : (ak != ak) = false := by simp
        by_cases h2 : ak = 2
        · subst h2
          rw [if_neg (by decide), if_pos rfl] at hr
          subst hr
          go_upto_region 6 with (fail)
          go_region_with (first | (go_at_call 203; with_reducible refine (HFa.out _).mono ?_; rintro x w6 ⟨rfl, g⟩; obtain ⟨c0, c1, c2, c3, cf⟩ := four' (g.fr.heap (w := w2.drew) Q2.out (by simp)); have G6 := Lib.hid (Q3.out.drew.trans g); clear g) | (go_at_call 203; with_reducible refine (HFb.out _).mono ?_; rintro x w7 ⟨rfl, g⟩; have G7 := Lib.hid (G6.out.trans g); clear g) | (go_at_call 245; with_reducible refine (HRC.out _).mono ?_; rintro x w8 ⟨rfl, g⟩; have G8 := Lib.hid (G7.out.trans g); clear g))
          all_goals
            go_wp2
            go_ret
            exact ⟨rfl, G8.out⟩
        · have h2b : (ak == 2) = false := beq_eq_false_iff_ne.2 h2
          by_cases h1 : ak = 1
          · subst h1
            rw [if_pos rfl] at hr
            clear h2
            rcases Int.lt_trichotomy an bn with h | h | h
            · have d1 : decide (an < bn) = true := decide_eq_true h
              have hr2 : R = -1 := by rw [hr]; unfold Lib.compareInt; rw [if_pos h]
              subst hr2
              clear h hr
              go_wp2
              go_ret
              exact ⟨rfl, Q3.out⟩
            · have d1 : decide (an < bn) = false := decide_eq_false (by omega)
              have d2 : decide (bn < an) = false := decide_eq_false (by omega)
              have hr2 : R = 0 := by rw [hr]; unfold Lib.compareInt; rw [if_neg (by omega), if_neg (by omega)]
              subst hr2
              clear h hr
              go_wp2
              go_ret
              exact ⟨rfl, Q3.out⟩
            · have d1 : decide (an < bn) = false := decide_eq_false (by omega)
              have d2 : decide (bn < an) = true := decide_eq_true h
              have hr2 : R = 1 := by rw [hr]; unfold Lib.compareInt; rw [if_neg (by omega), if_pos h]
              subst hr2
              clear h hr
              go_wp2
              go_ret
              exact ⟨rfl, Q3.out⟩
          · have h1b : (ak == 1) = false := beq_eq_false_iff_ne.2 h1
            rw [if_neg h1, if_neg h2] at hr
            subst hr
            clear h1 h2
            go_wp2_with fail
            with_reducible refine (HTX.out _).mono ?_
            rintro e w3 ⟨rfl, g⟩
            have q9 := Q3.out.trans g
            clear a0 a1 a2 a3 af b0 b1 b2 b3 bf Q1 Q2 Q3
            go_wp2
            go_ret
            exact ⟨rfl, q9⟩
      · rw [if_pos hk] at hr
        have hkb : (ak == bk) = false := beq_eq_false_iff_ne.2 hk
        have hkc : (ak != bk) = true := by simp [hk]
        have h22 : (ak == 2) = false ∨ (ak == 2) = true ∧ (bk == 2) = false := by
          by_cases h : ak = 2
          · exact .inr ⟨by simp [h], by simp; omega⟩
          · exact .inl (by simp [h])
        rcases Int.lt_or_gt_of_ne hk with h | h
        · have d1 : decide (ak < bk) = true := decide_eq_true h
          have hr2 : R = -1 := by rw [hr]; unfold Lib.compareInt; rw [if_pos h]
          subst hr2
          clear h hr hk
          rcases h22 with h22 | ⟨h22, h23⟩
          · go_wp2
            go_ret
            exact ⟨rfl, Q3.out⟩
          · go_wp2
            go_ret
            exact ⟨rfl, Q3.out⟩
        · have d1 : decide (ak < bk) = false := decide_eq_false (by omega)
          have hr2 : R = 1 := by rw [hr]; unfold Lib.compareInt; rw [if_neg (by omega), if_pos h]
          subst hr2
          clear h hr hk
          rcases h22 with h22 | ⟨h22, h23⟩
          · go_wp2
            go_ret
            exact ⟨rfl, Q3.out⟩
          · go_wp2
            go_ret
            exact ⟨rfl, Q3.out⟩
    · have hBb : (cb == 0) = false := beq_eq_false_iff_ne.2 hB
      have hBc : (cb != 0) = true := by simp [hB]
      have hr : R = 0 := by rw [HR.out, if_pos (.inr hB)]
      subst hr
      clear HR hA hB
      go_wp2
      go_ret
      exact ⟨rfl, Q3.out⟩
  · have hAb : (ca == 0) = false := beq_eq_false_iff_ne.2 hA
    have hAc : (ca != 0) = true := by simp [hA]
    have hr : R = 0 := by rw [HR.out, if_pos (.inl hA)]
    subst hr
    clear HR hA
    go_wp2
    go_ret
    exact ⟨rfl, Q3.out⟩
end Go.Proofs.YtbejmdlncnkaaaaGreat
