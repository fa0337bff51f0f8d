/-
  The walk of value.Check, of fractions.
-/
import Derived.Test.YtikodapgceokhaaGreatRatP
namespace Go.Proofs.YtikodapgceokhaaGreat
open Go.RowKit

set_option maxHeartbeats 1000000 in
theorem check88r (v : V) (hw : v.wf) (hk : v.k = 2) (w : World) : Calls Tryz.prog 88 #[vv v] w fun e w' => e = .returned (.int .i64 (vcheck v)) ∧ w.Gr w' := by
  have ho := fun w => of109 hw.n hw.d w
  have hfr := fun w => fraction110 (v := v) w
  have heq := ratOf_eq hw.n hw.d
  obtain ⟨k, n, d, s⟩ := v
  simp only at hk ho hfr heq
  subst hk
  have hv : vcheck ⟨2, n, d, s⟩ = if s.size = 0 ∧ ratOf n d = (n, d, 0) then 0 else 20 := by
    unfold vcheck
    rw [if_neg (show ¬ ((2 : Int) = 1) by decide), if_pos rfl]
    by_cases h : s.size = 0 ∧ ratOk n d
    · rw [if_pos h, if_pos ⟨h.1, heq.2 h.2⟩]
    · rw [if_neg h, if_neg (fun q => h ⟨q.1, heq.1 q.2⟩)]
  generalize vcheck ⟨2, n, d, s⟩ = R at *
  generalize ratOf n d = T at *
  obtain ⟨r1, r2, r3⟩ := T
  simp only at ho
  have qa := heap_alloc_at w (.cells #[.int .i64 2, .int .i64 n, .int .i64 d, .string s] 60) _ rfl
  have q3 := (World.Gr.refl w).alloc (.cells #[.int .i64 2, .int .i64 n, .int .i64 d, .string s] 60)
  have HV := Lib.hid hv; have HO := Lib.hid ho; have HF := Lib.hid hfr; clear hv ho hfr heq hw
  go_enter Tryz.func88, Tryz.ntmps88
  go_upto_region 1 with (fail)
  generalize hW : World.alloc w _ = W at *
  clear hW
  have Qa := Lib.hid qa; have Q3 := Lib.hid q3; clear qa q3
  have hx := four' Qa.out
  obtain ⟨x0, x1, x2, x3, xf⟩ := hx
  go_wp2_with fail
  refine (HO.out _).mono ?_
  rintro e w1 ⟨rfl, g1⟩
  have qa := g1.fr.heap Qa.out (by simp); have q3 := Q3.out.trans g1
  clear x0 x1 x2 x3 xf Qa Q3 g1
  have hsz : w.heap.size < w1.heap.size := (Array.getElem?_eq_some_iff.1 qa).1
  have qb := heap_alloc_at w1 (.cells #[.int .i64 r1, .int .i64 r2] 104) _ rfl
  have qa := heap_alloc_some qa (.cells #[.int .i64 r1, .int .i64 r2] 104)
  have q3 := q3.alloc (.cells #[.int .i64 r1, .int .i64 r2] 104)
  go_upto_region 8 with (fail)
  generalize hW : World.alloc w1 _ = w2 at *
  clear hW
  generalize w1.heap.size = p at *
  have Qa := Lib.hid qa; have Qb := Lib.hid qb; have Q3 := Lib.hid q3; clear qa qb q3
  obtain ⟨x0, x1, x2, x3, xf⟩ := four' Qa.out
  obtain ⟨y0, y1, yf⟩ := two' Qb.out
  by_cases hs : s.size = 0
  · have hs' : s = ⟨#[]⟩ := by
      cases s with | mk a => 
        have : a.size = 0 := hs
        rw [Array.eq_empty_of_size_eq_zero this]
    subst hs'
    by_cases hr3 : r3 = 0
    · subst hr3
      simp only [vv] at HF
      refine (have hr : (r1 == n) = true ∧ (r2 == d) = true ∧ R = 0 ∨ (r1 == n) = false ∧ R = 20 ∨ (r1 == n) = true ∧ (r2 == d) = false ∧ R = 20 := ?_; ?_)
      · rw [HV.out]
        by_cases h1 : r1 = n
        · by_cases h2 : r2 = d
          · exact .inl ⟨by simp [h1], by simp [h2], by rw [if_pos ⟨hs, by rw [h1, h2]⟩]⟩
          · exact .inr (.inr ⟨by simp [h1], by simp [h2], by rw [if_neg (fun h => h2 (by injection h.2 with _ h; injection h))]⟩)
        · exact .inr (.inl ⟨by simp [h1], by rw [if_neg (fun h => h1 (by injection h.2))]⟩)
      clear hs HV
      rcases hr with ⟨g1, g2, hR⟩ | ⟨g1, hR⟩ | ⟨g1, g2, hR⟩
      all_goals
        subst hR
        go_region_with (first | (go_at_call 110; with_reducible refine (HF.out _).mono ?_; rintro x w6 ⟨rfl, g⟩; obtain ⟨u0, u1, uf⟩ := two' (g.fr.heap (w := w2.drew) Qb.out (by simp)); obtain ⟨v0, v1, v2, v3, vf⟩ := four' (g.fr.heap (w := w2.drew) Qa.out (by simp)); have G6 := Lib.hid (Q3.out.drew.trans g); clear g))
      all_goals
        go_wp2
        go_ret
        exact ⟨rfl, G6.out⟩
    · have hb3 : (r3 == 0) = false := by simp [hr3]
      have hb4 : (r3 != 0) = true := by simp [hr3]
      have hR : R = 20 := by rw [HV.out, if_neg (fun h => hr3 (by injection h.2 with _ h; injection h))]
      subst hR
      clear hr3 hs
      go_quiet (fail)
      go_wp2
      go_ret
      exact ⟨rfl, World.Gr.of_drewN Q3.out nq⟩
  · have hR : R = 20 := by rw [HV.out, if_neg (fun h => hs h.1)]
    subst hR
    have hsb : s.toList.isEmpty = false := by rw [isEmpty_size]; exact decide_eq_false hs
    clear hs
    go_quiet (fail)
    go_wp2
    go_ret
    exact ⟨rfl, World.Gr.of_drewN Q3.out nq⟩
end Go.Proofs.YtikodapgceokhaaGreat
