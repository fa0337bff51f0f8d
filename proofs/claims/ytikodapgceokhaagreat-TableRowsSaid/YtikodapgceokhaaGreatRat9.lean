/-
  The walk of value.Compare, of any values that may be; value.Check and value.Compare are known of all values.
-/
import Derived.Test.YtikodapgceokhaaGreatRat7
import Derived.Test.YtikodapgceokhaaGreatRat8
import Derived.Test.YtikodapgceokhaaGreatMad
import Derived.Test.YtikodapgceokhaaGreatTbs
namespace Go.Proofs.YtikodapgceokhaaGreat
open Go.RowKit

theorem check88q (v : V) (hw : v.wf) (w : World) : Calls Tryz.prog 88 #[vv v] w fun e w' => e = .returned (.int .i64 (vcheck v)) ∧ w.Gr w' := by
  by_cases hk : v.k = 2
  · exact check88r v hw hk w
  · exact check88 v hk w
theorem cfQ_rat {a b : V} (_ha : a.wf) (_hb : b.wf) : cfQ a b = if vcheck a ≠ 0 ∨ vcheck b ≠ 0 then 0 else if a.k ≠ b.k then Lib.compareInt a.k b.k else if a.k = 1 then Lib.compareInt a.n b.n else if a.k = 2 then ratCmp a.n a.d b.n b.d else Lib.compareBytes a.s.data.toList b.s.data.toList := by
  by_cases h : vcheck a ≠ 0 ∨ vcheck b ≠ 0
  · unfold cfQ vcmpBy; rw [if_pos h, if_pos h]
  · have h1 : vcheck a = 0 := by omega
    have h2 : vcheck b = 0 := by omega
    rw [cfQ_eq h1 h2, if_neg h]
    by_cases hk : a.k = 2
    · by_cases hk2 : a.k = b.k
      · have q1 := ok_rat h1 hk
        have q2 := ok_rat h2 (by omega)
        rw [ratCmp_eq q1.2 q2.2, rcQ]
      · simp only [if_pos (show a.k ≠ b.k from hk2)]
    · simp only [if_neg hk]

set_option maxHeartbeats 2000000 in
theorem compare89q (hM : MulOk) (a b : V) (ha : a.wf) (hb : b.wf) (w : World) : Calls Tryz.prog 89 #[vv a, vv b] w fun e w' => e = .returned (.int .i64 (cfQ a b)) ∧ w.Gr w' := by
  have hca := check88q a ha
  have hcb := check88q b hb
  have hfa := fun w => fraction110 (v := a) w
  have hfb := fun w => fraction110 (v := b) w
  have hrc := fun w => compare112 hM ha.n ha.d hb.n hb.d w
  have hres := cfQ_rat ha hb
  obtain ⟨ak, an, ad, sa⟩ := a
  obtain ⟨bk, bn, bd, sb⟩ := b
  simp only at hrc hres
  rw [hres]
  generalize vcheck ⟨ak, an, ad, sa⟩ = ca at *
  generalize ratCmp an ad bn bd = RC at *
  generalize vcheck ⟨bk, bn, bd, sb⟩ = cb at *
  clear hres
  generalize hR : (if ca ≠ 0 ∨ cb ≠ 0 then (0 : Int) else if ak ≠ bk then Lib.compareInt ak bk else if ak = 1 then Lib.compareInt an bn else if ak = 2 then RC else Lib.compareBytes sa.data.toList sb.data.toList) = R
  have Hca := Lib.hid hca; have Hcb := Lib.hid hcb; have HR := Lib.hid hR; have HFa := Lib.hid hfa; have HFb := Lib.hid hfb; have HRC := Lib.hid hrc; clear hca hcb ha hb hR hfa hfb hrc
  have hp1 : (w.alloc (.cells #[.int .i64 ak, .int .i64 an, .int .i64 ad, .string sa] 60)).heap[w.heap.size]? = some (.cells #[.int .i64 ak, .int .i64 an, .int .i64 ad, .string sa] 60) := heap_alloc_at _ _ _ rfl
  have q1 : ((w.alloc (.cells #[.int .i64 ak, .int .i64 an, .int .i64 ad, .string sa] 60)).alloc (.cells #[.int .i64 bk, .int .i64 bn, .int .i64 bd, .string sb] 60)).heap[w.heap.size]? = some (.cells #[.int .i64 ak, .int .i64 an, .int .i64 ad, .string sa] 60 (0, 0)) := heap_alloc_some hp1 _
  have q2 : ((w.alloc (.cells #[.int .i64 ak, .int .i64 an, .int .i64 ad, .string sa] 60)).alloc (.cells #[.int .i64 bk, .int .i64 bn, .int .i64 bd, .string sb] 60)).heap[w.heap.size + 1]? = some (.cells #[.int .i64 bk, .int .i64 bn, .int .i64 bd, .string sb] 60 (0, 0)) := heap_alloc_at _ _ _ (by simp)
  have q3 : w.Gr ((w.alloc (.cells #[.int .i64 ak, .int .i64 an, .int .i64 ad, .string sa] 60)).alloc (.cells #[.int .i64 bk, .int .i64 bn, .int .i64 bd, .string sb] 60)) := ((World.Gr.refl w).alloc _).alloc _
  clear hp1
  go_enter Tryz.func89, Tryz.ntmps89
  go_upto_region 1 with (fail)
  generalize hW : World.alloc (World.alloc w _) _ = W at *
  clear hW
  obtain ⟨a0, a1, a2, a3, af⟩ := four q1
  obtain ⟨b0, b1, b2, b3, bf⟩ := four q2
  have Q1 := Lib.hid q1; have Q2 := Lib.hid q2; have Q3 := Lib.hid q3; clear q1 q2 q3
  by_cases hA : ca = 0
  · subst hA
    go_wp2_with fail
    refine (Hca.out _).mono ?_
    rintro e w1 ⟨rfl, hf1⟩
    clear a0 a1 a2 a3 af b0 b1 b2 b3 bf
    have q1 := hf1.fr.heap Q1.out (by simp)
    have q2 := hf1.fr.heap Q2.out (by simp)
    have q3 := Q3.out.trans hf1
    clear Q1 Q2 Q3 hf1
    obtain ⟨a0, a1, a2, a3, af⟩ := four q1
    obtain ⟨b0, b1, b2, b3, bf⟩ := four q2
    have Q1 := Lib.hid q1; have Q2 := Lib.hid q2; have Q3 := Lib.hid q3; clear q1 q2 q3
    go_wp2_with fail
    refine (Hcb.out _).mono ?_
    rintro e w2 ⟨rfl, hf2⟩
    clear a0 a1 a2 a3 af b0 b1 b2 b3 bf
    have q1 := hf2.fr.heap Q1.out (by simp)
    have q2 := hf2.fr.heap Q2.out (by simp)
    have q3 := Q3.out.trans hf2
    clear Q1 Q2 Q3 hf2
    obtain ⟨a0, a1, a2, a3, af⟩ := four q1
    obtain ⟨b0, b1, b2, b3, bf⟩ := four q2
    have Q1 := Lib.hid q1; have Q2 := Lib.hid q2; have Q3 := Lib.hid q3; clear q1 q2 q3
    by_cases hB : cb = 0
    · subst hB
      by_cases hk : ak = bk
      · subst hk
        have hkb : (ak == ak) = true := by simp
        have hkc : (ak != ak) = false := by simp
        by_cases h1 : ak = 1
        · subst h1
          go_wp2_with fail
          refine (cmp111 _ _ _).mono ?_
          rintro e w3 ⟨rfl, rfl⟩
          go_wp2
          go_ret
          exact ⟨by rw [← HR.out]; simp, Q3.out⟩
        · have h1b : (ak == 1) = false := beq_eq_false_iff_ne.2 h1
          have H1 := Lib.hid h1; clear h1
          by_cases h2 : ak = 2
          · subst h2
            clear h1b
            have hr : R = RC := by rw [← HR.out]; simp
            subst hr
            clear HR H1
            go_upto_region 8 with (fail)
            go_region_with (first | (go_at_call 110; with_reducible refine (HFa.out _).mono ?_; rintro x w6 ⟨rfl, g⟩; obtain ⟨c0, c1, c2, c3, cf⟩ := four (g.fr.heap (w := w2.drew) Q2.out (by simp)); have G6 := Lib.hid (Q3.out.drew.trans g); clear g) | (go_at_call 110; with_reducible refine (HFb.out _).mono ?_; rintro x w7 ⟨rfl, g⟩; have G7 := Lib.hid (G6.out.trans g); clear g) | (go_at_call 112; with_reducible refine (HRC.out _).mono ?_; rintro x w8 ⟨rfl, g⟩; have G8 := Lib.hid (G7.out.trans g); clear g))
            all_goals
              go_wp2
              go_ret
              exact ⟨rfl, G8.out⟩
          · have h2b : (ak == 2) = false := beq_eq_false_iff_ne.2 h2
            have H2 := Lib.hid h2; clear h2
            go_wp2_with fail
            refine (Tryz.strings_Compare _ _ _).mono ?_
            rintro e w3 ⟨rfl, rfl⟩
            go_wp2
            go_ret
            exact ⟨by rw [← HR.out]; simp [H1.out, H2.out], Q3.out⟩
      · have hkb : (ak == bk) = false := beq_eq_false_iff_ne.2 hk
        have hkc : (ak != bk) = true := by simp [hk]
        have Hk := Lib.hid hk; clear hk
        go_wp2_with fail
        refine (Tryz.cmp_Compare_int _ _ _).mono ?_
        rintro e w3 ⟨rfl, rfl⟩
        go_wp2
        go_ret
        exact ⟨by rw [← HR.out]; simp [Hk.out], Q3.out⟩
    · have hBb : (cb == 0) = false := beq_eq_false_iff_ne.2 hB
      have HB := Lib.hid hB; clear hB
      go_wp2
      go_ret
      exact ⟨by rw [← HR.out]; simp [HB.out], Q3.out⟩
  · have hAb : (ca == 0) = false := beq_eq_false_iff_ne.2 hA
    have HA := Lib.hid hA; clear hA
    go_wp2_with fail
    refine (Hca.out _).mono ?_
    rintro e w1 ⟨rfl, hf1⟩
    have q3 := Q3.out.trans hf1
    have Q3' := Lib.hid q3; clear q3 hf1 a0 a1 a2 a3 af b0 b1 b2 b3 bf
    go_wp2
    go_ret
    exact ⟨by rw [← HR.out]; simp [HA.out], Q3'.out⟩

theorem knownQ (hM : MulOk) : Known (fun v => v.wf) cfQ := ⟨fun v w hv => check88q v hv w, fun a b w ha hb => compare89q hM a b ha hb w⟩
theorem ordQ' : OrdOk (fun v => V.wf v ∧ vcheck v = 0) cfQ := ⟨fun a ha => ordQ.self a ha.2, fun a b ha hb h => ordQ.zero a b ha.2 hb.2 h, fun a b ha hb => ordQ.anti a b ha.2 hb.2, fun a b c ha hb hc h1 h2 => ordQ.trans a b c ha.2 hb.2 hc.2 h1 h2⟩
/-- the program's calls of values are known of all values that memory may hold -/
theorem ctxQ (hM : MulOk) : Ctx (fun v => v.wf) cfQ := ⟨knownQ hM, ordQ'⟩
end Go.Proofs.YtikodapgceokhaaGreat
