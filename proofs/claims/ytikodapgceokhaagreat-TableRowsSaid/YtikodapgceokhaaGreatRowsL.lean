/-
  The walk of the statement TableRows (live's contract as a hypothesis; joined later).
-/
import Derived.Test.YtikodapgceokhaaGreatGo1
namespace Go.Proofs.YtikodapgceokhaaGreat
open Go.RowKit

/-- what TableRows calls, plainly -/
theorem rows_plain {cf : V → V → Int} (hO : OrdOk okW cf) {a b : Tb} (ha : Good cf a) (hb : Good cf b) (h1 : a.rows.length * b.rows.length ≤ 20000) (h4 : a.rows.length ≤ 20000) (h5 : b.rows.length ≤ 20000) (row : Row) :
    ∃ Eu u m Ej j, unionT cf a b = (Eu, u) ∧ minusT cf a b = (Eu, m) ∧ (Eu = 30 ∨ Eu = 0 ∧ Fits V.wf u ∧ Fits V.wf m ∧ tcheck cf u = 0 ∧ tcheck cf m = 0 ∧ hasB u.rows row = (hasB a.rows row || hasB b.rows row) ∧ hasB m.rows row = (hasB a.rows row && !hasB b.rows row)) ∧
      joinT cf a b = (Ej, j) ∧ (Ej = 30 ∨ Ej = 0 ∧ Fits V.wf j ∧ Good cf j ∧ j.rows.length = (joinRows a b).length ∧ (joinRows a b).length ≤ 20000 ∧ ∀ r, r ∈ j.rows → (a.rows.any fun x => rowsFit j.vars r a.vars x) = true) := by
  have hset : ∃ Eu u m, unionT cf a b = (Eu, u) ∧ minusT cf a b = (Eu, m) ∧ (Eu = 30 ∨ Eu = 0 ∧ Fits V.wf u ∧ Fits V.wf m ∧ tcheck cf u = 0 ∧ tcheck cf m = 0 ∧ hasB u.rows row = (hasB a.rows row || hasB b.rows row) ∧ hasB m.rows row = (hasB a.rows row && !hasB b.rows row)) := by
    by_cases hv : a.vars = b.vars
    · obtain ⟨u, eu, gu, _, ru⟩ := unionT_like hO ha hb hv
      obtain ⟨m, em, _, gm, _, rm⟩ := minusT_like hO ha hb hv
      have wa : ∀ r, r ∈ a.rows → ∀ x, x ∈ r → V.wf x := fun r hr x hx => (ha.ok r hr x hx).1
      have hul : u.rows.length ≤ a.rows.length + b.rows.length := by
        classical
        rw [← List.length_append]
        exact nodup_le' _ _ (rows_nodup hO gu) fun r hr => List.mem_append.2 ((ru r).1 hr)
      have hml := sub_len hO gm (a := a) (fun r hr => ((rm r).1 hr).1)
      refine ⟨0, u, m, eu, em, .inr ⟨rfl, gu.fits (by omega), gm.fits (by omega), gu.check, gm.check, ?_, ?_⟩⟩
      · unfold hasB
        rw [Bool.eq_iff_iff]
        simp [ru]
      · unfold hasB
        rw [Bool.eq_iff_iff]
        simp [rm]
    · exact ⟨30, tNone, tNone, unionT_unlike ha hb hv, minusT_unlike ha hb hv, .inl rfl⟩
  obtain ⟨Eu, u, m, e1, e2, h⟩ := hset
  by_cases h8 : 8 < (allN a b).length
  · exact ⟨Eu, u, m, 30, tNone, e1, e2, h, by rw [joinT_good ha hb, if_pos h8], .inl rfl⟩
  · have gj := join_good ha hb hO (by omega)
    have c1 := join_count hO ha hb
    have c2 := joinRows_len a b
    exact ⟨Eu, u, m, 0, joinTab cf a b, e1, e2, h, by rw [joinT_good ha hb, if_neg h8], .inr ⟨rfl, gj.fits (by omega), gj, c1, by omega, fun r hr => join_some hO ha hb hr⟩⟩
theorem g_has {W : World} {v1 v2 : Value} {a : Tb} {row : Row} {B : Bool} (sa : Small a) (e : hasB a.rows row = B) (h1 : RdTab W v1 a) (h2 : RdRow W v2 row) : Calls Tryz.prog 21 #[v1, v2] W fun e x => e = .returned (.bool B) ∧ W.Fr x [] := by
  have := has21 h1 h2 sa; rw [e] at this; exact this

set_option maxRecDepth 100000 in
set_option maxHeartbeats 16000000 in
theorem rows13 {cf : V → V → Int} (live : ∀ w, Calls Tryz.prog 18 #[] w fun e w' => e = .returned (.bool true) ∧ w.Fr w' []) (hK : Ctx V.wf cf) {w : World} {v1 v2 v3 : Value} {a b : Tb} {row : Row} (h0 : RdTab w v1 a) (h1 : RdTab w v2 b) (h2 : RdRow w v3 row) (sa : Fit14 a) (sb : Fit14 b) :
    Calls Tryz.prog 13 #[v1, v2, v3] w fun e w' => e = .returned (.bool true) ∧ w.Fr w' [] := by
  have fa : Fits V.wf a := ⟨sa.small, sa.rows, h0.wf⟩
  have fb : Fits V.wf b := ⟨sb.small, sb.rows, h1.wf⟩
  obtain ⟨o1, o2, rfl, _, _⟩ := h2.rd.shape
  generalize hol : row.length = ol at *
  obtain ⟨x0, y0, hs0, rfl, hv0, hr0⟩ := h0.ex
  obtain ⟨a1, a2, rfl, _, _⟩ := hv0.rd.shape
  obtain ⟨a3, a4, rfl, _, _⟩ := hr0.rd.shape
  have hlen0 := hr0.len
  rw [hlen0] at h0 ⊢
  clear hv0 hr0 hlen0
  obtain ⟨x1, y1, hs1, rfl, hv1, hr1⟩ := h1.ex
  obtain ⟨b1, b2, rfl, _, _⟩ := hv1.rd.shape
  obtain ⟨b3, b4, rfl, _, _⟩ := hr1.rd.shape
  have hlen1 := hr1.len
  rw [hlen1] at h1 ⊢
  clear hv1 hr1 hlen1
  have qa := heap_alloc_some (heap_alloc_at w (.cells #[.slice a1 a.vars.length a2, .slice a3 a.rows.length a4] 25) _ rfl) (.cells #[.slice b1 b.vars.length b2, .slice b3 b.rows.length b4] 25)
  have qb := heap_alloc_at (w.alloc (.cells #[.slice a1 a.vars.length a2, .slice a3 a.rows.length a4] 25)) (.cells #[.slice b1 b.vars.length b2, .slice b3 b.rows.length b4] 25) (w.heap.size + 1) (by simp)
  have f := ((World.Fr.refl w []).alloc (.cells #[.slice a1 a.vars.length a2, .slice a3 a.rows.length a4] 25)).alloc (.cells #[.slice b1 b.vars.length b2, .slice b3 b.rows.length b4] 25)
  have ra := h0.still f
  have rb := h1.still f
  have HK := Lib.hid hK; have Fa := Lib.hid fa; have Fb := Lib.hid fb; have Hlive := Lib.hid live; have Hrow := Lib.hid h2
  clear h0 h1 h2 sa sb fa fb hK live hol
  go_enter Tryz.func13, Tryz.ntmps13
  go_upto_region 1 with (fail)
  generalize hW : World.alloc (World.alloc w _) _ = W at *
  clear hW
  generalize w.heap.size = pa at *
  have Qa := Lib.hid qa; have Qb := Lib.hid qb; have F := Lib.hid f; have Ra := Lib.hid ra; have Rb := Lib.hid rb
  clear qa qb f ra rb
  have k := Lib.hid (light_two (W := W) (x1 := a1) (x2 := a3) (n1 := a.vars.length) (n2 := a.rows.length) (c1 := a2) (c2 := a4) (y1 := b1) (y2 := b3) (m1 := b.vars.length) (m2 := b.rows.length) (d1 := b2) (d2 := b4) Fa.out.rows Fb.out.rows)
  obtain ⟨g00, g01, g0f⟩ := two Qa.out
  have hz0 := lt_of_heap Qa.out
  obtain ⟨g10, g11, g1f⟩ := two Qb.out
  have hz1 := lt_of_heap Qb.out
  go_wp2_with fail
  (with_reducible refine k.out.mono ?_)
  rintro e w1 ⟨rfl, fx⟩
  clear k g00 g01 g0f hz0 g10 g11 g1f hz1
  have Qa := Lib.hid (fx.heap Qa.out (by simp))
  have Ra := Lib.hid (Ra.out.still fx)
  have Qb := Lib.hid (fx.heap Qb.out (by simp))
  have Rb := Lib.hid (Rb.out.still fx)
  have F := Lib.hid (F.out.trans fx (by simp))
  clear fx
  cases hL : lightF 1 [a.rows.length, b.rows.length] with
  | false =>
    have k := Lib.hid (Hlive.out w1)
    go_wp2_with fail
    (with_reducible refine k.out.mono ?_)
    rintro e w2 ⟨rfl, fx⟩
    clear k 
    have Qa := Lib.hid (fx.heap Qa.out (by simp))
    have Ra := Lib.hid (Ra.out.still fx)
    have Qb := Lib.hid (fx.heap Qb.out (by simp))
    have Rb := Lib.hid (Rb.out.still fx)
    have F := Lib.hid (F.out.trans fx (by simp))
    clear fx
    go_wp2
    go_ret
    exact ⟨rfl, F.out⟩
  | true =>
    have Hm := Lib.hid (light2b hL)
    clear hL
    obtain ⟨ta, hta⟩ : ∃ z, tcheck cf a = z := ⟨_, rfl⟩
    have Hta := Lib.hid hta
    clear hta
    have k := Lib.hid (g_check HK.out Fa.out Hta.out Ra.out)
    obtain ⟨g00, g01, g0f⟩ := two Qa.out
    have hz0 := lt_of_heap Qa.out
    go_wp2_with fail
    (with_reducible refine k.out.mono ?_)
    rintro e w2 ⟨rfl, fx⟩
    clear k g00 g01 g0f hz0
    have Qa := Lib.hid (fx.heap Qa.out (by simp))
    have Ra := Lib.hid (Ra.out.still fx)
    have Qb := Lib.hid (fx.heap Qb.out (by simp))
    have Rb := Lib.hid (Rb.out.still fx)
    have F := Lib.hid (F.out.trans fx (by simp))
    clear fx
    by_cases ha0 : ta = 0
    · subst ha0
      obtain ⟨tb, htb⟩ : ∃ z, tcheck cf b = z := ⟨_, rfl⟩
      have Htb := Lib.hid htb
      clear htb
      have k := Lib.hid (g_check HK.out Fb.out Htb.out Rb.out)
      obtain ⟨g00, g01, g0f⟩ := two Qb.out
      have hz0 := lt_of_heap Qb.out
      go_wp2_with fail
      (with_reducible refine k.out.mono ?_)
      rintro e w3 ⟨rfl, fx⟩
      clear k g00 g01 g0f hz0
      have Qa := Lib.hid (fx.heap Qa.out (by simp))
      have Ra := Lib.hid (Ra.out.still fx)
      have Qb := Lib.hid (fx.heap Qb.out (by simp))
      have Rb := Lib.hid (Rb.out.still fx)
      have F := Lib.hid (F.out.trans fx (by simp))
      clear fx
      by_cases hb0 : tb = 0
      · subst hb0
        have ga := good_of HK.out.ord Hta.out Fa.out.ok
        have gb := good_of HK.out.ord Htb.out Fb.out.ok
        obtain ⟨Eu, u, m, Ej, j, hu, hm, hE, hj, hJ⟩ := rows_plain HK.out.ord ga gb Hm.out.1 Hm.out.2.1 Hm.out.2.2 row
        obtain ⟨I, hI⟩ : ∃ I, hasB a.rows row = I := ⟨_, rfl⟩
        obtain ⟨O, hO⟩ : ∃ O, hasB b.rows row = O := ⟨_, rfl⟩
        rw [hI, hO] at hE
        have Ga := Lib.hid ga; have Gb := Lib.hid gb; have Hu := Lib.hid hu; have Hmm := Lib.hid hm; have HE := Lib.hid hE; have Hj := Lib.hid hj; have HJ := Lib.hid hJ; have HI := Lib.hid hI; have HO := Lib.hid hO
        clear ga gb hu hm hE hj hJ hI hO
        have k := Lib.hid (g_has Fa.out.small HI.out Ra.out (Hrow.out.fr F.out (by simp)))
        obtain ⟨g00, g01, g0f⟩ := two Qa.out
        have hz0 := lt_of_heap Qa.out
        go_wp2_with fail
        (with_reducible refine k.out.mono ?_)
        rintro e w4 ⟨rfl, fx⟩
        clear k g00 g01 g0f hz0
        have Qa := Lib.hid (fx.heap Qa.out (by simp))
        have Ra := Lib.hid (Ra.out.still fx)
        have Qb := Lib.hid (fx.heap Qb.out (by simp))
        have Rb := Lib.hid (Rb.out.still fx)
        have F := Lib.hid (F.out.trans fx (by simp))
        clear fx
        have k := Lib.hid (g_has Fb.out.small HO.out Rb.out (Hrow.out.fr F.out (by simp)))
        obtain ⟨g00, g01, g0f⟩ := two Qb.out
        have hz0 := lt_of_heap Qb.out
        go_wp2_with fail
        (with_reducible refine k.out.mono ?_)
        rintro e w5 ⟨rfl, fx⟩
        clear k g00 g01 g0f hz0
        have Qa := Lib.hid (fx.heap Qa.out (by simp))
        have Ra := Lib.hid (Ra.out.still fx)
        have Qb := Lib.hid (fx.heap Qb.out (by simp))
        have Rb := Lib.hid (Rb.out.still fx)
        have F := Lib.hid (F.out.trans fx (by simp))
        clear fx
        have k := Lib.hid (g_union HK.out Fa.out Fb.out (by have := Hm.out.2.1; have := Hm.out.2.2; omega) Hu.out Ra.out Rb.out)
        obtain ⟨g00, g01, g0f⟩ := two Qa.out
        have hz0 := lt_of_heap Qa.out
        obtain ⟨g10, g11, g1f⟩ := two Qb.out
        have hz1 := lt_of_heap Qb.out
        go_wp2_with fail
        (with_reducible refine k.out.mono ?_)
        rintro e w6 ⟨u, rfl, ho⟩
        obtain ⟨t8a, t8b, t8c, t8d, rfl⟩ := ho.shape
        clear k g00 g01 g0f hz0 g10 g11 g1f hz1
        have Qa := Lib.hid (heap_alloc_some (ho.fr.heap Qa.out (by simp)) (.cells #[.slice t8a u.vars.length t8b, .slice t8c u.rows.length t8d] 25))
        have Ra := Lib.hid (Ra.out.still (ho.fr.alloc (.cells #[.slice t8a u.vars.length t8b, .slice t8c u.rows.length t8d] 25)))
        have Qb := Lib.hid (heap_alloc_some (ho.fr.heap Qb.out (by simp)) (.cells #[.slice t8a u.vars.length t8b, .slice t8c u.rows.length t8d] 25))
        have Rb := Lib.hid (Rb.out.still (ho.fr.alloc (.cells #[.slice t8a u.vars.length t8b, .slice t8c u.rows.length t8d] 25)))
        have F := Lib.hid (F.out.trans (ho.fr.alloc (.cells #[.slice t8a u.vars.length t8b, .slice t8c u.rows.length t8d] 25)) (by simp))
        have Qu := Lib.hid (heap_alloc_at w6 (.cells #[.slice t8a u.vars.length t8b, .slice t8c u.rows.length t8d] 25) _ rfl)
        have Ru := Lib.hid (ho.on ((World.Fr.refl w6 []).alloc (.cells #[.slice t8a u.vars.length t8b, .slice t8c u.rows.length t8d] 25))).rd
        clear ho
        go_upto_region 6 with (fail)
        generalize hW : World.alloc w6 _ = W7 at *
        clear hW
        generalize w6.heap.size = pu at *
        have k := Lib.hid (g_minus HK.out Fa.out Fb.out Hmm.out Ra.out Rb.out)
        obtain ⟨g00, g01, g0f⟩ := two Qa.out
        have hz0 := lt_of_heap Qa.out
        obtain ⟨g10, g11, g1f⟩ := two Qb.out
        have hz1 := lt_of_heap Qb.out
        go_wp2_with fail
        (with_reducible refine k.out.mono ?_)
        rintro e w9 ⟨u, rfl, ho⟩
        obtain ⟨t11a, t11b, t11c, t11d, rfl⟩ := ho.shape
        clear k g00 g01 g0f hz0 g10 g11 g1f hz1
        have Qa := Lib.hid (heap_alloc_some (ho.fr.heap Qa.out (by simp)) (.cells #[.slice t11a m.vars.length t11b, .slice t11c m.rows.length t11d] 25))
        have Ra := Lib.hid (Ra.out.still (ho.fr.alloc (.cells #[.slice t11a m.vars.length t11b, .slice t11c m.rows.length t11d] 25)))
        have Qb := Lib.hid (heap_alloc_some (ho.fr.heap Qb.out (by simp)) (.cells #[.slice t11a m.vars.length t11b, .slice t11c m.rows.length t11d] 25))
        have Rb := Lib.hid (Rb.out.still (ho.fr.alloc (.cells #[.slice t11a m.vars.length t11b, .slice t11c m.rows.length t11d] 25)))
        have Qu := Lib.hid (heap_alloc_some (ho.fr.heap Qu.out (by simp)) (.cells #[.slice t11a m.vars.length t11b, .slice t11c m.rows.length t11d] 25))
        have Ru := Lib.hid (Ru.out.still (ho.fr.alloc (.cells #[.slice t11a m.vars.length t11b, .slice t11c m.rows.length t11d] 25)))
        have F := Lib.hid (F.out.trans (ho.fr.alloc (.cells #[.slice t11a m.vars.length t11b, .slice t11c m.rows.length t11d] 25)) (by simp))
        have Qm := Lib.hid (heap_alloc_at w9 (.cells #[.slice t11a m.vars.length t11b, .slice t11c m.rows.length t11d] 25) _ rfl)
        have Rm := Lib.hid (ho.on ((World.Fr.refl w9 []).alloc (.cells #[.slice t11a m.vars.length t11b, .slice t11c m.rows.length t11d] 25))).rd
        clear ho
        go_upto_region 7 with (fail)
        generalize hW : World.alloc w9 _ = W10 at *
        clear hW
        generalize w9.heap.size = pm at *
        have hee : (Eu != Eu) = false := by simp
        have hef : (Eu == Eu) = true := by simp
        go_upto_region 9 with (fail)
        go_cut [90] (fun c wx => c = .bool false ∧ Hid (W10.Fr wx []))
        case first =>
          clear hee hef
          rcases HE.out with rfl | ⟨rfl, fu, fm, eu, em, hu, hm⟩
          · go_wp2_with fail
            go_meet
            case rel => exact ⟨rfl, Lib.hid (World.Fr.refl W10 [])⟩
          · have Fu := Lib.hid fu; have Fm := Lib.hid fm; have Eu0 := Lib.hid eu; have Em0 := Lib.hid em; have Hu0 := Lib.hid hu; have Hm0 := Lib.hid hm
            clear fu fm eu em hu hm HE
            have F0 := Lib.hid (World.Fr.refl W10 [])
            have k := Lib.hid (g_check HK.out Fu.out Eu0.out Ru.out)
            obtain ⟨g00, g01, g0f⟩ := two Qu.out
            have hz0 := lt_of_heap Qu.out
            go_wp2_with fail
            (with_reducible refine k.out.mono ?_)
            rintro e w12 ⟨rfl, fx⟩
            clear k g00 g01 g0f hz0
            have Qa := Lib.hid (fx.heap Qa.out (by simp))
            have Ra := Lib.hid (Ra.out.still fx)
            have Qb := Lib.hid (fx.heap Qb.out (by simp))
            have Rb := Lib.hid (Rb.out.still fx)
            have Qu := Lib.hid (fx.heap Qu.out (by simp))
            have Ru := Lib.hid (Ru.out.still fx)
            have Qm := Lib.hid (fx.heap Qm.out (by simp))
            have Rm := Lib.hid (Rm.out.still fx)
            have F := Lib.hid (F.out.trans fx (by simp))
            have F0 := Lib.hid (F0.out.trans fx (by simp))
            clear fx
            have k := Lib.hid (g_check HK.out Fm.out Em0.out Rm.out)
            obtain ⟨g00, g01, g0f⟩ := two Qm.out
            have hz0 := lt_of_heap Qm.out
            go_wp2_with fail
            (with_reducible refine k.out.mono ?_)
            rintro e w13 ⟨rfl, fx⟩
            clear k g00 g01 g0f hz0
            have Qa := Lib.hid (fx.heap Qa.out (by simp))
            have Ra := Lib.hid (Ra.out.still fx)
            have Qb := Lib.hid (fx.heap Qb.out (by simp))
            have Rb := Lib.hid (Rb.out.still fx)
            have Qu := Lib.hid (fx.heap Qu.out (by simp))
            have Ru := Lib.hid (Ru.out.still fx)
            have Qm := Lib.hid (fx.heap Qm.out (by simp))
            have Rm := Lib.hid (Rm.out.still fx)
            have F := Lib.hid (F.out.trans fx (by simp))
            have F0 := Lib.hid (F0.out.trans fx (by simp))
            clear fx
            have k := Lib.hid (g_has Fu.out.small Hu0.out Ru.out (Hrow.out.fr F.out (by simp)))
            obtain ⟨g00, g01, g0f⟩ := two Qu.out
            have hz0 := lt_of_heap Qu.out
            go_wp2_with fail
            (with_reducible refine k.out.mono ?_)
            rintro e w14 ⟨rfl, fx⟩
            clear k g00 g01 g0f hz0
            have Qa := Lib.hid (fx.heap Qa.out (by simp))
            have Ra := Lib.hid (Ra.out.still fx)
            have Qb := Lib.hid (fx.heap Qb.out (by simp))
            have Rb := Lib.hid (Rb.out.still fx)
            have Qu := Lib.hid (fx.heap Qu.out (by simp))
            have Ru := Lib.hid (Ru.out.still fx)
            have Qm := Lib.hid (fx.heap Qm.out (by simp))
            have Rm := Lib.hid (Rm.out.still fx)
            have F := Lib.hid (F.out.trans fx (by simp))
            have F0 := Lib.hid (F0.out.trans fx (by simp))
            clear fx
            cases I with
            | false =>
              cases O with
              | false =>
                have k := Lib.hid (g_has Fm.out.small Hm0.out Rm.out (Hrow.out.fr F.out (by simp)))
                obtain ⟨g00, g01, g0f⟩ := two Qm.out
                have hz0 := lt_of_heap Qm.out
                go_wp2_with fail
                (with_reducible refine k.out.mono ?_)
                rintro e w15 ⟨rfl, fx⟩
                clear k g00 g01 g0f hz0
                have Qa := Lib.hid (fx.heap Qa.out (by simp))
                have Ra := Lib.hid (Ra.out.still fx)
                have Qb := Lib.hid (fx.heap Qb.out (by simp))
                have Rb := Lib.hid (Rb.out.still fx)
                have Qu := Lib.hid (fx.heap Qu.out (by simp))
                have Ru := Lib.hid (Ru.out.still fx)
                have Qm := Lib.hid (fx.heap Qm.out (by simp))
                have Rm := Lib.hid (Rm.out.still fx)
                have F := Lib.hid (F.out.trans fx (by simp))
                have F0 := Lib.hid (F0.out.trans fx (by simp))
                clear fx
                go_wp2_with fail
                go_meet
                case rel => exact ⟨rfl, F0⟩
              | true =>
                have k := Lib.hid (g_has Fm.out.small Hm0.out Rm.out (Hrow.out.fr F.out (by simp)))
                obtain ⟨g00, g01, g0f⟩ := two Qm.out
                have hz0 := lt_of_heap Qm.out
                go_wp2_with fail
                (with_reducible refine k.out.mono ?_)
                rintro e w15 ⟨rfl, fx⟩
                clear k g00 g01 g0f hz0
                have Qa := Lib.hid (fx.heap Qa.out (by simp))
                have Ra := Lib.hid (Ra.out.still fx)
                have Qb := Lib.hid (fx.heap Qb.out (by simp))
                have Rb := Lib.hid (Rb.out.still fx)
                have Qu := Lib.hid (fx.heap Qu.out (by simp))
                have Ru := Lib.hid (Ru.out.still fx)
                have Qm := Lib.hid (fx.heap Qm.out (by simp))
                have Rm := Lib.hid (Rm.out.still fx)
                have F := Lib.hid (F.out.trans fx (by simp))
                have F0 := Lib.hid (F0.out.trans fx (by simp))
                clear fx
                go_wp2_with fail
                go_meet
                case rel => exact ⟨rfl, F0⟩
            | true =>
              cases O with
              | false =>
                have k := Lib.hid (g_has Fm.out.small Hm0.out Rm.out (Hrow.out.fr F.out (by simp)))
                obtain ⟨g00, g01, g0f⟩ := two Qm.out
                have hz0 := lt_of_heap Qm.out
                go_wp2_with fail
                (with_reducible refine k.out.mono ?_)
                rintro e w15 ⟨rfl, fx⟩
                clear k g00 g01 g0f hz0
                have Qa := Lib.hid (fx.heap Qa.out (by simp))
                have Ra := Lib.hid (Ra.out.still fx)
                have Qb := Lib.hid (fx.heap Qb.out (by simp))
                have Rb := Lib.hid (Rb.out.still fx)
                have Qu := Lib.hid (fx.heap Qu.out (by simp))
                have Ru := Lib.hid (Ru.out.still fx)
                have Qm := Lib.hid (fx.heap Qm.out (by simp))
                have Rm := Lib.hid (Rm.out.still fx)
                have F := Lib.hid (F.out.trans fx (by simp))
                have F0 := Lib.hid (F0.out.trans fx (by simp))
                clear fx
                go_wp2_with fail
                go_meet
                case rel => exact ⟨rfl, F0⟩
              | true =>
                have k := Lib.hid (g_has Fm.out.small Hm0.out Rm.out (Hrow.out.fr F.out (by simp)))
                obtain ⟨g00, g01, g0f⟩ := two Qm.out
                have hz0 := lt_of_heap Qm.out
                go_wp2_with fail
                (with_reducible refine k.out.mono ?_)
                rintro e w15 ⟨rfl, fx⟩
                clear k g00 g01 g0f hz0
                have Qa := Lib.hid (fx.heap Qa.out (by simp))
                have Ra := Lib.hid (Ra.out.still fx)
                have Qb := Lib.hid (fx.heap Qb.out (by simp))
                have Rb := Lib.hid (Rb.out.still fx)
                have Qu := Lib.hid (fx.heap Qu.out (by simp))
                have Ru := Lib.hid (Ru.out.still fx)
                have Qm := Lib.hid (fx.heap Qm.out (by simp))
                have Rm := Lib.hid (Rm.out.still fx)
                have F := Lib.hid (F.out.trans fx (by simp))
                have F0 := Lib.hid (F0.out.trans fx (by simp))
                clear fx
                go_wp2_with fail
                go_meet
                case rel => exact ⟨rfl, F0⟩
        case rest =>
          obtain ⟨rfl, hcc⟩ := hcut
          have fx := hcc.out
          clear hcc hee hef HE HI HO
          have Qa := Lib.hid (fx.heap Qa.out (by simp))
          have Ra := Lib.hid (Ra.out.still fx)
          have Qb := Lib.hid (fx.heap Qb.out (by simp))
          have Rb := Lib.hid (Rb.out.still fx)
          have Qu := Lib.hid (fx.heap Qu.out (by simp))
          have Ru := Lib.hid (Ru.out.still fx)
          have Qm := Lib.hid (fx.heap Qm.out (by simp))
          have Rm := Lib.hid (Rm.out.still fx)
          have F := Lib.hid (F.out.trans fx (by simp))
          clear fx
          have k := Lib.hid (g_join HK.out Fa.out Fb.out (by have := Hm.out.1; omega) Hj.out Ra.out Rb.out)
          obtain ⟨g00, g01, g0f⟩ := two Qa.out
          have hz0 := lt_of_heap Qa.out
          obtain ⟨g10, g11, g1f⟩ := two Qb.out
          have hz1 := lt_of_heap Qb.out
          go_wp2_with fail
          (with_reducible refine k.out.mono ?_)
          rintro e w12 ⟨u, rfl, ho⟩
          obtain ⟨t14a, t14b, t14c, t14d, rfl⟩ := ho.shape
          clear k g00 g01 g0f hz0 g10 g11 g1f hz1
          have Qa := Lib.hid (heap_alloc_some (ho.fr.heap Qa.out (by simp)) (.cells #[.slice t14a j.vars.length t14b, .slice t14c j.rows.length t14d] 25))
          have Ra := Lib.hid (Ra.out.still (ho.fr.alloc (.cells #[.slice t14a j.vars.length t14b, .slice t14c j.rows.length t14d] 25)))
          have Qb := Lib.hid (heap_alloc_some (ho.fr.heap Qb.out (by simp)) (.cells #[.slice t14a j.vars.length t14b, .slice t14c j.rows.length t14d] 25))
          have Rb := Lib.hid (Rb.out.still (ho.fr.alloc (.cells #[.slice t14a j.vars.length t14b, .slice t14c j.rows.length t14d] 25)))
          have Qu := Lib.hid (heap_alloc_some (ho.fr.heap Qu.out (by simp)) (.cells #[.slice t14a j.vars.length t14b, .slice t14c j.rows.length t14d] 25))
          have Ru := Lib.hid (Ru.out.still (ho.fr.alloc (.cells #[.slice t14a j.vars.length t14b, .slice t14c j.rows.length t14d] 25)))
          have Qm := Lib.hid (heap_alloc_some (ho.fr.heap Qm.out (by simp)) (.cells #[.slice t14a j.vars.length t14b, .slice t14c j.rows.length t14d] 25))
          have Rm := Lib.hid (Rm.out.still (ho.fr.alloc (.cells #[.slice t14a j.vars.length t14b, .slice t14c j.rows.length t14d] 25)))
          have F := Lib.hid (F.out.trans (ho.fr.alloc (.cells #[.slice t14a j.vars.length t14b, .slice t14c j.rows.length t14d] 25)) (by simp))
          have Qj := Lib.hid (heap_alloc_at w12 (.cells #[.slice t14a j.vars.length t14b, .slice t14c j.rows.length t14d] 25) _ rfl)
          have Rj := Lib.hid (ho.on ((World.Fr.refl w12 []).alloc (.cells #[.slice t14a j.vars.length t14b, .slice t14c j.rows.length t14d] 25))).rd
          clear ho
          go_upto_region 12 with (fail)
          generalize hW : World.alloc w12 _ = W13 at *
          clear hW
          generalize w12.heap.size = pj at *
          rcases HJ.out with rfl | ⟨rfl, fj, gj, cj, cl, hs⟩
          · have k := Lib.hid (Hlive.out W13)
            go_wp2_with fail
            (with_reducible refine k.out.mono ?_)
            rintro e w15 ⟨rfl, fx⟩
            clear k 
            have Qa := Lib.hid (fx.heap Qa.out (by simp))
            have Ra := Lib.hid (Ra.out.still fx)
            have Qb := Lib.hid (fx.heap Qb.out (by simp))
            have Rb := Lib.hid (Rb.out.still fx)
            have Qu := Lib.hid (fx.heap Qu.out (by simp))
            have Ru := Lib.hid (Ru.out.still fx)
            have Qm := Lib.hid (fx.heap Qm.out (by simp))
            have Rm := Lib.hid (Rm.out.still fx)
            have Qj := Lib.hid (fx.heap Qj.out (by simp))
            have Rj := Lib.hid (Rj.out.still fx)
            have F := Lib.hid (F.out.trans fx (by simp))
            clear fx
            go_wp2
            go_ret
            exact ⟨rfl, F.out⟩
          · have Fj := Lib.hid fj; have Gj := Lib.hid gj; have Cj := Lib.hid cj; have Cl := Lib.hid cl; have Hs := Lib.hid hs; have Ej0 := Lib.hid gj.check
            clear fj gj cj cl hs HJ
            have k := Lib.hid (g_check HK.out Fj.out Ej0.out Rj.out)
            obtain ⟨g00, g01, g0f⟩ := two Qj.out
            have hz0 := lt_of_heap Qj.out
            go_wp2_with fail
            (with_reducible refine k.out.mono ?_)
            rintro e w15 ⟨rfl, fx⟩
            clear k g00 g01 g0f hz0
            have Qa := Lib.hid (fx.heap Qa.out (by simp))
            have Ra := Lib.hid (Ra.out.still fx)
            have Qb := Lib.hid (fx.heap Qb.out (by simp))
            have Rb := Lib.hid (Rb.out.still fx)
            have Qu := Lib.hid (fx.heap Qu.out (by simp))
            have Ru := Lib.hid (Ru.out.still fx)
            have Qm := Lib.hid (fx.heap Qm.out (by simp))
            have Rm := Lib.hid (Rm.out.still fx)
            have Qj := Lib.hid (fx.heap Qj.out (by simp))
            have Rj := Lib.hid (Rj.out.still fx)
            have F := Lib.hid (F.out.trans fx (by simp))
            clear fx
            obtain ⟨_, _, hsa, he, rva, rra⟩ := Ra.out.ex
            cases he
            obtain ⟨_, _, hsb, he, rvb, rrb⟩ := Rb.out.ex
            cases he
            obtain ⟨_, _, hsj, he, rvj, rrj⟩ := Rj.out.ex
            cases he
            have Rva := Lib.hid rva; have Rra := Lib.hid rra; have Rvb := Lib.hid rvb; have Rrb := Lib.hid rrb; have Rvj := Lib.hid rvj; have Rrj := Lib.hid rrj
            clear rva rra rvb rrb rvj rrj
            have FF0 : Hid (w15.Fr w15 []) := Lib.hid (World.Fr.refl w15 [])
            have HN0 : Hid ((joinL a b (a.rows.take 0)).length = 0) := Lib.hid (by simp [joinL])
            obtain ⟨u00, u01, u0f⟩ := two Qa.out
            go_wp2
            clear u00 u01 u0f
            go_loopw [15, 16] (fun m i wr => ∃ (p n : Nat), i = .int .i64 p ∧ m = .int .i64 n ∧ p ≤ a.rows.length ∧ Hid ((joinL a b (a.rows.take p)).length = n) ∧ Hid (w15.Fr wr [])) (fun _ i _ => (a.rows.length - intOf i).toNat)
            case atStart => exact ⟨0, 0, rfl, rfl, Nat.zero_le _, HN0, FF0⟩
            case round =>
              obtain ⟨p, n, rfl, rfl, hp, HN, FF⟩ := hrel
              clear HN0 FF0
              obtain ⟨m0, m1, mf⟩ := two (FF.out.heap Qa.out (by simp))
              by_cases hlt : p < a.rows.length
              · obtain ⟨r, hr⟩ : ∃ r, a.rows[p]? = some r := ⟨a.rows[p], List.getElem?_eq_getElem hlt⟩
                have hjI : (p : Int) < (a.rows.length : Int) := by omega
                have hw1 : IntKind.i64.wrap ((p : Int) + 1) = (p : Int) + 1 := IntWalk.i64_in _ (by have := Hm.out.2.1; omega)
                have hnn : (0 : Int) ≤ (p : Int) := by omega
                have htk : (joinL a b (a.rows.take (p + 1))).length = n + (b.rows.filter fun y => rowsFit a.vars r b.vars y).length := by
                  rw [List.take_succ_eq_append_getElem hlt, (List.getElem?_eq_some_iff.1 hr).2, joinL_snoc, List.length_append, List.length_map, HN.out]
                have hrl := Ga.out.row r (List.mem_of_getElem? hr)
                have hbn : n ≤ 20000 := by
                  have e1 := joinL_len a b (a.rows.take p)
                  have e2 : (a.rows.take p).length * b.rows.length ≤ a.rows.length * b.rows.length := Nat.mul_le_mul_right _ (by rw [List.length_take]; omega)
                  have := HN.out; have := Hm.out.1; omega
                have Htk := Lib.hid htk; have Hrl := Lib.hid hrl; have Hr := Lib.hid hr; have Hbn := Lib.hid hbn
                clear htk hrl hr hbn HN
                have HQ0 : Hid (n = n + ((b.rows.take 0).filter fun y => rowsFit a.vars r b.vars y).length) := Lib.hid (by simp)
                obtain ⟨wQ, rfl⟩ : ∃ wQ : World, wQ = wr := ⟨_, rfl⟩
                go_wp2
                go_loopw [15, 17] (fun m i wr => ∃ (q z : Nat), i = .int .i64 q ∧ m = .int .i64 z ∧ q ≤ b.rows.length ∧ Hid (z = n + ((b.rows.take q).filter fun y => rowsFit a.vars r b.vars y).length) ∧ Hid (w15.Fr wr [])) (fun _ i _ => (b.rows.length - intOf i).toNat)
                case atStart => exact ⟨0, n, rfl, rfl, Nat.zero_le _, HQ0, FF⟩
                case round =>
                  obtain ⟨q, z, rfl, rfl, hq, HZ, FG⟩ := hrel
                  clear HQ0 m0 m1 mf
                  obtain ⟨m0, m1, mf⟩ := two (FG.out.heap Qa.out (by simp))
                  obtain ⟨n0, n1, nf⟩ := two (FG.out.heap Qb.out (by simp))
                  by_cases hqb : q < b.rows.length
                  · obtain ⟨y, hy⟩ : ∃ y, b.rows[q]? = some y := ⟨b.rows[q], List.getElem?_eq_getElem hqb⟩
                    obtain ⟨g, off, c, ax, mx, hv, hg, kx, hrow0⟩ := Rra.out.at2 FG.out Hr.out
                    cases hv
                    obtain ⟨g2, off2, c2, ay, my, hv2, hg2, ky, hrow2⟩ := Rrb.out.at2 FG.out hy
                    cases hv2
                    have hqI : (q : Int) < (b.rows.length : Int) := by omega
                    have hw2 : IntKind.i64.wrap ((q : Int) + 1) = (q : Int) + 1 := IntWalk.i64_in _ (by have := Hm.out.2.2; omega)
                    have hqn : (0 : Int) ≤ (q : Int) := by omega
                    have hyl := Gb.out.row y (List.mem_of_getElem? hy)
                    have hst : ((b.rows.take (q + 1)).filter fun y => rowsFit a.vars r b.vars y).length = ((b.rows.take q).filter fun y => rowsFit a.vars r b.vars y).length + (if rowsFit a.vars r b.vars y = true then 1 else 0) := by
                      rw [List.take_succ_eq_append_getElem hqb, (List.getElem?_eq_some_iff.1 hy).2, List.filter_append, List.length_append, List.filter_cons]
                      split <;> simp
                    have hzb : z ≤ 40000 := by
                      have e1 := List.length_filter_le (fun y => rowsFit a.vars r b.vars y) (b.rows.take q)
                      rw [List.length_take] at e1
                      have := HZ.out; have := Hbn.out; have := Hm.out.2.2; omega
                    have hw3 : IntKind.i64.wrap ((z : Int) + 1) = (z : Int) + 1 := IntWalk.i64_in _ (by omega)
                    have hc := fun w' (hf : wr.Fr w' []) => rfits46 (w := w') ((Rva.out.fr FG.out (by simp)).fr hf (by simp)) ((hrow0.fr FG.out (by simp)).fr hf (by simp)) ((Rvb.out.fr FG.out (by simp)).fr hf (by simp)) ((hrow2.fr FG.out (by simp)).fr hf (by simp)) Ga.out.nd Hrl.out hyl (by have := Ga.out.len; omega) (by have := Gb.out.len; omega)
                    have Hc := Lib.hid hc; have Hst := Lib.hid hst; have Hzb := Lib.hid hzb
                    clear hc hst hzb hyl hrow0 hrow2 hy
                    go_wp2
                    go_still_tail 14, (by kernel_rfl)
                    change wpList _ _ _ _ _ wr.drew
                    go_wp2_with fail
                    (with_reducible refine (Hc.out _ ((World.Fr.refl wr []).drew)).mono ?_)
                    rintro e w5 ⟨rfl, hf5⟩
                    have FH := Lib.hid (FG.out.trans (((World.Fr.refl wr []).drew).trans hf5 (by simp)) (by simp))
                    clear hf5 kx ky hg hg2 m0 m1 mf n0 n1 nf Hc
                    cases hF : rowsFit a.vars r b.vars y with
                    | false =>
                      have hs := Hst.out
                      rw [hF] at hs
                      have HZ2 : Hid (z = n + ((b.rows.take (q + 1)).filter fun y => rowsFit a.vars r b.vars y).length) := Lib.hid (by rw [hs]; exact HZ.out)
                      clear hs hF
                      go_wp2
                      go_roundw
                      case rel => exact ⟨q + 1, z, by go_num, rfl, by omega, HZ2, FH⟩
                      case measure => simp [intOf]; omega
                    | true =>
                      have hs := Hst.out
                      rw [hF] at hs
                      have HZ2 : Hid (z + 1 = n + ((b.rows.take (q + 1)).filter fun y => rowsFit a.vars r b.vars y).length) := Lib.hid (by rw [hs]; have := HZ.out; simp; omega)
                      clear hs hF
                      go_wp2
                      go_roundw
                      case rel => exact ⟨q + 1, z + 1, by go_num, by go_num, by omega, HZ2, FH⟩
                      case measure => simp [intOf]; omega
                  · have hd : decide ((q : Int) < (b.rows.length : Int)) = false := decide_eq_false (by omega)
                    have hd2 : decide (q < b.rows.length) = false := decide_eq_false hqb
                    obtain rfl : q = b.rows.length := by omega
                    have hz := HZ.out
                    rw [List.take_of_length_le (Nat.le_refl _), ← Htk.out] at hz
                    have HN2 := Lib.hid hz.symm
                    clear hz hqb hq
                    go_wp2
                    go_roundw
                    case rel => exact ⟨p + 1, z, by go_num, rfl, by omega, HN2, FG⟩
                    case measure => simp [intOf]; omega
              · have hd : decide ((p : Int) < (a.rows.length : Int)) = false := decide_eq_false (by omega)
                have hd2 : decide (p < a.rows.length) = false := decide_eq_false hlt
                obtain rfl : p = a.rows.length := by omega
                have hn := HN.out
                rw [List.take_of_length_le (Nat.le_refl _), joinL_all, ← Cj.out] at hn
                have Hn := Lib.hid hn
                have hnb : ((j.rows.length : Int) == (n : Int)) = true := by rw [hn]; simp
                clear hn hlt hp HN
                go_wp2
                clear m0 m1 mf
                go_loopw [18] (fun i wr => ∃ p : Nat, i = .int .i64 p ∧ p ≤ j.rows.length ∧ Hid (w15.Fr wr [])) (fun i _ => (j.rows.length - intOf i).toNat)
                case atStart => exact ⟨0, rfl, Nat.zero_le _, FF⟩
                case round =>
                  obtain ⟨p, rfl, hp, FG⟩ := hrel
                  obtain ⟨m0, m1, mf⟩ := two (FG.out.heap Qj.out (by simp))
                  by_cases hlt : p < j.rows.length
                  · obtain ⟨r, hr⟩ : ∃ r, j.rows[p]? = some r := ⟨j.rows[p], List.getElem?_eq_getElem hlt⟩
                    have hjI : (p : Int) < (j.rows.length : Int) := by omega
                    have hw1 : IntKind.i64.wrap ((p : Int) + 1) = (p : Int) + 1 := IntWalk.i64_in _ (by have := Cl.out; have := Cj.out; omega)
                    have hnn : (0 : Int) ≤ (p : Int) := by omega
                    have hrl := Gj.out.row r (List.mem_of_getElem? hr)
                    have hall := Hs.out r (List.mem_of_getElem? hr)
                    have Hrl := Lib.hid hrl; have Hr := Lib.hid hr; have Hall := Lib.hid hall
                    clear hrl hr hall
                    obtain ⟨wQ, rfl⟩ : ∃ wQ : World, wQ = wr := ⟨_, rfl⟩
                    go_wp2
                    go_loopw [19, 20] (fun s i wr => ∃ q : Nat, i = .int .i64 q ∧ q ≤ a.rows.length ∧ s = .bool ((a.rows.take q).any fun x => rowsFit j.vars r a.vars x) ∧ Hid (w15.Fr wr [])) (fun _ i _ => (a.rows.length - intOf i).toNat)
                    case atStart => exact ⟨0, rfl, Nat.zero_le _, rfl, FG⟩
                    case round =>
                      obtain ⟨q, rfl, hq, rfl, FH⟩ := hrel
                      clear m0 m1 mf
                      obtain ⟨m0, m1, mf⟩ := two (FH.out.heap Qj.out (by simp))
                      obtain ⟨n0, n1, nf⟩ := two (FH.out.heap Qa.out (by simp))
                      by_cases hqb : q < a.rows.length
                      · obtain ⟨y, hy⟩ : ∃ y, a.rows[q]? = some y := ⟨a.rows[q], List.getElem?_eq_getElem hqb⟩
                        have hqI : (q : Int) < (a.rows.length : Int) := by omega
                        have hw2 : IntKind.i64.wrap ((q : Int) + 1) = (q : Int) + 1 := IntWalk.i64_in _ (by have := Hm.out.2.1; omega)
                        have hqn : (0 : Int) ≤ (q : Int) := by omega
                        have hstep : ((a.rows.take (q + 1)).any fun x => rowsFit j.vars r a.vars x) = (((a.rows.take q).any fun x => rowsFit j.vars r a.vars x) || rowsFit j.vars r a.vars y) := by
                          rw [List.take_succ_eq_append_getElem hqb, (List.getElem?_eq_some_iff.1 hy).2, List.any_append]
                          simp
                        have Hstep := Lib.hid hstep
                        clear hstep
                        cases hS : ((a.rows.take q).any fun x => rowsFit j.vars r a.vars x) with
                        | true =>
                          have hs := Hstep.out
                          rw [hS, Bool.true_or] at hs
                          have HS2 := Lib.hid hs
                          clear hs hS hy
                          go_wp2
                          go_quiet (fail)
                          generalize hN : World.drewN wr _ = wd at *
                          have hfd : wr.Fr wd [] := by rw [← hN]; exact (World.Fr.refl wr []).of_drewN _
                          have FI := Lib.hid (FH.out.trans hfd (by simp))
                          clear hN hfd m0 m1 mf n0 n1 nf
                          go_wp2
                          go_roundw
                          case rel => exact ⟨q + 1, by go_num, by omega, by rw [HS2.out], FI⟩
                          case measure => simp [intOf]; omega
                        | false =>
                          have hs := Hstep.out
                          rw [hS, Bool.false_or] at hs
                          have HS2 := Lib.hid hs
                          obtain ⟨g, off, c, ax, mx, hv, hg, kx, hrow0⟩ := Rrj.out.at2 FH.out Hr.out
                          cases hv
                          obtain ⟨g2, off2, c2, ay, my, hv2, hg2, ky, hrow2⟩ := Rra.out.at2 FH.out hy
                          cases hv2
                          have hyl := Ga.out.row y (List.mem_of_getElem? hy)
                          have hc := fun w' (hf : wr.Fr w' []) => rfits46 (w := w') ((Rvj.out.fr FH.out (by simp)).fr hf (by simp)) ((hrow0.fr FH.out (by simp)).fr hf (by simp)) ((Rva.out.fr FH.out (by simp)).fr hf (by simp)) ((hrow2.fr FH.out (by simp)).fr hf (by simp)) Gj.out.nd Hrl.out hyl (by have := Gj.out.len; omega) (by have := Ga.out.len; omega)
                          have Hc := Lib.hid hc
                          clear hc hyl hrow0 hrow2 hy hs hS
                          go_wp2
                          go_still_tail 16, (by kernel_rfl)
                          change wpList _ _ _ _ _ wr.drew
                          go_wp2_with fail
                          (with_reducible refine (Hc.out _ ((World.Fr.refl wr []).drew)).mono ?_)
                          rintro e w5 ⟨rfl, hf5⟩
                          have FI := Lib.hid (FH.out.trans (((World.Fr.refl wr []).drew).trans hf5 (by simp)) (by simp))
                          clear hf5 kx ky hg hg2 m0 m1 mf n0 n1 nf Hc
                          go_wp2
                          go_roundw
                          case rel => exact ⟨q + 1, by go_num, by omega, by rw [HS2.out], FI⟩
                          case measure => simp [intOf]; omega
                      · have hd : decide ((q : Int) < (a.rows.length : Int)) = false := decide_eq_false (by omega)
                        have hd2 : decide (q < a.rows.length) = false := decide_eq_false hqb
                        obtain rfl : q = a.rows.length := by omega
                        have hS : ((a.rows.take a.rows.length).any fun x => rowsFit j.vars r a.vars x) = true := by rw [List.take_of_length_le (Nat.le_refl _)]; exact Hall.out
                        rw [hS]
                        clear hS hqb hq
                        go_wp2
                        go_roundw
                        case rel => exact ⟨p + 1, by go_num, by omega, FH⟩
                        case measure => simp [intOf]; omega
                  · have hd : decide ((p : Int) < (j.rows.length : Int)) = false := decide_eq_false (by omega)
                    have hd2 : decide (p < j.rows.length) = false := decide_eq_false hlt
                    obtain rfl : p = j.rows.length := by omega
                    clear hlt hp
                    go_wp2_with fail
                    (with_reducible refine (Hlive.out _).mono ?_)
                    rintro e x1 ⟨rfl, fx⟩
                    clear m0 m1 mf
                    obtain ⟨m0, m1, mf⟩ := two (fx.heap (FG.out.heap Qj.out (by simp)) (by simp))
                    have hzz := lt_of_heap (fx.heap (FG.out.heap Qj.out (by simp)) (by simp))
                    go_wp2
                    go_ret
                    exact ⟨rfl, (F.out.trans FG.out (by simp)).trans fx (by simp)⟩
      · have e1 : (tb == 0) = false := beq_eq_false_iff_ne.2 hb0
        have e2 : (tb != 0) = true := by simp [hb0]
        clear hb0
        have k := Lib.hid (Hlive.out w3)
        go_wp2_with fail
        (with_reducible refine k.out.mono ?_)
        rintro e w4 ⟨rfl, fx⟩
        clear k 
        have Qa := Lib.hid (fx.heap Qa.out (by simp))
        have Ra := Lib.hid (Ra.out.still fx)
        have Qb := Lib.hid (fx.heap Qb.out (by simp))
        have Rb := Lib.hid (Rb.out.still fx)
        have F := Lib.hid (F.out.trans fx (by simp))
        clear fx
        go_wp2
        go_ret
        exact ⟨rfl, F.out⟩
    · have e1 : (ta == 0) = false := beq_eq_false_iff_ne.2 ha0
      have e2 : (ta != 0) = true := by simp [ha0]
      clear ha0
      have k := Lib.hid (Hlive.out w2)
      go_wp2_with fail
      (with_reducible refine k.out.mono ?_)
      rintro e w3 ⟨rfl, fx⟩
      clear k 
      have Qa := Lib.hid (fx.heap Qa.out (by simp))
      have Ra := Lib.hid (Ra.out.still fx)
      have Qb := Lib.hid (fx.heap Qb.out (by simp))
      have Rb := Lib.hid (Rb.out.still fx)
      have F := Lib.hid (F.out.trans fx (by simp))
      clear fx
      go_wp2
      go_ret
      exact ⟨rfl, F.out⟩
end Go.Proofs.YtikodapgceokhaaGreat
