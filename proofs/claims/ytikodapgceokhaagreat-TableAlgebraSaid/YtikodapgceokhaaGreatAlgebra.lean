/-
  The walk of the statement TableAlgebra (live's contract as a hypothesis; joined later).
-/
import Derived.Test.YtikodapgceokhaaGreatGo2
namespace Go.Proofs.YtikodapgceokhaaGreat
open Go.RowKit

theorem true41' (W : World) : Calls Tryz.prog 41 #[] W fun e w' => ∃ x1 m1 y1 x2 m2 y2, e = .returned (.agg #[.slice x1 m1 y1, .slice x2 m2 y2]) ∧ Hid (OwnTab W w' (.agg #[.slice x1 m1 y1, .slice x2 m2 y2]) tTrue) := by
  refine (true41 W).mono fun e w' ⟨v, he, ho⟩ => ?_
  obtain ⟨x1, y1, x2, y2, rfl⟩ := ho.shape
  exact ⟨x1, _, y1, x2, _, y2, he, Lib.hid ho⟩
theorem true_fits : Fits V.wf tTrue := ⟨⟨by simp [tTrue], by simp [tTrue], fun r hr => by simp [tTrue] at hr; simp [hr]⟩, by simp [tTrue], fun r hr => by simp [tTrue] at hr; simp [hr]⟩

set_option maxRecDepth 100000 in
set_option maxHeartbeats 16000000 in
theorem algebra10 {cf : V → V → Int} (live : ∀ w, Calls Tryz.prog 18 #[] w fun e w' => e = .returned (.bool true) ∧ w.Fr w' []) (hK : Ctx V.wf cf) {w : World} {v1 v2 v3 : Value} {a b c : Tb} (h0 : RdTab w v1 a) (h1 : RdTab w v2 b) (h2 : RdTab w v3 c) (sa : Fit14 a) (sb : Fit14 b) (sc : Fit14 c) :
    Calls Tryz.prog 10 #[v1, v2, v3] w fun e w' => e = .returned (.bool true) ∧ w.Fr w' [] := by
  have fa : Fits V.wf a := ⟨sa.small, sa.rows, h0.wf⟩
  have fb : Fits V.wf b := ⟨sb.small, sb.rows, h1.wf⟩
  have fc : Fits V.wf c := ⟨sc.small, sc.rows, h2.wf⟩
  obtain ⟨x0, y0, hs0, rfl, hv0, hr0⟩ := h0.ex
  obtain ⟨a1, a2, rfl, _, _⟩ := hv0.rd.shape
  obtain ⟨a3, a4, rfl, _, _⟩ := hr0.rd.shape
  have hlen0 := hr0.len
  rw [hlen0] at h0 ⊢
  clear hv0 hr0 hlen0
  obtain ⟨x1, y1, hs1, rfl, hv1, hr1⟩ := h1.ex
  obtain ⟨b1, b2, rfl, _, _⟩ := hv1.rd.shape
  obtain ⟨b3, b4, rfl, _, _⟩ := hr1.rd.shape
  have hlen1 := hr1.len
  rw [hlen1] at h1 ⊢
  clear hv1 hr1 hlen1
  obtain ⟨x2, y2, hs2, rfl, hv2, hr2⟩ := h2.ex
  obtain ⟨c1, c2, rfl, _, _⟩ := hv2.rd.shape
  obtain ⟨c3, c4, rfl, _, _⟩ := hr2.rd.shape
  have hlen2 := hr2.len
  rw [hlen2] at h2 ⊢
  clear hv2 hr2 hlen2
  have qa := heap_alloc_some (heap_alloc_some (heap_alloc_at w (.cells #[.slice a1 a.vars.length a2, .slice a3 a.rows.length a4] 25) _ rfl) (.cells #[.slice b1 b.vars.length b2, .slice b3 b.rows.length b4] 25)) (.cells #[.slice c1 c.vars.length c2, .slice c3 c.rows.length c4] 25)
  have qb := heap_alloc_some (heap_alloc_at (w.alloc (.cells #[.slice a1 a.vars.length a2, .slice a3 a.rows.length a4] 25)) (.cells #[.slice b1 b.vars.length b2, .slice b3 b.rows.length b4] 25) (w.heap.size + 1) (by simp)) (.cells #[.slice c1 c.vars.length c2, .slice c3 c.rows.length c4] 25)
  have qc := heap_alloc_at ((w.alloc (.cells #[.slice a1 a.vars.length a2, .slice a3 a.rows.length a4] 25)).alloc (.cells #[.slice b1 b.vars.length b2, .slice b3 b.rows.length b4] 25)) (.cells #[.slice c1 c.vars.length c2, .slice c3 c.rows.length c4] 25) (w.heap.size + 1 + 1) (by simp)
  have f := (((World.Fr.refl w []).alloc (.cells #[.slice a1 a.vars.length a2, .slice a3 a.rows.length a4] 25)).alloc (.cells #[.slice b1 b.vars.length b2, .slice b3 b.rows.length b4] 25)).alloc (.cells #[.slice c1 c.vars.length c2, .slice c3 c.rows.length c4] 25)
  have ra := h0.still f
  have rb := h1.still f
  have rc := h2.still f
  have HK := Lib.hid hK; have Fa := Lib.hid fa; have Fb := Lib.hid fb; have Fc := Lib.hid fc; have Hlive := Lib.hid live
  clear h0 h1 h2 sa sb sc fa fb fc hK live
  go_enter Tryz.func10, Tryz.ntmps10
  go_upto_region 1 with (fail)
  generalize hW : World.alloc (World.alloc (World.alloc w _) _) _ = W at *
  clear hW
  generalize w.heap.size = pa at *
  have Qa := Lib.hid qa; have Qb := Lib.hid qb; have Qc := Lib.hid qc; have F := Lib.hid f; have Ra := Lib.hid ra; have Rb := Lib.hid rb; have Rc := Lib.hid rc
  clear qa qb qc f ra rb rc
  have k := Lib.hid (light_three (W := W) (x1 := a1) (x2 := a3) (n1 := a.vars.length) (n2 := a.rows.length) (c1 := a2) (c2 := a4) (y1 := b1) (y2 := b3) (m1 := b.vars.length) (m2 := b.rows.length) (d1 := b2) (d2 := b4) (z1 := c1) (z2 := c3) (k1 := c.vars.length) (k2 := c.rows.length) (e1 := c2) (e2 := c4) Fa.out.rows Fb.out.rows Fc.out.rows)
  obtain ⟨g00, g01, g0f⟩ := two Qa.out
  have hz0 := lt_of_heap Qa.out
  obtain ⟨g10, g11, g1f⟩ := two Qb.out
  have hz1 := lt_of_heap Qb.out
  obtain ⟨g20, g21, g2f⟩ := two Qc.out
  have hz2 := lt_of_heap Qc.out
  go_wp2_with fail
  (with_reducible refine k.out.mono ?_)
  rintro e w1 ⟨rfl, fx⟩
  clear k g00 g01 g0f hz0 g10 g11 g1f hz1 g20 g21 g2f hz2
  have Qa := Lib.hid (fx.heap Qa.out (by simp))
  have Ra := Lib.hid (Ra.out.still fx)
  have Qb := Lib.hid (fx.heap Qb.out (by simp))
  have Rb := Lib.hid (Rb.out.still fx)
  have Qc := Lib.hid (fx.heap Qc.out (by simp))
  have Rc := Lib.hid (Rc.out.still fx)
  have F := Lib.hid (F.out.trans fx (by simp))
  clear fx
  cases hL : lightF 1 [a.rows.length, b.rows.length, c.rows.length] with
  | false =>
    have k := Lib.hid (Hlive.out w1)
    go_wp2_with fail
    (with_reducible refine k.out.mono ?_)
    rintro e w2 ⟨rfl, fx⟩
    clear k 
    have Qa := Lib.hid (fx.heap Qa.out (by simp))
    have Ra := Lib.hid (Ra.out.still fx)
    have Qb := Lib.hid (fx.heap Qb.out (by simp))
    have Rb := Lib.hid (Rb.out.still fx)
    have Qc := Lib.hid (fx.heap Qc.out (by simp))
    have Rc := Lib.hid (Rc.out.still fx)
    have F := Lib.hid (F.out.trans fx (by simp))
    clear fx
    go_wp2
    go_ret
    exact ⟨rfl, F.out⟩
  | true =>
    have Hm := Lib.hid (light3 hL)
    clear hL
    have k := Lib.hid (light_two (W := w1) (x1 := a1) (x2 := a3) (n1 := a.vars.length) (n2 := a.rows.length) (c1 := a2) (c2 := a4) (y1 := a1) (y2 := a3) (m1 := a.vars.length) (m2 := a.rows.length) (d1 := a2) (d2 := a4) Fa.out.rows Fa.out.rows)
    obtain ⟨g00, g01, g0f⟩ := two Qa.out
    have hz0 := lt_of_heap Qa.out
    go_wp2_with fail
    (with_reducible refine k.out.mono ?_)
    rintro e w2 ⟨rfl, fx⟩
    clear k g00 g01 g0f hz0
    have Qa := Lib.hid (fx.heap Qa.out (by simp))
    have Ra := Lib.hid (Ra.out.still fx)
    have Qb := Lib.hid (fx.heap Qb.out (by simp))
    have Rb := Lib.hid (Rb.out.still fx)
    have Qc := Lib.hid (fx.heap Qc.out (by simp))
    have Rc := Lib.hid (Rc.out.still fx)
    have F := Lib.hid (F.out.trans fx (by simp))
    clear fx
    cases hL : lightF 1 [a.rows.length, a.rows.length] with
    | false =>
      have k := Lib.hid (Hlive.out w2)
      go_wp2_with fail
      (with_reducible refine k.out.mono ?_)
      rintro e w3 ⟨rfl, fx⟩
      clear k 
      have Qa := Lib.hid (fx.heap Qa.out (by simp))
      have Ra := Lib.hid (Ra.out.still fx)
      have Qb := Lib.hid (fx.heap Qb.out (by simp))
      have Rb := Lib.hid (Rb.out.still fx)
      have Qc := Lib.hid (fx.heap Qc.out (by simp))
      have Rc := Lib.hid (Rc.out.still fx)
      have F := Lib.hid (F.out.trans fx (by simp))
      clear fx
      go_wp2
      go_ret
      exact ⟨rfl, F.out⟩
    | true =>
      have Hs := Lib.hid (light2a hL)
      clear hL
      obtain ⟨ta, hta⟩ : ∃ z, tcheck cf a = z := ⟨_, rfl⟩
      have Hta := Lib.hid hta
      clear hta
      have k := Lib.hid (g_check HK.out Fa.out Hta.out Ra.out)
      obtain ⟨g00, g01, g0f⟩ := two Qa.out
      have hz0 := lt_of_heap Qa.out
      go_wp2_with fail
      (with_reducible refine k.out.mono ?_)
      rintro e w3 ⟨rfl, fx⟩
      clear k g00 g01 g0f hz0
      have Qa := Lib.hid (fx.heap Qa.out (by simp))
      have Ra := Lib.hid (Ra.out.still fx)
      have Qb := Lib.hid (fx.heap Qb.out (by simp))
      have Rb := Lib.hid (Rb.out.still fx)
      have Qc := Lib.hid (fx.heap Qc.out (by simp))
      have Rc := Lib.hid (Rc.out.still fx)
      have F := Lib.hid (F.out.trans fx (by simp))
      clear fx
      by_cases ha0 : ta = 0
      · subst ha0
        obtain ⟨tb, htb⟩ : ∃ z, tcheck cf b = z := ⟨_, rfl⟩
        have Htb := Lib.hid htb
        clear htb
        have k := Lib.hid (g_check HK.out Fb.out Htb.out Rb.out)
        obtain ⟨g00, g01, g0f⟩ := two Qb.out
        have hz0 := lt_of_heap Qb.out
        go_wp2_with fail
        (with_reducible refine k.out.mono ?_)
        rintro e w4 ⟨rfl, fx⟩
        clear k g00 g01 g0f hz0
        have Qa := Lib.hid (fx.heap Qa.out (by simp))
        have Ra := Lib.hid (Ra.out.still fx)
        have Qb := Lib.hid (fx.heap Qb.out (by simp))
        have Rb := Lib.hid (Rb.out.still fx)
        have Qc := Lib.hid (fx.heap Qc.out (by simp))
        have Rc := Lib.hid (Rc.out.still fx)
        have F := Lib.hid (F.out.trans fx (by simp))
        clear fx
        by_cases hb0 : tb = 0
        · subst hb0
          obtain ⟨tc, htc⟩ : ∃ z, tcheck cf c = z := ⟨_, rfl⟩
          have Htc := Lib.hid htc
          clear htc
          have k := Lib.hid (g_check HK.out Fc.out Htc.out Rc.out)
          obtain ⟨g00, g01, g0f⟩ := two Qc.out
          have hz0 := lt_of_heap Qc.out
          go_wp2_with fail
          (with_reducible refine k.out.mono ?_)
          rintro e w5 ⟨rfl, fx⟩
          clear k g00 g01 g0f hz0
          have Qa := Lib.hid (fx.heap Qa.out (by simp))
          have Ra := Lib.hid (Ra.out.still fx)
          have Qb := Lib.hid (fx.heap Qb.out (by simp))
          have Rb := Lib.hid (Rb.out.still fx)
          have Qc := Lib.hid (fx.heap Qc.out (by simp))
          have Rc := Lib.hid (Rc.out.still fx)
          have F := Lib.hid (F.out.trans fx (by simp))
          clear fx
          by_cases hc0 : tc = 0
          · subst hc0
            obtain ⟨Eu, u, Ej, j, En, bc, hu1, hu2, hsu, hj1, hj2, hfj, huu, hjj, hjt, hbc, hfb, hE1, hE2, hlast⟩ := algebra_plain HK.out.ord (good_of HK.out.ord Hta.out Fa.out.ok) (good_of HK.out.ord Htb.out Fb.out.ok) (good_of HK.out.ord Htc.out Fc.out.ok) Hm.out.1 Hm.out.2.1 Hm.out.2.2.1 Hm.out.2.2.2.1 Hm.out.2.2.2.2
            have hab : a.rows.length * b.rows.length ≤ 1000000000 := by have := Hm.out.1; omega
            have hba : b.rows.length * a.rows.length ≤ 1000000000 := by rw [Nat.mul_comm]; exact hab
            have hbc2 : b.rows.length * c.rows.length ≤ 1000000000 := by have := Hm.out.2.1; omega
            have hra : a.rows.length ≤ 20000 := Hm.out.2.2.2.1
            have hrb : b.rows.length ≤ 20000 := Hm.out.2.2.2.2
            have Hu1x := Lib.hid hu1; have Hu2x := Lib.hid hu2; have Hsux := Lib.hid hsu; have Hj1x := Lib.hid hj1; have Hj2x := Lib.hid hj2; have Hfjx := Lib.hid hfj; have Huux := Lib.hid huu; have Hjjx := Lib.hid hjj; have Hjtx := Lib.hid hjt; have Hbcx := Lib.hid hbc; have Hfbx := Lib.hid hfb; have HE1x := Lib.hid hE1; have HE2x := Lib.hid hE2; have Hlastx := Lib.hid hlast; have Habx := Lib.hid hab; have Hbax := Lib.hid hba; have Hbc2x := Lib.hid hbc2; have Hrax := Lib.hid hra; have Hrbx := Lib.hid hrb
            clear hu1 hu2 hsu hj1 hj2 hfj huu hjj hjt hbc hfb hE1 hE2 hlast hab hba hbc2 hra hrb
            have k := Lib.hid (g_union HK.out Fa.out Fb.out (by have := Hrax.out; have := Hrbx.out; omega) Hu1x.out Ra.out Rb.out)
            obtain ⟨g00, g01, g0f⟩ := two Qa.out
            have hz0 := lt_of_heap Qa.out
            obtain ⟨g10, g11, g1f⟩ := two Qb.out
            have hz1 := lt_of_heap Qb.out
            go_wp2_with fail
            (with_reducible refine k.out.mono ?_)
            rintro e w6 ⟨u, rfl, ho⟩
            obtain ⟨t8a, t8b, t8c, t8d, rfl⟩ := ho.shape
            clear k g00 g01 g0f hz0 g10 g11 g1f hz1
            have Qa := Lib.hid (heap_alloc_some (ho.fr.heap Qa.out (by simp)) (.cells #[.slice t8a u.vars.length t8b, .slice t8c u.rows.length t8d] 25))
            have Ra := Lib.hid (Ra.out.still (ho.fr.alloc (.cells #[.slice t8a u.vars.length t8b, .slice t8c u.rows.length t8d] 25)))
            have Qb := Lib.hid (heap_alloc_some (ho.fr.heap Qb.out (by simp)) (.cells #[.slice t8a u.vars.length t8b, .slice t8c u.rows.length t8d] 25))
            have Rb := Lib.hid (Rb.out.still (ho.fr.alloc (.cells #[.slice t8a u.vars.length t8b, .slice t8c u.rows.length t8d] 25)))
            have Qc := Lib.hid (heap_alloc_some (ho.fr.heap Qc.out (by simp)) (.cells #[.slice t8a u.vars.length t8b, .slice t8c u.rows.length t8d] 25))
            have Rc := Lib.hid (Rc.out.still (ho.fr.alloc (.cells #[.slice t8a u.vars.length t8b, .slice t8c u.rows.length t8d] 25)))
            have F := Lib.hid (F.out.trans (ho.fr.alloc (.cells #[.slice t8a u.vars.length t8b, .slice t8c u.rows.length t8d] 25)) (by simp))
            have Qu := Lib.hid (heap_alloc_at w6 (.cells #[.slice t8a u.vars.length t8b, .slice t8c u.rows.length t8d] 25) _ rfl)
            have Ru := Lib.hid (ho.on ((World.Fr.refl w6 []).alloc (.cells #[.slice t8a u.vars.length t8b, .slice t8c u.rows.length t8d] 25))).rd
            clear ho
            go_upto_region 4 with (fail)
            generalize hW : World.alloc w6 _ = W7 at *
            clear hW
            generalize w6.heap.size = pu at *
            have k := Lib.hid (g_union HK.out Fb.out Fa.out (by have := Hrax.out; have := Hrbx.out; omega) Hu2x.out Rb.out Ra.out)
            obtain ⟨g00, g01, g0f⟩ := two Qb.out
            have hz0 := lt_of_heap Qb.out
            obtain ⟨g10, g11, g1f⟩ := two Qa.out
            have hz1 := lt_of_heap Qa.out
            go_wp2_with fail
            (with_reducible refine k.out.mono ?_)
            rintro e w9 ⟨u, rfl, ho⟩
            obtain ⟨t11a, t11b, t11c, t11d, rfl⟩ := ho.shape
            clear k g00 g01 g0f hz0 g10 g11 g1f hz1
            have Qa := Lib.hid (heap_alloc_some (ho.fr.heap Qa.out (by simp)) (.cells #[.slice t11a u.vars.length t11b, .slice t11c u.rows.length t11d] 25))
            have Ra := Lib.hid (Ra.out.still (ho.fr.alloc (.cells #[.slice t11a u.vars.length t11b, .slice t11c u.rows.length t11d] 25)))
            have Qb := Lib.hid (heap_alloc_some (ho.fr.heap Qb.out (by simp)) (.cells #[.slice t11a u.vars.length t11b, .slice t11c u.rows.length t11d] 25))
            have Rb := Lib.hid (Rb.out.still (ho.fr.alloc (.cells #[.slice t11a u.vars.length t11b, .slice t11c u.rows.length t11d] 25)))
            have Qc := Lib.hid (heap_alloc_some (ho.fr.heap Qc.out (by simp)) (.cells #[.slice t11a u.vars.length t11b, .slice t11c u.rows.length t11d] 25))
            have Rc := Lib.hid (Rc.out.still (ho.fr.alloc (.cells #[.slice t11a u.vars.length t11b, .slice t11c u.rows.length t11d] 25)))
            have Qu := Lib.hid (heap_alloc_some (ho.fr.heap Qu.out (by simp)) (.cells #[.slice t11a u.vars.length t11b, .slice t11c u.rows.length t11d] 25))
            have Ru := Lib.hid (Ru.out.still (ho.fr.alloc (.cells #[.slice t11a u.vars.length t11b, .slice t11c u.rows.length t11d] 25)))
            have F := Lib.hid (F.out.trans (ho.fr.alloc (.cells #[.slice t11a u.vars.length t11b, .slice t11c u.rows.length t11d] 25)) (by simp))
            have Qv := Lib.hid (heap_alloc_at w9 (.cells #[.slice t11a u.vars.length t11b, .slice t11c u.rows.length t11d] 25) _ rfl)
            have Rv := Lib.hid (ho.on ((World.Fr.refl w9 []).alloc (.cells #[.slice t11a u.vars.length t11b, .slice t11c u.rows.length t11d] 25))).rd
            clear ho
            go_upto_region 5 with (fail)
            generalize hW : World.alloc w9 _ = W10 at *
            clear hW
            generalize w9.heap.size = pv at *
            have k := Lib.hid (g_join HK.out Fa.out Fb.out Habx.out Hj1x.out Ra.out Rb.out)
            obtain ⟨g00, g01, g0f⟩ := two Qa.out
            have hz0 := lt_of_heap Qa.out
            obtain ⟨g10, g11, g1f⟩ := two Qb.out
            have hz1 := lt_of_heap Qb.out
            go_wp2_with fail
            (with_reducible refine k.out.mono ?_)
            rintro e w12 ⟨u, rfl, ho⟩
            obtain ⟨t14a, t14b, t14c, t14d, rfl⟩ := ho.shape
            clear k g00 g01 g0f hz0 g10 g11 g1f hz1
            have Qa := Lib.hid (heap_alloc_some (ho.fr.heap Qa.out (by simp)) (.cells #[.slice t14a j.vars.length t14b, .slice t14c j.rows.length t14d] 25))
            have Ra := Lib.hid (Ra.out.still (ho.fr.alloc (.cells #[.slice t14a j.vars.length t14b, .slice t14c j.rows.length t14d] 25)))
            have Qb := Lib.hid (heap_alloc_some (ho.fr.heap Qb.out (by simp)) (.cells #[.slice t14a j.vars.length t14b, .slice t14c j.rows.length t14d] 25))
            have Rb := Lib.hid (Rb.out.still (ho.fr.alloc (.cells #[.slice t14a j.vars.length t14b, .slice t14c j.rows.length t14d] 25)))
            have Qc := Lib.hid (heap_alloc_some (ho.fr.heap Qc.out (by simp)) (.cells #[.slice t14a j.vars.length t14b, .slice t14c j.rows.length t14d] 25))
            have Rc := Lib.hid (Rc.out.still (ho.fr.alloc (.cells #[.slice t14a j.vars.length t14b, .slice t14c j.rows.length t14d] 25)))
            have Qu := Lib.hid (heap_alloc_some (ho.fr.heap Qu.out (by simp)) (.cells #[.slice t14a j.vars.length t14b, .slice t14c j.rows.length t14d] 25))
            have Ru := Lib.hid (Ru.out.still (ho.fr.alloc (.cells #[.slice t14a j.vars.length t14b, .slice t14c j.rows.length t14d] 25)))
            have Qv := Lib.hid (heap_alloc_some (ho.fr.heap Qv.out (by simp)) (.cells #[.slice t14a j.vars.length t14b, .slice t14c j.rows.length t14d] 25))
            have Rv := Lib.hid (Rv.out.still (ho.fr.alloc (.cells #[.slice t14a j.vars.length t14b, .slice t14c j.rows.length t14d] 25)))
            have F := Lib.hid (F.out.trans (ho.fr.alloc (.cells #[.slice t14a j.vars.length t14b, .slice t14c j.rows.length t14d] 25)) (by simp))
            have Qj := Lib.hid (heap_alloc_at w12 (.cells #[.slice t14a j.vars.length t14b, .slice t14c j.rows.length t14d] 25) _ rfl)
            have Rj := Lib.hid (ho.on ((World.Fr.refl w12 []).alloc (.cells #[.slice t14a j.vars.length t14b, .slice t14c j.rows.length t14d] 25))).rd
            clear ho
            go_upto_region 6 with (fail)
            generalize hW : World.alloc w12 _ = W13 at *
            clear hW
            generalize w12.heap.size = pj at *
            have k := Lib.hid (g_join HK.out Fb.out Fa.out Hbax.out Hj2x.out Rb.out Ra.out)
            obtain ⟨g00, g01, g0f⟩ := two Qb.out
            have hz0 := lt_of_heap Qb.out
            obtain ⟨g10, g11, g1f⟩ := two Qa.out
            have hz1 := lt_of_heap Qa.out
            go_wp2_with fail
            (with_reducible refine k.out.mono ?_)
            rintro e w15 ⟨u, rfl, ho⟩
            obtain ⟨t17a, t17b, t17c, t17d, rfl⟩ := ho.shape
            clear k g00 g01 g0f hz0 g10 g11 g1f hz1
            have Qa := Lib.hid (heap_alloc_some (ho.fr.heap Qa.out (by simp)) (.cells #[.slice t17a j.vars.length t17b, .slice t17c j.rows.length t17d] 25))
            have Ra := Lib.hid (Ra.out.still (ho.fr.alloc (.cells #[.slice t17a j.vars.length t17b, .slice t17c j.rows.length t17d] 25)))
            have Qb := Lib.hid (heap_alloc_some (ho.fr.heap Qb.out (by simp)) (.cells #[.slice t17a j.vars.length t17b, .slice t17c j.rows.length t17d] 25))
            have Rb := Lib.hid (Rb.out.still (ho.fr.alloc (.cells #[.slice t17a j.vars.length t17b, .slice t17c j.rows.length t17d] 25)))
            have Qc := Lib.hid (heap_alloc_some (ho.fr.heap Qc.out (by simp)) (.cells #[.slice t17a j.vars.length t17b, .slice t17c j.rows.length t17d] 25))
            have Rc := Lib.hid (Rc.out.still (ho.fr.alloc (.cells #[.slice t17a j.vars.length t17b, .slice t17c j.rows.length t17d] 25)))
            have Qu := Lib.hid (heap_alloc_some (ho.fr.heap Qu.out (by simp)) (.cells #[.slice t17a j.vars.length t17b, .slice t17c j.rows.length t17d] 25))
            have Ru := Lib.hid (Ru.out.still (ho.fr.alloc (.cells #[.slice t17a j.vars.length t17b, .slice t17c j.rows.length t17d] 25)))
            have Qv := Lib.hid (heap_alloc_some (ho.fr.heap Qv.out (by simp)) (.cells #[.slice t17a j.vars.length t17b, .slice t17c j.rows.length t17d] 25))
            have Rv := Lib.hid (Rv.out.still (ho.fr.alloc (.cells #[.slice t17a j.vars.length t17b, .slice t17c j.rows.length t17d] 25)))
            have Qj := Lib.hid (heap_alloc_some (ho.fr.heap Qj.out (by simp)) (.cells #[.slice t17a j.vars.length t17b, .slice t17c j.rows.length t17d] 25))
            have Rj := Lib.hid (Rj.out.still (ho.fr.alloc (.cells #[.slice t17a j.vars.length t17b, .slice t17c j.rows.length t17d] 25)))
            have F := Lib.hid (F.out.trans (ho.fr.alloc (.cells #[.slice t17a j.vars.length t17b, .slice t17c j.rows.length t17d] 25)) (by simp))
            have Qk := Lib.hid (heap_alloc_at w15 (.cells #[.slice t17a j.vars.length t17b, .slice t17c j.rows.length t17d] 25) _ rfl)
            have Rk := Lib.hid (ho.on ((World.Fr.refl w15 []).alloc (.cells #[.slice t17a j.vars.length t17b, .slice t17c j.rows.length t17d] 25))).rd
            clear ho
            go_upto_region 7 with (fail)
            generalize hW : World.alloc w15 _ = W16 at *
            clear hW
            generalize w15.heap.size = pk at *
            have k := Lib.hid (both40 (E := Eu) Hsux.out Ru.out Rv.out)
            obtain ⟨g00, g01, g0f⟩ := two Qu.out
            have hz0 := lt_of_heap Qu.out
            obtain ⟨g10, g11, g1f⟩ := two Qv.out
            have hz1 := lt_of_heap Qv.out
            go_wp2_with fail
            (with_reducible refine k.out.mono ?_)
            rintro e w18 ⟨rfl, fx⟩
            clear k g00 g01 g0f hz0 g10 g11 g1f hz1
            have Qa := Lib.hid (fx.heap Qa.out (by simp))
            have Ra := Lib.hid (Ra.out.still fx)
            have Qb := Lib.hid (fx.heap Qb.out (by simp))
            have Rb := Lib.hid (Rb.out.still fx)
            have Qc := Lib.hid (fx.heap Qc.out (by simp))
            have Rc := Lib.hid (Rc.out.still fx)
            have Qu := Lib.hid (fx.heap Qu.out (by simp))
            have Ru := Lib.hid (Ru.out.still fx)
            have Qv := Lib.hid (fx.heap Qv.out (by simp))
            have Rv := Lib.hid (Rv.out.still fx)
            have Qj := Lib.hid (fx.heap Qj.out (by simp))
            have Rj := Lib.hid (Rj.out.still fx)
            have Qk := Lib.hid (fx.heap Qk.out (by simp))
            have Rk := Lib.hid (Rk.out.still fx)
            have F := Lib.hid (F.out.trans fx (by simp))
            clear fx
            have k := Lib.hid (both40 (E := Ej) Hfjx.out.small Rj.out Rk.out)
            obtain ⟨g00, g01, g0f⟩ := two Qj.out
            have hz0 := lt_of_heap Qj.out
            obtain ⟨g10, g11, g1f⟩ := two Qk.out
            have hz1 := lt_of_heap Qk.out
            go_wp2_with fail
            (with_reducible refine k.out.mono ?_)
            rintro e w19 ⟨rfl, fx⟩
            clear k g00 g01 g0f hz0 g10 g11 g1f hz1
            have Qa := Lib.hid (fx.heap Qa.out (by simp))
            have Ra := Lib.hid (Ra.out.still fx)
            have Qb := Lib.hid (fx.heap Qb.out (by simp))
            have Rb := Lib.hid (Rb.out.still fx)
            have Qc := Lib.hid (fx.heap Qc.out (by simp))
            have Rc := Lib.hid (Rc.out.still fx)
            have Qu := Lib.hid (fx.heap Qu.out (by simp))
            have Ru := Lib.hid (Ru.out.still fx)
            have Qv := Lib.hid (fx.heap Qv.out (by simp))
            have Rv := Lib.hid (Rv.out.still fx)
            have Qj := Lib.hid (fx.heap Qj.out (by simp))
            have Rj := Lib.hid (Rj.out.still fx)
            have Qk := Lib.hid (fx.heap Qk.out (by simp))
            have Rk := Lib.hid (Rk.out.still fx)
            have F := Lib.hid (F.out.trans fx (by simp))
            clear fx
            have k := Lib.hid (g_union HK.out Fa.out Fa.out (by have := Hrax.out; omega) Huux.out Ra.out Ra.out)
            obtain ⟨g00, g01, g0f⟩ := two Qa.out
            have hz0 := lt_of_heap Qa.out
            go_wp2_with fail
            (with_reducible refine k.out.mono ?_)
            rintro e w20 ⟨u, rfl, ho⟩
            obtain ⟨t22a, t22b, t22c, t22d, rfl⟩ := ho.shape
            clear k g00 g01 g0f hz0
            have Qa := Lib.hid (heap_alloc_some (ho.fr.heap Qa.out (by simp)) (.cells #[.slice t22a a.vars.length t22b, .slice t22c a.rows.length t22d] 25))
            have Ra := Lib.hid (Ra.out.still (ho.fr.alloc (.cells #[.slice t22a a.vars.length t22b, .slice t22c a.rows.length t22d] 25)))
            have Qb := Lib.hid (heap_alloc_some (ho.fr.heap Qb.out (by simp)) (.cells #[.slice t22a a.vars.length t22b, .slice t22c a.rows.length t22d] 25))
            have Rb := Lib.hid (Rb.out.still (ho.fr.alloc (.cells #[.slice t22a a.vars.length t22b, .slice t22c a.rows.length t22d] 25)))
            have Qc := Lib.hid (heap_alloc_some (ho.fr.heap Qc.out (by simp)) (.cells #[.slice t22a a.vars.length t22b, .slice t22c a.rows.length t22d] 25))
            have Rc := Lib.hid (Rc.out.still (ho.fr.alloc (.cells #[.slice t22a a.vars.length t22b, .slice t22c a.rows.length t22d] 25)))
            have Qu := Lib.hid (heap_alloc_some (ho.fr.heap Qu.out (by simp)) (.cells #[.slice t22a a.vars.length t22b, .slice t22c a.rows.length t22d] 25))
            have Ru := Lib.hid (Ru.out.still (ho.fr.alloc (.cells #[.slice t22a a.vars.length t22b, .slice t22c a.rows.length t22d] 25)))
            have Qv := Lib.hid (heap_alloc_some (ho.fr.heap Qv.out (by simp)) (.cells #[.slice t22a a.vars.length t22b, .slice t22c a.rows.length t22d] 25))
            have Rv := Lib.hid (Rv.out.still (ho.fr.alloc (.cells #[.slice t22a a.vars.length t22b, .slice t22c a.rows.length t22d] 25)))
            have Qj := Lib.hid (heap_alloc_some (ho.fr.heap Qj.out (by simp)) (.cells #[.slice t22a a.vars.length t22b, .slice t22c a.rows.length t22d] 25))
            have Rj := Lib.hid (Rj.out.still (ho.fr.alloc (.cells #[.slice t22a a.vars.length t22b, .slice t22c a.rows.length t22d] 25)))
            have Qk := Lib.hid (heap_alloc_some (ho.fr.heap Qk.out (by simp)) (.cells #[.slice t22a a.vars.length t22b, .slice t22c a.rows.length t22d] 25))
            have Rk := Lib.hid (Rk.out.still (ho.fr.alloc (.cells #[.slice t22a a.vars.length t22b, .slice t22c a.rows.length t22d] 25)))
            have F := Lib.hid (F.out.trans (ho.fr.alloc (.cells #[.slice t22a a.vars.length t22b, .slice t22c a.rows.length t22d] 25)) (by simp))
            have Qs := Lib.hid (heap_alloc_at w20 (.cells #[.slice t22a a.vars.length t22b, .slice t22c a.rows.length t22d] 25) _ rfl)
            have Rs := Lib.hid (ho.on ((World.Fr.refl w20 []).alloc (.cells #[.slice t22a a.vars.length t22b, .slice t22c a.rows.length t22d] 25))).rd
            clear ho
            go_upto_region 10 with (fail)
            generalize hW : World.alloc w20 _ = W21 at *
            clear hW
            generalize w20.heap.size = ps at *
            have k := Lib.hid (g_join HK.out Fa.out Fa.out (by have := Hs.out; omega) Hjjx.out Ra.out Ra.out)
            obtain ⟨g00, g01, g0f⟩ := two Qa.out
            have hz0 := lt_of_heap Qa.out
            go_wp2_with fail
            (with_reducible refine k.out.mono ?_)
            rintro e w23 ⟨u, rfl, ho⟩
            obtain ⟨t25a, t25b, t25c, t25d, rfl⟩ := ho.shape
            clear k g00 g01 g0f hz0
            have Qa := Lib.hid (heap_alloc_some (ho.fr.heap Qa.out (by simp)) (.cells #[.slice t25a a.vars.length t25b, .slice t25c a.rows.length t25d] 25))
            have Ra := Lib.hid (Ra.out.still (ho.fr.alloc (.cells #[.slice t25a a.vars.length t25b, .slice t25c a.rows.length t25d] 25)))
            have Qb := Lib.hid (heap_alloc_some (ho.fr.heap Qb.out (by simp)) (.cells #[.slice t25a a.vars.length t25b, .slice t25c a.rows.length t25d] 25))
            have Rb := Lib.hid (Rb.out.still (ho.fr.alloc (.cells #[.slice t25a a.vars.length t25b, .slice t25c a.rows.length t25d] 25)))
            have Qc := Lib.hid (heap_alloc_some (ho.fr.heap Qc.out (by simp)) (.cells #[.slice t25a a.vars.length t25b, .slice t25c a.rows.length t25d] 25))
            have Rc := Lib.hid (Rc.out.still (ho.fr.alloc (.cells #[.slice t25a a.vars.length t25b, .slice t25c a.rows.length t25d] 25)))
            have Qu := Lib.hid (heap_alloc_some (ho.fr.heap Qu.out (by simp)) (.cells #[.slice t25a a.vars.length t25b, .slice t25c a.rows.length t25d] 25))
            have Ru := Lib.hid (Ru.out.still (ho.fr.alloc (.cells #[.slice t25a a.vars.length t25b, .slice t25c a.rows.length t25d] 25)))
            have Qv := Lib.hid (heap_alloc_some (ho.fr.heap Qv.out (by simp)) (.cells #[.slice t25a a.vars.length t25b, .slice t25c a.rows.length t25d] 25))
            have Rv := Lib.hid (Rv.out.still (ho.fr.alloc (.cells #[.slice t25a a.vars.length t25b, .slice t25c a.rows.length t25d] 25)))
            have Qj := Lib.hid (heap_alloc_some (ho.fr.heap Qj.out (by simp)) (.cells #[.slice t25a a.vars.length t25b, .slice t25c a.rows.length t25d] 25))
            have Rj := Lib.hid (Rj.out.still (ho.fr.alloc (.cells #[.slice t25a a.vars.length t25b, .slice t25c a.rows.length t25d] 25)))
            have Qk := Lib.hid (heap_alloc_some (ho.fr.heap Qk.out (by simp)) (.cells #[.slice t25a a.vars.length t25b, .slice t25c a.rows.length t25d] 25))
            have Rk := Lib.hid (Rk.out.still (ho.fr.alloc (.cells #[.slice t25a a.vars.length t25b, .slice t25c a.rows.length t25d] 25)))
            have Qs := Lib.hid (heap_alloc_some (ho.fr.heap Qs.out (by simp)) (.cells #[.slice t25a a.vars.length t25b, .slice t25c a.rows.length t25d] 25))
            have Rs := Lib.hid (Rs.out.still (ho.fr.alloc (.cells #[.slice t25a a.vars.length t25b, .slice t25c a.rows.length t25d] 25)))
            have F := Lib.hid (F.out.trans (ho.fr.alloc (.cells #[.slice t25a a.vars.length t25b, .slice t25c a.rows.length t25d] 25)) (by simp))
            have Qt := Lib.hid (heap_alloc_at w23 (.cells #[.slice t25a a.vars.length t25b, .slice t25c a.rows.length t25d] 25) _ rfl)
            have Rt := Lib.hid (ho.on ((World.Fr.refl w23 []).alloc (.cells #[.slice t25a a.vars.length t25b, .slice t25c a.rows.length t25d] 25))).rd
            clear ho
            go_upto_region 11 with (fail)
            generalize hW : World.alloc w23 _ = W24 at *
            clear hW
            generalize w23.heap.size = pt at *
            have hjn : ∀ W' xx, W24.Fr W' [] → RdTab W' xx tTrue → Calls Tryz.prog 24 #[.agg #[.slice a1 a.vars.length a2, .slice a3 a.rows.length a4], xx] W' fun e w' => ∃ j1 k1 l1 j2 k2 l2, e = .returned (.tuple #[.agg #[.slice j1 k1 l1, .slice j2 k2 l2], .int .i64 0]) ∧ Hid (OwnTab W24 w' (.agg #[.slice j1 k1 l1, .slice j2 k2 l2]) a ∧ W'.Fr w' []) := fun W' xx hf hr => by
              refine (g_join HK.out Fa.out true_fits (by have := Hrax.out; simp [tTrue]; omega) Hjtx.out (Ra.out.still hf) hr).mono fun e w' ⟨v, he, ho⟩ => ?_
              obtain ⟨z1, u1, z2, u2, rfl⟩ := ho.shape
              exact ⟨z1, _, u1, z2, _, u2, he, Lib.hid ⟨ho.since hf, ho.fr⟩⟩
            have Hjn := Lib.hid hjn
            clear hjn
            obtain ⟨m0, m1, mf⟩ := two Qa.out
            have hlb := lt_of_heap Qa.out
            have hlb2 : pa < W24.heap.size + 1 := Nat.lt_succ_of_lt hlb
            go_cut [19, 20] (fun s6 s7 wx => s7 = .int .i64 0 ∧ ∃ b6 j1 k1 l1 j2 k2 l2, s6 = .pointer (some ⟨b6, 0, none⟩) ∧ Hid (W24.Fr wx [] ∧ wx.heap[b6]? = some (.cells #[.slice j1 k1 l1, .slice j2 k2 l2] 25) ∧ RdTab wx (.agg #[.slice j1 k1 l1, .slice j2 k2 l2]) a))
            case first =>
              go_region_with (first | (go_at_call 41; (with_reducible refine (true41' (W24.drew)).mono ?_); rintro e w7 ⟨c1, d1, e1, c2, d2, e2, rfl, hc⟩; have hq7 := hc.out.fr.heap (w := (W24.drew)) Qa.out (by simp); obtain ⟨h0, h1, hf⟩ := two hq7; have l7 := lt_of_heap hq7; clear hq7; have hcr : RdTab w7 _ tTrue := hc.out.rd; have hcf : W24.Fr w7 [] := ((World.Fr.refl W24 []).drew).trans hc.out.fr (by simp)) | (go_at_call 41; (with_reducible refine (true41' ((W24.alloc (.cells #[.slice none 0 0, .slice none 0 0] 25)).drew)).mono ?_); rintro e w7 ⟨c1, d1, e1, c2, d2, e2, rfl, hc⟩; have hq7 := hc.out.fr.heap (w := ((W24.alloc (.cells #[.slice none 0 0, .slice none 0 0] 25)).drew)) (heap_alloc_some Qa.out (.cells #[.slice none 0 0, .slice none 0 0] 25)) (by simp); obtain ⟨h0, h1, hf⟩ := two hq7; have l7 := lt_of_heap hq7; clear hq7; have hcr : RdTab w7 _ tTrue := hc.out.rd; have hcf : W24.Fr w7 [] := (((World.Fr.refl W24 []).alloc (.cells #[.slice none 0 0, .slice none 0 0] 25)).drew).trans hc.out.fr (by simp); have hb6 := hc.out.fr.heap (w := ((W24.alloc (.cells #[.slice none 0 0, .slice none 0 0] 25)).drew)) (heap_alloc_at W24 (.cells #[.slice none 0 0, .slice none 0 0] 25) _ rfl) (by simp); have hb6g : W24.heap.size ≤ W24.heap.size := Nat.le_refl _; obtain ⟨v0, v1, vf⟩ := two hb6; have hl6 := lt_of_heap hb6; have Hb6 := Lib.hid hb6; clear hb6) | (go_at_call 24; (with_reducible refine (Hjn.out w7 _ hcf hcr).mono ?_); rintro e w8 ⟨i1, f1, h1, i2, f2, h2, rfl, hd⟩; have hb8 := hd.out.2.heap Hb6.out (by simp); obtain ⟨s0, s1, sf⟩ := two hb8; have hl8 := lt_of_heap hb8; have Hb8 := Lib.hid hb8; have Hg8 := Lib.hid hb6g; clear hb8) | (go_at_call 24; (with_reducible refine (Hjn.out (w7.alloc (.cells #[.slice none 0 0, .slice none 0 0] 25)) _ (hcf.alloc _) (hcr.still ((World.Fr.refl w7 []).alloc _))).mono ?_); rintro e w8 ⟨i1, f1, h1, i2, f2, h2, rfl, hd⟩; have hb8 := hd.out.2.heap (heap_alloc_at w7 (.cells #[.slice none 0 0, .slice none 0 0] 25) _ rfl) (by simp); obtain ⟨s0, s1, sf⟩ := two hb8; have hl8 := lt_of_heap hb8; have Hb8 := Lib.hid hb8; have Hg8 := Lib.hid hcf.size; clear hb8) | (go_at_call 24; (with_reducible refine (Hjn.out w7 _ hcf hcr).mono ?_); rintro e w8 ⟨i1, f1, h1, i2, f2, h2, rfl, hd⟩))
              all_goals
                go_wp2_with fail
                go_meet
                case rel => first | exact ⟨rfl, _, i1, f1, h1, i2, f2, h2, rfl, Lib.hid ⟨(hd.out.1.put Hb8.out Hg8.out).1.fr, (hd.out.1.put Hb8.out Hg8.out).2, (hd.out.1.put Hb8.out Hg8.out).1.rd⟩⟩ | exact ⟨rfl, _, i1, f1, h1, i2, f2, h2, rfl, Lib.hid ⟨hd.out.1.fr.alloc _, heap_alloc_at _ _ _ rfl, hd.out.1.rd.still ((World.Fr.refl w8 []).alloc _)⟩⟩
            case rest =>
              obtain ⟨rfl, pq, q1, q2, q3, q4, q5, q6, rfl, hcc⟩ := hcut
              obtain ⟨fx, hq, hr⟩ := hcc.out
              clear hcc m0 m1 mf hlb hlb2 Hjn
              have Qa := Lib.hid (fx.heap Qa.out (by simp))
              have Ra := Lib.hid (Ra.out.still fx)
              have Qb := Lib.hid (fx.heap Qb.out (by simp))
              have Rb := Lib.hid (Rb.out.still fx)
              have Qc := Lib.hid (fx.heap Qc.out (by simp))
              have Rc := Lib.hid (Rc.out.still fx)
              have Qu := Lib.hid (fx.heap Qu.out (by simp))
              have Ru := Lib.hid (Ru.out.still fx)
              have Qv := Lib.hid (fx.heap Qv.out (by simp))
              have Rv := Lib.hid (Rv.out.still fx)
              have Qj := Lib.hid (fx.heap Qj.out (by simp))
              have Rj := Lib.hid (Rj.out.still fx)
              have Qk := Lib.hid (fx.heap Qk.out (by simp))
              have Rk := Lib.hid (Rk.out.still fx)
              have Qs := Lib.hid (fx.heap Qs.out (by simp))
              have Rs := Lib.hid (Rs.out.still fx)
              have Qt := Lib.hid (fx.heap Qt.out (by simp))
              have Rt := Lib.hid (Rt.out.still fx)
              have F := Lib.hid (F.out.trans fx (by simp))
              have Qq := Lib.hid hq; have Rq := Lib.hid hr
              clear fx hq hr
              have k := Lib.hid (g_same Fa.out.small Rs.out Ra.out)
              obtain ⟨g00, g01, g0f⟩ := two Qs.out
              have hz0 := lt_of_heap Qs.out
              obtain ⟨g10, g11, g1f⟩ := two Qa.out
              have hz1 := lt_of_heap Qa.out
              go_wp2_with fail
              (with_reducible refine k.out.mono ?_)
              rintro e w26 ⟨rfl, fx⟩
              clear k g00 g01 g0f hz0 g10 g11 g1f hz1
              have Qa := Lib.hid (fx.heap Qa.out (by simp))
              have Ra := Lib.hid (Ra.out.still fx)
              have Qb := Lib.hid (fx.heap Qb.out (by simp))
              have Rb := Lib.hid (Rb.out.still fx)
              have Qc := Lib.hid (fx.heap Qc.out (by simp))
              have Rc := Lib.hid (Rc.out.still fx)
              have Qu := Lib.hid (fx.heap Qu.out (by simp))
              have Ru := Lib.hid (Ru.out.still fx)
              have Qv := Lib.hid (fx.heap Qv.out (by simp))
              have Rv := Lib.hid (Rv.out.still fx)
              have Qj := Lib.hid (fx.heap Qj.out (by simp))
              have Rj := Lib.hid (Rj.out.still fx)
              have Qk := Lib.hid (fx.heap Qk.out (by simp))
              have Rk := Lib.hid (Rk.out.still fx)
              have Qs := Lib.hid (fx.heap Qs.out (by simp))
              have Rs := Lib.hid (Rs.out.still fx)
              have Qt := Lib.hid (fx.heap Qt.out (by simp))
              have Rt := Lib.hid (Rt.out.still fx)
              have Qq := Lib.hid (fx.heap Qq.out (by simp))
              have Rq := Lib.hid (Rq.out.still fx)
              have F := Lib.hid (F.out.trans fx (by simp))
              clear fx
              have k := Lib.hid (g_same Fa.out.small Rt.out Ra.out)
              obtain ⟨g00, g01, g0f⟩ := two Qt.out
              have hz0 := lt_of_heap Qt.out
              obtain ⟨g10, g11, g1f⟩ := two Qa.out
              have hz1 := lt_of_heap Qa.out
              go_wp2_with fail
              (with_reducible refine k.out.mono ?_)
              rintro e w27 ⟨rfl, fx⟩
              clear k g00 g01 g0f hz0 g10 g11 g1f hz1
              have Qa := Lib.hid (fx.heap Qa.out (by simp))
              have Ra := Lib.hid (Ra.out.still fx)
              have Qb := Lib.hid (fx.heap Qb.out (by simp))
              have Rb := Lib.hid (Rb.out.still fx)
              have Qc := Lib.hid (fx.heap Qc.out (by simp))
              have Rc := Lib.hid (Rc.out.still fx)
              have Qu := Lib.hid (fx.heap Qu.out (by simp))
              have Ru := Lib.hid (Ru.out.still fx)
              have Qv := Lib.hid (fx.heap Qv.out (by simp))
              have Rv := Lib.hid (Rv.out.still fx)
              have Qj := Lib.hid (fx.heap Qj.out (by simp))
              have Rj := Lib.hid (Rj.out.still fx)
              have Qk := Lib.hid (fx.heap Qk.out (by simp))
              have Rk := Lib.hid (Rk.out.still fx)
              have Qs := Lib.hid (fx.heap Qs.out (by simp))
              have Rs := Lib.hid (Rs.out.still fx)
              have Qt := Lib.hid (fx.heap Qt.out (by simp))
              have Rt := Lib.hid (Rt.out.still fx)
              have Qq := Lib.hid (fx.heap Qq.out (by simp))
              have Rq := Lib.hid (Rq.out.still fx)
              have F := Lib.hid (F.out.trans fx (by simp))
              clear fx
              have k := Lib.hid (g_same Fa.out.small Rq.out Ra.out)
              obtain ⟨g00, g01, g0f⟩ := two Qq.out
              have hz0 := lt_of_heap Qq.out
              obtain ⟨g10, g11, g1f⟩ := two Qa.out
              have hz1 := lt_of_heap Qa.out
              go_wp2_with fail
              (with_reducible refine k.out.mono ?_)
              rintro e w28 ⟨rfl, fx⟩
              clear k g00 g01 g0f hz0 g10 g11 g1f hz1
              have Qa := Lib.hid (fx.heap Qa.out (by simp))
              have Ra := Lib.hid (Ra.out.still fx)
              have Qb := Lib.hid (fx.heap Qb.out (by simp))
              have Rb := Lib.hid (Rb.out.still fx)
              have Qc := Lib.hid (fx.heap Qc.out (by simp))
              have Rc := Lib.hid (Rc.out.still fx)
              have Qu := Lib.hid (fx.heap Qu.out (by simp))
              have Ru := Lib.hid (Ru.out.still fx)
              have Qv := Lib.hid (fx.heap Qv.out (by simp))
              have Rv := Lib.hid (Rv.out.still fx)
              have Qj := Lib.hid (fx.heap Qj.out (by simp))
              have Rj := Lib.hid (Rj.out.still fx)
              have Qk := Lib.hid (fx.heap Qk.out (by simp))
              have Rk := Lib.hid (Rk.out.still fx)
              have Qs := Lib.hid (fx.heap Qs.out (by simp))
              have Rs := Lib.hid (Rs.out.still fx)
              have Qt := Lib.hid (fx.heap Qt.out (by simp))
              have Rt := Lib.hid (Rt.out.still fx)
              have Qq := Lib.hid (fx.heap Qq.out (by simp))
              have Rq := Lib.hid (Rq.out.still fx)
              have F := Lib.hid (F.out.trans fx (by simp))
              clear fx
              have k := Lib.hid (g_join HK.out Fb.out Fc.out Hbc2x.out Hbcx.out Rb.out Rc.out)
              obtain ⟨g00, g01, g0f⟩ := two Qb.out
              have hz0 := lt_of_heap Qb.out
              obtain ⟨g10, g11, g1f⟩ := two Qc.out
              have hz1 := lt_of_heap Qc.out
              go_wp2_with fail
              (with_reducible refine k.out.mono ?_)
              rintro e w29 ⟨u, rfl, ho⟩
              obtain ⟨t31a, t31b, t31c, t31d, rfl⟩ := ho.shape
              clear k g00 g01 g0f hz0 g10 g11 g1f hz1
              have Qa := Lib.hid (heap_alloc_some (ho.fr.heap Qa.out (by simp)) (.cells #[.slice t31a bc.vars.length t31b, .slice t31c bc.rows.length t31d] 25))
              have Ra := Lib.hid (Ra.out.still (ho.fr.alloc (.cells #[.slice t31a bc.vars.length t31b, .slice t31c bc.rows.length t31d] 25)))
              have Qb := Lib.hid (heap_alloc_some (ho.fr.heap Qb.out (by simp)) (.cells #[.slice t31a bc.vars.length t31b, .slice t31c bc.rows.length t31d] 25))
              have Rb := Lib.hid (Rb.out.still (ho.fr.alloc (.cells #[.slice t31a bc.vars.length t31b, .slice t31c bc.rows.length t31d] 25)))
              have Qc := Lib.hid (heap_alloc_some (ho.fr.heap Qc.out (by simp)) (.cells #[.slice t31a bc.vars.length t31b, .slice t31c bc.rows.length t31d] 25))
              have Rc := Lib.hid (Rc.out.still (ho.fr.alloc (.cells #[.slice t31a bc.vars.length t31b, .slice t31c bc.rows.length t31d] 25)))
              have Qu := Lib.hid (heap_alloc_some (ho.fr.heap Qu.out (by simp)) (.cells #[.slice t31a bc.vars.length t31b, .slice t31c bc.rows.length t31d] 25))
              have Ru := Lib.hid (Ru.out.still (ho.fr.alloc (.cells #[.slice t31a bc.vars.length t31b, .slice t31c bc.rows.length t31d] 25)))
              have Qv := Lib.hid (heap_alloc_some (ho.fr.heap Qv.out (by simp)) (.cells #[.slice t31a bc.vars.length t31b, .slice t31c bc.rows.length t31d] 25))
              have Rv := Lib.hid (Rv.out.still (ho.fr.alloc (.cells #[.slice t31a bc.vars.length t31b, .slice t31c bc.rows.length t31d] 25)))
              have Qj := Lib.hid (heap_alloc_some (ho.fr.heap Qj.out (by simp)) (.cells #[.slice t31a bc.vars.length t31b, .slice t31c bc.rows.length t31d] 25))
              have Rj := Lib.hid (Rj.out.still (ho.fr.alloc (.cells #[.slice t31a bc.vars.length t31b, .slice t31c bc.rows.length t31d] 25)))
              have Qk := Lib.hid (heap_alloc_some (ho.fr.heap Qk.out (by simp)) (.cells #[.slice t31a bc.vars.length t31b, .slice t31c bc.rows.length t31d] 25))
              have Rk := Lib.hid (Rk.out.still (ho.fr.alloc (.cells #[.slice t31a bc.vars.length t31b, .slice t31c bc.rows.length t31d] 25)))
              have Qs := Lib.hid (heap_alloc_some (ho.fr.heap Qs.out (by simp)) (.cells #[.slice t31a bc.vars.length t31b, .slice t31c bc.rows.length t31d] 25))
              have Rs := Lib.hid (Rs.out.still (ho.fr.alloc (.cells #[.slice t31a bc.vars.length t31b, .slice t31c bc.rows.length t31d] 25)))
              have Qt := Lib.hid (heap_alloc_some (ho.fr.heap Qt.out (by simp)) (.cells #[.slice t31a bc.vars.length t31b, .slice t31c bc.rows.length t31d] 25))
              have Rt := Lib.hid (Rt.out.still (ho.fr.alloc (.cells #[.slice t31a bc.vars.length t31b, .slice t31c bc.rows.length t31d] 25)))
              have Qq := Lib.hid (heap_alloc_some (ho.fr.heap Qq.out (by simp)) (.cells #[.slice t31a bc.vars.length t31b, .slice t31c bc.rows.length t31d] 25))
              have Rq := Lib.hid (Rq.out.still (ho.fr.alloc (.cells #[.slice t31a bc.vars.length t31b, .slice t31c bc.rows.length t31d] 25)))
              have F := Lib.hid (F.out.trans (ho.fr.alloc (.cells #[.slice t31a bc.vars.length t31b, .slice t31c bc.rows.length t31d] 25)) (by simp))
              have Qn := Lib.hid (heap_alloc_at w29 (.cells #[.slice t31a bc.vars.length t31b, .slice t31c bc.rows.length t31d] 25) _ rfl)
              have Rn := Lib.hid (ho.on ((World.Fr.refl w29 []).alloc (.cells #[.slice t31a bc.vars.length t31b, .slice t31c bc.rows.length t31d] 25))).rd
              clear ho
              go_upto_region 15 with (fail)
              generalize hW : World.alloc w29 _ = W30 at *
              clear hW
              generalize w29.heap.size = pn at *
              rcases HE1x.out with rfl | rfl
              · have k := Lib.hid (Hlive.out W30)
                go_wp2_with fail
                (with_reducible refine k.out.mono ?_)
                rintro e w32 ⟨rfl, fx⟩
                clear k 
                have Qa := Lib.hid (fx.heap Qa.out (by simp))
                have Ra := Lib.hid (Ra.out.still fx)
                have Qb := Lib.hid (fx.heap Qb.out (by simp))
                have Rb := Lib.hid (Rb.out.still fx)
                have Qc := Lib.hid (fx.heap Qc.out (by simp))
                have Rc := Lib.hid (Rc.out.still fx)
                have Qu := Lib.hid (fx.heap Qu.out (by simp))
                have Ru := Lib.hid (Ru.out.still fx)
                have Qv := Lib.hid (fx.heap Qv.out (by simp))
                have Rv := Lib.hid (Rv.out.still fx)
                have Qj := Lib.hid (fx.heap Qj.out (by simp))
                have Rj := Lib.hid (Rj.out.still fx)
                have Qk := Lib.hid (fx.heap Qk.out (by simp))
                have Rk := Lib.hid (Rk.out.still fx)
                have Qs := Lib.hid (fx.heap Qs.out (by simp))
                have Rs := Lib.hid (Rs.out.still fx)
                have Qt := Lib.hid (fx.heap Qt.out (by simp))
                have Rt := Lib.hid (Rt.out.still fx)
                have Qq := Lib.hid (fx.heap Qq.out (by simp))
                have Rq := Lib.hid (Rq.out.still fx)
                have Qn := Lib.hid (fx.heap Qn.out (by simp))
                have Rn := Lib.hid (Rn.out.still fx)
                have F := Lib.hid (F.out.trans fx (by simp))
                clear fx
                go_wp2
                go_ret
                exact ⟨rfl, F.out⟩
              · rcases HE2x.out with rfl | rfl
                · have k := Lib.hid (Hlive.out W30)
                  go_wp2_with fail
                  (with_reducible refine k.out.mono ?_)
                  rintro e w32 ⟨rfl, fx⟩
                  clear k 
                  have Qa := Lib.hid (fx.heap Qa.out (by simp))
                  have Ra := Lib.hid (Ra.out.still fx)
                  have Qb := Lib.hid (fx.heap Qb.out (by simp))
                  have Rb := Lib.hid (Rb.out.still fx)
                  have Qc := Lib.hid (fx.heap Qc.out (by simp))
                  have Rc := Lib.hid (Rc.out.still fx)
                  have Qu := Lib.hid (fx.heap Qu.out (by simp))
                  have Ru := Lib.hid (Ru.out.still fx)
                  have Qv := Lib.hid (fx.heap Qv.out (by simp))
                  have Rv := Lib.hid (Rv.out.still fx)
                  have Qj := Lib.hid (fx.heap Qj.out (by simp))
                  have Rj := Lib.hid (Rj.out.still fx)
                  have Qk := Lib.hid (fx.heap Qk.out (by simp))
                  have Rk := Lib.hid (Rk.out.still fx)
                  have Qs := Lib.hid (fx.heap Qs.out (by simp))
                  have Rs := Lib.hid (Rs.out.still fx)
                  have Qt := Lib.hid (fx.heap Qt.out (by simp))
                  have Rt := Lib.hid (Rt.out.still fx)
                  have Qq := Lib.hid (fx.heap Qq.out (by simp))
                  have Rq := Lib.hid (Rq.out.still fx)
                  have Qn := Lib.hid (fx.heap Qn.out (by simp))
                  have Rn := Lib.hid (Rn.out.still fx)
                  have F := Lib.hid (F.out.trans fx (by simp))
                  clear fx
                  go_wp2
                  go_ret
                  exact ⟨rfl, F.out⟩
                · obtain ⟨m1, m2, Ex, x, hx1, hx2, hsx⟩ := Hlastx.out rfl rfl
                  have Hm1 := Lib.hid m1; have Hm2 := Lib.hid m2; have Hx1 := Lib.hid hx1; have Hx2 := Lib.hid hx2; have Hsx := Lib.hid hsx
                  clear m1 m2 hx1 hx2 hsx
                  have k := Lib.hid (g_join HK.out Hfjx.out Fc.out Hm1.out Hx1.out Rj.out Rc.out)
                  obtain ⟨g00, g01, g0f⟩ := two Qj.out
                  have hz0 := lt_of_heap Qj.out
                  obtain ⟨g10, g11, g1f⟩ := two Qc.out
                  have hz1 := lt_of_heap Qc.out
                  go_wp2_with fail
                  (with_reducible refine k.out.mono ?_)
                  rintro e w32 ⟨u, rfl, ho⟩
                  obtain ⟨t34a, t34b, t34c, t34d, rfl⟩ := ho.shape
                  clear k g00 g01 g0f hz0 g10 g11 g1f hz1
                  have Qa := Lib.hid (heap_alloc_some (ho.fr.heap Qa.out (by simp)) (.cells #[.slice t34a x.vars.length t34b, .slice t34c x.rows.length t34d] 25))
                  have Ra := Lib.hid (Ra.out.still (ho.fr.alloc (.cells #[.slice t34a x.vars.length t34b, .slice t34c x.rows.length t34d] 25)))
                  have Qb := Lib.hid (heap_alloc_some (ho.fr.heap Qb.out (by simp)) (.cells #[.slice t34a x.vars.length t34b, .slice t34c x.rows.length t34d] 25))
                  have Rb := Lib.hid (Rb.out.still (ho.fr.alloc (.cells #[.slice t34a x.vars.length t34b, .slice t34c x.rows.length t34d] 25)))
                  have Qc := Lib.hid (heap_alloc_some (ho.fr.heap Qc.out (by simp)) (.cells #[.slice t34a x.vars.length t34b, .slice t34c x.rows.length t34d] 25))
                  have Rc := Lib.hid (Rc.out.still (ho.fr.alloc (.cells #[.slice t34a x.vars.length t34b, .slice t34c x.rows.length t34d] 25)))
                  have Qu := Lib.hid (heap_alloc_some (ho.fr.heap Qu.out (by simp)) (.cells #[.slice t34a x.vars.length t34b, .slice t34c x.rows.length t34d] 25))
                  have Ru := Lib.hid (Ru.out.still (ho.fr.alloc (.cells #[.slice t34a x.vars.length t34b, .slice t34c x.rows.length t34d] 25)))
                  have Qv := Lib.hid (heap_alloc_some (ho.fr.heap Qv.out (by simp)) (.cells #[.slice t34a x.vars.length t34b, .slice t34c x.rows.length t34d] 25))
                  have Rv := Lib.hid (Rv.out.still (ho.fr.alloc (.cells #[.slice t34a x.vars.length t34b, .slice t34c x.rows.length t34d] 25)))
                  have Qj := Lib.hid (heap_alloc_some (ho.fr.heap Qj.out (by simp)) (.cells #[.slice t34a x.vars.length t34b, .slice t34c x.rows.length t34d] 25))
                  have Rj := Lib.hid (Rj.out.still (ho.fr.alloc (.cells #[.slice t34a x.vars.length t34b, .slice t34c x.rows.length t34d] 25)))
                  have Qk := Lib.hid (heap_alloc_some (ho.fr.heap Qk.out (by simp)) (.cells #[.slice t34a x.vars.length t34b, .slice t34c x.rows.length t34d] 25))
                  have Rk := Lib.hid (Rk.out.still (ho.fr.alloc (.cells #[.slice t34a x.vars.length t34b, .slice t34c x.rows.length t34d] 25)))
                  have Qs := Lib.hid (heap_alloc_some (ho.fr.heap Qs.out (by simp)) (.cells #[.slice t34a x.vars.length t34b, .slice t34c x.rows.length t34d] 25))
                  have Rs := Lib.hid (Rs.out.still (ho.fr.alloc (.cells #[.slice t34a x.vars.length t34b, .slice t34c x.rows.length t34d] 25)))
                  have Qt := Lib.hid (heap_alloc_some (ho.fr.heap Qt.out (by simp)) (.cells #[.slice t34a x.vars.length t34b, .slice t34c x.rows.length t34d] 25))
                  have Rt := Lib.hid (Rt.out.still (ho.fr.alloc (.cells #[.slice t34a x.vars.length t34b, .slice t34c x.rows.length t34d] 25)))
                  have Qq := Lib.hid (heap_alloc_some (ho.fr.heap Qq.out (by simp)) (.cells #[.slice t34a x.vars.length t34b, .slice t34c x.rows.length t34d] 25))
                  have Rq := Lib.hid (Rq.out.still (ho.fr.alloc (.cells #[.slice t34a x.vars.length t34b, .slice t34c x.rows.length t34d] 25)))
                  have Qn := Lib.hid (heap_alloc_some (ho.fr.heap Qn.out (by simp)) (.cells #[.slice t34a x.vars.length t34b, .slice t34c x.rows.length t34d] 25))
                  have Rn := Lib.hid (Rn.out.still (ho.fr.alloc (.cells #[.slice t34a x.vars.length t34b, .slice t34c x.rows.length t34d] 25)))
                  have F := Lib.hid (F.out.trans (ho.fr.alloc (.cells #[.slice t34a x.vars.length t34b, .slice t34c x.rows.length t34d] 25)) (by simp))
                  have Qx := Lib.hid (heap_alloc_at w32 (.cells #[.slice t34a x.vars.length t34b, .slice t34c x.rows.length t34d] 25) _ rfl)
                  have Rx := Lib.hid (ho.on ((World.Fr.refl w32 []).alloc (.cells #[.slice t34a x.vars.length t34b, .slice t34c x.rows.length t34d] 25))).rd
                  clear ho
                  go_upto_region 18 with (fail)
                  generalize hW : World.alloc w32 _ = W33 at *
                  clear hW
                  generalize w32.heap.size = px at *
                  have k := Lib.hid (g_join HK.out Fa.out Hfbx.out Hm2.out Hx2.out Ra.out Rn.out)
                  obtain ⟨g00, g01, g0f⟩ := two Qa.out
                  have hz0 := lt_of_heap Qa.out
                  obtain ⟨g10, g11, g1f⟩ := two Qn.out
                  have hz1 := lt_of_heap Qn.out
                  go_wp2_with fail
                  (with_reducible refine k.out.mono ?_)
                  rintro e w35 ⟨u, rfl, ho⟩
                  obtain ⟨t37a, t37b, t37c, t37d, rfl⟩ := ho.shape
                  clear k g00 g01 g0f hz0 g10 g11 g1f hz1
                  have Qa := Lib.hid (heap_alloc_some (ho.fr.heap Qa.out (by simp)) (.cells #[.slice t37a x.vars.length t37b, .slice t37c x.rows.length t37d] 25))
                  have Ra := Lib.hid (Ra.out.still (ho.fr.alloc (.cells #[.slice t37a x.vars.length t37b, .slice t37c x.rows.length t37d] 25)))
                  have Qb := Lib.hid (heap_alloc_some (ho.fr.heap Qb.out (by simp)) (.cells #[.slice t37a x.vars.length t37b, .slice t37c x.rows.length t37d] 25))
                  have Rb := Lib.hid (Rb.out.still (ho.fr.alloc (.cells #[.slice t37a x.vars.length t37b, .slice t37c x.rows.length t37d] 25)))
                  have Qc := Lib.hid (heap_alloc_some (ho.fr.heap Qc.out (by simp)) (.cells #[.slice t37a x.vars.length t37b, .slice t37c x.rows.length t37d] 25))
                  have Rc := Lib.hid (Rc.out.still (ho.fr.alloc (.cells #[.slice t37a x.vars.length t37b, .slice t37c x.rows.length t37d] 25)))
                  have Qu := Lib.hid (heap_alloc_some (ho.fr.heap Qu.out (by simp)) (.cells #[.slice t37a x.vars.length t37b, .slice t37c x.rows.length t37d] 25))
                  have Ru := Lib.hid (Ru.out.still (ho.fr.alloc (.cells #[.slice t37a x.vars.length t37b, .slice t37c x.rows.length t37d] 25)))
                  have Qv := Lib.hid (heap_alloc_some (ho.fr.heap Qv.out (by simp)) (.cells #[.slice t37a x.vars.length t37b, .slice t37c x.rows.length t37d] 25))
                  have Rv := Lib.hid (Rv.out.still (ho.fr.alloc (.cells #[.slice t37a x.vars.length t37b, .slice t37c x.rows.length t37d] 25)))
                  have Qj := Lib.hid (heap_alloc_some (ho.fr.heap Qj.out (by simp)) (.cells #[.slice t37a x.vars.length t37b, .slice t37c x.rows.length t37d] 25))
                  have Rj := Lib.hid (Rj.out.still (ho.fr.alloc (.cells #[.slice t37a x.vars.length t37b, .slice t37c x.rows.length t37d] 25)))
                  have Qk := Lib.hid (heap_alloc_some (ho.fr.heap Qk.out (by simp)) (.cells #[.slice t37a x.vars.length t37b, .slice t37c x.rows.length t37d] 25))
                  have Rk := Lib.hid (Rk.out.still (ho.fr.alloc (.cells #[.slice t37a x.vars.length t37b, .slice t37c x.rows.length t37d] 25)))
                  have Qs := Lib.hid (heap_alloc_some (ho.fr.heap Qs.out (by simp)) (.cells #[.slice t37a x.vars.length t37b, .slice t37c x.rows.length t37d] 25))
                  have Rs := Lib.hid (Rs.out.still (ho.fr.alloc (.cells #[.slice t37a x.vars.length t37b, .slice t37c x.rows.length t37d] 25)))
                  have Qt := Lib.hid (heap_alloc_some (ho.fr.heap Qt.out (by simp)) (.cells #[.slice t37a x.vars.length t37b, .slice t37c x.rows.length t37d] 25))
                  have Rt := Lib.hid (Rt.out.still (ho.fr.alloc (.cells #[.slice t37a x.vars.length t37b, .slice t37c x.rows.length t37d] 25)))
                  have Qq := Lib.hid (heap_alloc_some (ho.fr.heap Qq.out (by simp)) (.cells #[.slice t37a x.vars.length t37b, .slice t37c x.rows.length t37d] 25))
                  have Rq := Lib.hid (Rq.out.still (ho.fr.alloc (.cells #[.slice t37a x.vars.length t37b, .slice t37c x.rows.length t37d] 25)))
                  have Qn := Lib.hid (heap_alloc_some (ho.fr.heap Qn.out (by simp)) (.cells #[.slice t37a x.vars.length t37b, .slice t37c x.rows.length t37d] 25))
                  have Rn := Lib.hid (Rn.out.still (ho.fr.alloc (.cells #[.slice t37a x.vars.length t37b, .slice t37c x.rows.length t37d] 25)))
                  have Qx := Lib.hid (heap_alloc_some (ho.fr.heap Qx.out (by simp)) (.cells #[.slice t37a x.vars.length t37b, .slice t37c x.rows.length t37d] 25))
                  have Rx := Lib.hid (Rx.out.still (ho.fr.alloc (.cells #[.slice t37a x.vars.length t37b, .slice t37c x.rows.length t37d] 25)))
                  have F := Lib.hid (F.out.trans (ho.fr.alloc (.cells #[.slice t37a x.vars.length t37b, .slice t37c x.rows.length t37d] 25)) (by simp))
                  have Qy := Lib.hid (heap_alloc_at w35 (.cells #[.slice t37a x.vars.length t37b, .slice t37c x.rows.length t37d] 25) _ rfl)
                  have Ry := Lib.hid (ho.on ((World.Fr.refl w35 []).alloc (.cells #[.slice t37a x.vars.length t37b, .slice t37c x.rows.length t37d] 25))).rd
                  clear ho
                  go_upto_region 19 with (fail)
                  generalize hW : World.alloc w35 _ = W36 at *
                  clear hW
                  generalize w35.heap.size = py at *
                  have k := Lib.hid (Hlive.out W36)
                  go_wp2_with fail
                  (with_reducible refine k.out.mono ?_)
                  rintro e w38 ⟨rfl, fx⟩
                  clear k 
                  have Qa := Lib.hid (fx.heap Qa.out (by simp))
                  have Ra := Lib.hid (Ra.out.still fx)
                  have Qb := Lib.hid (fx.heap Qb.out (by simp))
                  have Rb := Lib.hid (Rb.out.still fx)
                  have Qc := Lib.hid (fx.heap Qc.out (by simp))
                  have Rc := Lib.hid (Rc.out.still fx)
                  have Qu := Lib.hid (fx.heap Qu.out (by simp))
                  have Ru := Lib.hid (Ru.out.still fx)
                  have Qv := Lib.hid (fx.heap Qv.out (by simp))
                  have Rv := Lib.hid (Rv.out.still fx)
                  have Qj := Lib.hid (fx.heap Qj.out (by simp))
                  have Rj := Lib.hid (Rj.out.still fx)
                  have Qk := Lib.hid (fx.heap Qk.out (by simp))
                  have Rk := Lib.hid (Rk.out.still fx)
                  have Qs := Lib.hid (fx.heap Qs.out (by simp))
                  have Rs := Lib.hid (Rs.out.still fx)
                  have Qt := Lib.hid (fx.heap Qt.out (by simp))
                  have Rt := Lib.hid (Rt.out.still fx)
                  have Qq := Lib.hid (fx.heap Qq.out (by simp))
                  have Rq := Lib.hid (Rq.out.still fx)
                  have Qn := Lib.hid (fx.heap Qn.out (by simp))
                  have Rn := Lib.hid (Rn.out.still fx)
                  have Qx := Lib.hid (fx.heap Qx.out (by simp))
                  have Rx := Lib.hid (Rx.out.still fx)
                  have Qy := Lib.hid (fx.heap Qy.out (by simp))
                  have Ry := Lib.hid (Ry.out.still fx)
                  have F := Lib.hid (F.out.trans fx (by simp))
                  clear fx
                  have k := Lib.hid (both40 (E := Ex) Hsx.out Rx.out Ry.out)
                  obtain ⟨g00, g01, g0f⟩ := two Qx.out
                  have hz0 := lt_of_heap Qx.out
                  obtain ⟨g10, g11, g1f⟩ := two Qy.out
                  have hz1 := lt_of_heap Qy.out
                  go_wp2_with fail
                  (with_reducible refine k.out.mono ?_)
                  rintro e w39 ⟨rfl, fx⟩
                  clear k g00 g01 g0f hz0 g10 g11 g1f hz1
                  have Qa := Lib.hid (fx.heap Qa.out (by simp))
                  have Ra := Lib.hid (Ra.out.still fx)
                  have Qb := Lib.hid (fx.heap Qb.out (by simp))
                  have Rb := Lib.hid (Rb.out.still fx)
                  have Qc := Lib.hid (fx.heap Qc.out (by simp))
                  have Rc := Lib.hid (Rc.out.still fx)
                  have Qu := Lib.hid (fx.heap Qu.out (by simp))
                  have Ru := Lib.hid (Ru.out.still fx)
                  have Qv := Lib.hid (fx.heap Qv.out (by simp))
                  have Rv := Lib.hid (Rv.out.still fx)
                  have Qj := Lib.hid (fx.heap Qj.out (by simp))
                  have Rj := Lib.hid (Rj.out.still fx)
                  have Qk := Lib.hid (fx.heap Qk.out (by simp))
                  have Rk := Lib.hid (Rk.out.still fx)
                  have Qs := Lib.hid (fx.heap Qs.out (by simp))
                  have Rs := Lib.hid (Rs.out.still fx)
                  have Qt := Lib.hid (fx.heap Qt.out (by simp))
                  have Rt := Lib.hid (Rt.out.still fx)
                  have Qq := Lib.hid (fx.heap Qq.out (by simp))
                  have Rq := Lib.hid (Rq.out.still fx)
                  have Qn := Lib.hid (fx.heap Qn.out (by simp))
                  have Rn := Lib.hid (Rn.out.still fx)
                  have Qx := Lib.hid (fx.heap Qx.out (by simp))
                  have Rx := Lib.hid (Rx.out.still fx)
                  have Qy := Lib.hid (fx.heap Qy.out (by simp))
                  have Ry := Lib.hid (Ry.out.still fx)
                  have F := Lib.hid (F.out.trans fx (by simp))
                  clear fx
                  go_wp2
                  go_ret
                  exact ⟨rfl, F.out⟩
          · have e1 : (tc == 0) = false := beq_eq_false_iff_ne.2 hc0
            have e2 : (tc != 0) = true := by simp [hc0]
            clear hc0
            have k := Lib.hid (Hlive.out w5)
            go_wp2_with fail
            (with_reducible refine k.out.mono ?_)
            rintro e w6 ⟨rfl, fx⟩
            clear k 
            have Qa := Lib.hid (fx.heap Qa.out (by simp))
            have Ra := Lib.hid (Ra.out.still fx)
            have Qb := Lib.hid (fx.heap Qb.out (by simp))
            have Rb := Lib.hid (Rb.out.still fx)
            have Qc := Lib.hid (fx.heap Qc.out (by simp))
            have Rc := Lib.hid (Rc.out.still fx)
            have F := Lib.hid (F.out.trans fx (by simp))
            clear fx
            go_wp2
            go_ret
            exact ⟨rfl, F.out⟩
        · have e1 : (tb == 0) = false := beq_eq_false_iff_ne.2 hb0
          have e2 : (tb != 0) = true := by simp [hb0]
          clear hb0
          have k := Lib.hid (Hlive.out w4)
          go_wp2_with fail
          (with_reducible refine k.out.mono ?_)
          rintro e w5 ⟨rfl, fx⟩
          clear k 
          have Qa := Lib.hid (fx.heap Qa.out (by simp))
          have Ra := Lib.hid (Ra.out.still fx)
          have Qb := Lib.hid (fx.heap Qb.out (by simp))
          have Rb := Lib.hid (Rb.out.still fx)
          have Qc := Lib.hid (fx.heap Qc.out (by simp))
          have Rc := Lib.hid (Rc.out.still fx)
          have F := Lib.hid (F.out.trans fx (by simp))
          clear fx
          go_wp2
          go_ret
          exact ⟨rfl, F.out⟩
      · have e1 : (ta == 0) = false := beq_eq_false_iff_ne.2 ha0
        have e2 : (ta != 0) = true := by simp [ha0]
        clear ha0
        have k := Lib.hid (Hlive.out w3)
        go_wp2_with fail
        (with_reducible refine k.out.mono ?_)
        rintro e w4 ⟨rfl, fx⟩
        clear k 
        have Qa := Lib.hid (fx.heap Qa.out (by simp))
        have Ra := Lib.hid (Ra.out.still fx)
        have Qb := Lib.hid (fx.heap Qb.out (by simp))
        have Rb := Lib.hid (Rb.out.still fx)
        have Qc := Lib.hid (fx.heap Qc.out (by simp))
        have Rc := Lib.hid (Rc.out.still fx)
        have F := Lib.hid (F.out.trans fx (by simp))
        clear fx
        go_wp2
        go_ret
        exact ⟨rfl, F.out⟩
end Go.Proofs.YtikodapgceokhaaGreat
