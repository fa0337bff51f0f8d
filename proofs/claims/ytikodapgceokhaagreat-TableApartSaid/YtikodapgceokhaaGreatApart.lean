/-
  The walk of the statement TableApart (live's contract as a hypothesis; joined later).
-/
import Derived.Test.YtikodapgceokhaaGreatGo1
namespace Go.Proofs.YtikodapgceokhaaGreat
open Go.RowKit

set_option maxRecDepth 100000 in
set_option maxHeartbeats 8000000 in
theorem apart12 {cf : V → V → Int} (live : ∀ w, Calls Tryz.prog 18 #[] w fun e w' => e = .returned (.bool true) ∧ w.Fr w' []) (hK : Ctx V.wf cf) {w : World} {v1 v2 : Value} {a b : Tb} (h0 : RdTab w v1 a) (h1 : RdTab w v2 b) (sa : Fit14 a) (sb : Fit14 b) :
    Calls Tryz.prog 12 #[v1, v2] w fun e w' => e = .returned (.bool true) ∧ w.Fr w' [] := by
  have fa : Fits V.wf a := ⟨sa.small, sa.rows, h0.wf⟩
  have fb : Fits V.wf b := ⟨sb.small, sb.rows, h1.wf⟩
  obtain ⟨x0, y0, hs0, rfl, hv0, hr0⟩ := h0.ex
  obtain ⟨a1, a2, rfl, _, _⟩ := hv0.rd.shape
  obtain ⟨a3, a4, rfl, _, _⟩ := hr0.rd.shape
  have hlen0 := hr0.len
  rw [hlen0] at h0 ⊢
  clear hv0 hr0 hlen0
  obtain ⟨x1, y1, hs1, rfl, hv1, hr1⟩ := h1.ex
  obtain ⟨b1, b2, rfl, _, _⟩ := hv1.rd.shape
  obtain ⟨b3, b4, rfl, _, _⟩ := hr1.rd.shape
  have hlen1 := hr1.len
  rw [hlen1] at h1 ⊢
  clear hv1 hr1 hlen1
  have qa := heap_alloc_some (heap_alloc_at w (.cells #[.slice a1 a.vars.length a2, .slice a3 a.rows.length a4] 25) _ rfl) (.cells #[.slice b1 b.vars.length b2, .slice b3 b.rows.length b4] 25)
  have qb := heap_alloc_at (w.alloc (.cells #[.slice a1 a.vars.length a2, .slice a3 a.rows.length a4] 25)) (.cells #[.slice b1 b.vars.length b2, .slice b3 b.rows.length b4] 25) (w.heap.size + 1) (by simp)
  have f := ((World.Fr.refl w []).alloc (.cells #[.slice a1 a.vars.length a2, .slice a3 a.rows.length a4] 25)).alloc (.cells #[.slice b1 b.vars.length b2, .slice b3 b.rows.length b4] 25)
  have ra := h0.still f
  have rb := h1.still f
  have HK := Lib.hid hK; have Fa := Lib.hid fa; have Fb := Lib.hid fb; have Hlive := Lib.hid live
  clear h0 h1 sa sb fa fb hK live
  go_enter Tryz.func12, Tryz.ntmps12
  go_upto_region 1 with (fail)
  generalize hW : World.alloc (World.alloc w _) _ = W at *
  clear hW
  generalize w.heap.size = pa at *
  have Qa := Lib.hid qa; have Qb := Lib.hid qb; have F := Lib.hid f; have Ra := Lib.hid ra; have Rb := Lib.hid rb
  clear qa qb f ra rb
  have k := Lib.hid (light_two (W := W) (x1 := a1) (x2 := a3) (y1 := b1) (y2 := b3) (n1 := a.vars.length) (n2 := a.rows.length) (m1 := b.vars.length) (m2 := b.rows.length) (c1 := a2) (c2 := a4) (d1 := b2) (d2 := b4) Fa.out.rows Fb.out.rows)
  obtain ⟨g00, g01, g0f⟩ := two Qa.out
  have hz0 := lt_of_heap Qa.out
  obtain ⟨g10, g11, g1f⟩ := two Qb.out
  have hz1 := lt_of_heap Qb.out
  go_wp2_with fail
  (with_reducible refine k.out.mono ?_)
  rintro e w1 ⟨rfl, fx⟩
  clear k g00 g01 g0f hz0 g10 g11 g1f hz1
  have Qa := Lib.hid (fx.heap Qa.out (by simp))
  have Ra := Lib.hid (Ra.out.still fx)
  have Qb := Lib.hid (fx.heap Qb.out (by simp))
  have Rb := Lib.hid (Rb.out.still fx)
  have F := Lib.hid (F.out.trans fx (by simp))
  clear fx
  have hlt := light2b (x := a.rows.length) (y := b.rows.length)
  have Hlt := Lib.hid hlt
  clear hlt
  cases hL : lightF 1 [a.rows.length, b.rows.length] with
  | false =>
    have k := Lib.hid (Hlive.out w1)
    go_wp2_with fail
    (with_reducible refine k.out.mono ?_)
    rintro e w2 ⟨rfl, fx⟩
    clear k 
    have Qa := Lib.hid (fx.heap Qa.out (by simp))
    have Ra := Lib.hid (Ra.out.still fx)
    have Qb := Lib.hid (fx.heap Qb.out (by simp))
    have Rb := Lib.hid (Rb.out.still fx)
    have F := Lib.hid (F.out.trans fx (by simp))
    clear fx
    go_wp2
    go_ret
    exact ⟨rfl, F.out⟩
  | true =>
    have hm := Hlt.out hL
    have Hm := Lib.hid hm
    clear hm hL Hlt
    by_cases hz : bothE cf a b = 0
    · obtain ⟨e1, e2⟩ := bothE_zero hz
      have ga := good_of HK.out.ord e1 Fa.out.ok
      have gb := good_of HK.out.ord e2 Fb.out.ok
      obtain ⟨n, E2, m, E3, j, hn, hsn, hm2, hE2, hj, hE3⟩ := apart_plain HK.out.ord ga gb Hm.out.1 (by have := Hm.out.2.1; omega)
      have hal : a.vars.length ≤ 8 := ga.len
      have Hn := Lib.hid hn; have Hsn := Lib.hid hsn; have Hm2 := Lib.hid hm2; have HE2 := Lib.hid hE2; have Hj := Lib.hid hj; have HE3 := Lib.hid hE3; have Hal := Lib.hid hal
      clear hn hsn hm2 hE2 hj hE3 hal ga gb e1 e2 hz
      have k := Lib.hid (g_anti HK.out Fa.out Fb.out Hn.out Ra.out Rb.out)
      obtain ⟨g00, g01, g0f⟩ := two Qa.out
      have hz0 := lt_of_heap Qa.out
      obtain ⟨g10, g11, g1f⟩ := two Qb.out
      have hz1 := lt_of_heap Qb.out
      go_wp2_with fail
      (with_reducible refine k.out.mono ?_)
      rintro e w2 ⟨u, rfl, ho⟩
      obtain ⟨t4a, t4b, t4c, t4d, rfl⟩ := ho.shape
      clear k g00 g01 g0f hz0 g10 g11 g1f hz1
      have Qa := Lib.hid (heap_alloc_some (ho.fr.heap Qa.out (by simp)) (.cells #[.slice t4a n.vars.length t4b, .slice t4c n.rows.length t4d] 25))
      have Ra := Lib.hid (Ra.out.still (ho.fr.alloc (.cells #[.slice t4a n.vars.length t4b, .slice t4c n.rows.length t4d] 25)))
      have Qb := Lib.hid (heap_alloc_some (ho.fr.heap Qb.out (by simp)) (.cells #[.slice t4a n.vars.length t4b, .slice t4c n.rows.length t4d] 25))
      have Rb := Lib.hid (Rb.out.still (ho.fr.alloc (.cells #[.slice t4a n.vars.length t4b, .slice t4c n.rows.length t4d] 25)))
      have F := Lib.hid (F.out.trans (ho.fr.alloc (.cells #[.slice t4a n.vars.length t4b, .slice t4c n.rows.length t4d] 25)) (by simp))
      have Qn := Lib.hid (heap_alloc_at w2 (.cells #[.slice t4a n.vars.length t4b, .slice t4c n.rows.length t4d] 25) _ rfl)
      have Rn := Lib.hid (ho.on ((World.Fr.refl w2 []).alloc (.cells #[.slice t4a n.vars.length t4b, .slice t4c n.rows.length t4d] 25))).rd
      clear ho
      go_upto_region 6 with (fail)
      generalize hW : World.alloc w2 _ = W3 at *
      clear hW
      generalize w2.heap.size = pn at *
      have k := Lib.hid (g_minus HK.out Fa.out Fb.out Hm2.out Ra.out Rb.out)
      obtain ⟨g00, g01, g0f⟩ := two Qa.out
      have hz0 := lt_of_heap Qa.out
      obtain ⟨g10, g11, g1f⟩ := two Qb.out
      have hz1 := lt_of_heap Qb.out
      go_wp2_with fail
      (with_reducible refine k.out.mono ?_)
      rintro e w5 ⟨u, rfl, ho⟩
      obtain ⟨t7a, t7b, t7c, t7d, rfl⟩ := ho.shape
      clear k g00 g01 g0f hz0 g10 g11 g1f hz1
      have Qa := Lib.hid (heap_alloc_some (ho.fr.heap Qa.out (by simp)) (.cells #[.slice t7a m.vars.length t7b, .slice t7c m.rows.length t7d] 25))
      have Ra := Lib.hid (Ra.out.still (ho.fr.alloc (.cells #[.slice t7a m.vars.length t7b, .slice t7c m.rows.length t7d] 25)))
      have Qb := Lib.hid (heap_alloc_some (ho.fr.heap Qb.out (by simp)) (.cells #[.slice t7a m.vars.length t7b, .slice t7c m.rows.length t7d] 25))
      have Rb := Lib.hid (Rb.out.still (ho.fr.alloc (.cells #[.slice t7a m.vars.length t7b, .slice t7c m.rows.length t7d] 25)))
      have Qn := Lib.hid (heap_alloc_some (ho.fr.heap Qn.out (by simp)) (.cells #[.slice t7a m.vars.length t7b, .slice t7c m.rows.length t7d] 25))
      have Rn := Lib.hid (Rn.out.still (ho.fr.alloc (.cells #[.slice t7a m.vars.length t7b, .slice t7c m.rows.length t7d] 25)))
      have F := Lib.hid (F.out.trans (ho.fr.alloc (.cells #[.slice t7a m.vars.length t7b, .slice t7c m.rows.length t7d] 25)) (by simp))
      have Qm := Lib.hid (heap_alloc_at w5 (.cells #[.slice t7a m.vars.length t7b, .slice t7c m.rows.length t7d] 25) _ rfl)
      have Rm := Lib.hid (ho.on ((World.Fr.refl w5 []).alloc (.cells #[.slice t7a m.vars.length t7b, .slice t7c m.rows.length t7d] 25))).rd
      clear ho
      go_upto_region 7 with (fail)
      generalize hW : World.alloc w5 _ = W6 at *
      clear hW
      generalize w5.heap.size = pm at *
      rcases HE2.out with ⟨rfl, rfl⟩ | rfl
      · clear HE2
        have k := Lib.hid (g_same Hsn.out Rm.out Rn.out)
        obtain ⟨g00, g01, g0f⟩ := two Qm.out
        have hz0 := lt_of_heap Qm.out
        obtain ⟨g10, g11, g1f⟩ := two Qn.out
        have hz1 := lt_of_heap Qn.out
        go_wp2_with fail
        (with_reducible refine k.out.mono ?_)
        rintro e w8 ⟨rfl, fx⟩
        clear k g00 g01 g0f hz0 g10 g11 g1f hz1
        have Qa := Lib.hid (fx.heap Qa.out (by simp))
        have Ra := Lib.hid (Ra.out.still fx)
        have Qb := Lib.hid (fx.heap Qb.out (by simp))
        have Rb := Lib.hid (Rb.out.still fx)
        have Qn := Lib.hid (fx.heap Qn.out (by simp))
        have Rn := Lib.hid (Rn.out.still fx)
        have Qm := Lib.hid (fx.heap Qm.out (by simp))
        have Rm := Lib.hid (Rm.out.still fx)
        have F := Lib.hid (F.out.trans fx (by simp))
        clear fx
        have k := Lib.hid (g_join HK.out Fa.out Fb.out (by have := Hm.out.1; omega) Hj.out Ra.out Rb.out)
        obtain ⟨g00, g01, g0f⟩ := two Qa.out
        have hz0 := lt_of_heap Qa.out
        obtain ⟨g10, g11, g1f⟩ := two Qb.out
        have hz1 := lt_of_heap Qb.out
        go_wp2_with fail
        (with_reducible refine k.out.mono ?_)
        rintro e w9 ⟨u, rfl, ho⟩
        obtain ⟨t11a, t11b, t11c, t11d, rfl⟩ := ho.shape
        clear k g00 g01 g0f hz0 g10 g11 g1f hz1
        have Qa := Lib.hid (heap_alloc_some (ho.fr.heap Qa.out (by simp)) (.cells #[.slice t11a j.vars.length t11b, .slice t11c j.rows.length t11d] 25))
        have Ra := Lib.hid (Ra.out.still (ho.fr.alloc (.cells #[.slice t11a j.vars.length t11b, .slice t11c j.rows.length t11d] 25)))
        have Qb := Lib.hid (heap_alloc_some (ho.fr.heap Qb.out (by simp)) (.cells #[.slice t11a j.vars.length t11b, .slice t11c j.rows.length t11d] 25))
        have Rb := Lib.hid (Rb.out.still (ho.fr.alloc (.cells #[.slice t11a j.vars.length t11b, .slice t11c j.rows.length t11d] 25)))
        have Qn := Lib.hid (heap_alloc_some (ho.fr.heap Qn.out (by simp)) (.cells #[.slice t11a j.vars.length t11b, .slice t11c j.rows.length t11d] 25))
        have Rn := Lib.hid (Rn.out.still (ho.fr.alloc (.cells #[.slice t11a j.vars.length t11b, .slice t11c j.rows.length t11d] 25)))
        have Qm := Lib.hid (heap_alloc_some (ho.fr.heap Qm.out (by simp)) (.cells #[.slice t11a j.vars.length t11b, .slice t11c j.rows.length t11d] 25))
        have Rm := Lib.hid (Rm.out.still (ho.fr.alloc (.cells #[.slice t11a j.vars.length t11b, .slice t11c j.rows.length t11d] 25)))
        have F := Lib.hid (F.out.trans (ho.fr.alloc (.cells #[.slice t11a j.vars.length t11b, .slice t11c j.rows.length t11d] 25)) (by simp))
        have Qj := Lib.hid (heap_alloc_at w9 (.cells #[.slice t11a j.vars.length t11b, .slice t11c j.rows.length t11d] 25) _ rfl)
        have Rj := Lib.hid (ho.on ((World.Fr.refl w9 []).alloc (.cells #[.slice t11a j.vars.length t11b, .slice t11c j.rows.length t11d] 25))).rd
        clear ho
        go_upto_region 10 with (fail)
        generalize hW : World.alloc w9 _ = W10 at *
        clear hW
        generalize w9.heap.size = pj at *
        rcases HE3.out with rfl | ⟨rfl, fj, p, d, hp, fp, hd, fd, hdp, hu, hdn⟩
        · have k := Lib.hid (Hlive.out W10)
          go_wp2_with fail
          (with_reducible refine k.out.mono ?_)
          rintro e w12 ⟨rfl, fx⟩
          clear k 
          have Qa := Lib.hid (fx.heap Qa.out (by simp))
          have Ra := Lib.hid (Ra.out.still fx)
          have Qb := Lib.hid (fx.heap Qb.out (by simp))
          have Rb := Lib.hid (Rb.out.still fx)
          have Qn := Lib.hid (fx.heap Qn.out (by simp))
          have Rn := Lib.hid (Rn.out.still fx)
          have Qm := Lib.hid (fx.heap Qm.out (by simp))
          have Rm := Lib.hid (Rm.out.still fx)
          have Qj := Lib.hid (fx.heap Qj.out (by simp))
          have Rj := Lib.hid (Rj.out.still fx)
          have F := Lib.hid (F.out.trans fx (by simp))
          clear fx
          go_wp2
          go_ret
          exact ⟨rfl, F.out⟩
        · have Fj := Lib.hid fj; have Hp := Lib.hid hp; have Fp := Lib.hid fp; have Hd := Lib.hid hd; have Fd := Lib.hid fd; have Hdp := Lib.hid hdp; have Hu := Lib.hid hu
          subst hdn
          clear fj hp fp hd fd hdp hu HE3
          have k := Lib.hid (g_project HK.out Fj.out (by have := Hal.out; omega) Hp.out Rj.out Ra.out.names)
          obtain ⟨g00, g01, g0f⟩ := two Qj.out
          have hz0 := lt_of_heap Qj.out
          obtain ⟨g10, g11, g1f⟩ := two Qa.out
          have hz1 := lt_of_heap Qa.out
          go_wp2_with fail
          (with_reducible refine k.out.mono ?_)
          rintro e w12 ⟨u, rfl, ho⟩
          obtain ⟨t14a, t14b, t14c, t14d, rfl⟩ := ho.shape
          clear k g00 g01 g0f hz0 g10 g11 g1f hz1
          have Qa := Lib.hid (heap_alloc_some (ho.fr.heap Qa.out (by simp)) (.cells #[.slice t14a p.vars.length t14b, .slice t14c p.rows.length t14d] 25))
          have Ra := Lib.hid (Ra.out.still (ho.fr.alloc (.cells #[.slice t14a p.vars.length t14b, .slice t14c p.rows.length t14d] 25)))
          have Qb := Lib.hid (heap_alloc_some (ho.fr.heap Qb.out (by simp)) (.cells #[.slice t14a p.vars.length t14b, .slice t14c p.rows.length t14d] 25))
          have Rb := Lib.hid (Rb.out.still (ho.fr.alloc (.cells #[.slice t14a p.vars.length t14b, .slice t14c p.rows.length t14d] 25)))
          have Qn := Lib.hid (heap_alloc_some (ho.fr.heap Qn.out (by simp)) (.cells #[.slice t14a p.vars.length t14b, .slice t14c p.rows.length t14d] 25))
          have Rn := Lib.hid (Rn.out.still (ho.fr.alloc (.cells #[.slice t14a p.vars.length t14b, .slice t14c p.rows.length t14d] 25)))
          have Qm := Lib.hid (heap_alloc_some (ho.fr.heap Qm.out (by simp)) (.cells #[.slice t14a p.vars.length t14b, .slice t14c p.rows.length t14d] 25))
          have Rm := Lib.hid (Rm.out.still (ho.fr.alloc (.cells #[.slice t14a p.vars.length t14b, .slice t14c p.rows.length t14d] 25)))
          have Qj := Lib.hid (heap_alloc_some (ho.fr.heap Qj.out (by simp)) (.cells #[.slice t14a p.vars.length t14b, .slice t14c p.rows.length t14d] 25))
          have Rj := Lib.hid (Rj.out.still (ho.fr.alloc (.cells #[.slice t14a p.vars.length t14b, .slice t14c p.rows.length t14d] 25)))
          have F := Lib.hid (F.out.trans (ho.fr.alloc (.cells #[.slice t14a p.vars.length t14b, .slice t14c p.rows.length t14d] 25)) (by simp))
          have Qp := Lib.hid (heap_alloc_at w12 (.cells #[.slice t14a p.vars.length t14b, .slice t14c p.rows.length t14d] 25) _ rfl)
          have Rp := Lib.hid (ho.on ((World.Fr.refl w12 []).alloc (.cells #[.slice t14a p.vars.length t14b, .slice t14c p.rows.length t14d] 25))).rd
          clear ho
          go_upto_region 13 with (fail)
          generalize hW : World.alloc w12 _ = W13 at *
          clear hW
          generalize w12.heap.size = pp at *
          have k := Lib.hid (g_minus HK.out Fa.out Fp.out Hd.out Ra.out Rp.out)
          obtain ⟨g00, g01, g0f⟩ := two Qa.out
          have hz0 := lt_of_heap Qa.out
          obtain ⟨g10, g11, g1f⟩ := two Qp.out
          have hz1 := lt_of_heap Qp.out
          go_wp2_with fail
          (with_reducible refine k.out.mono ?_)
          rintro e w15 ⟨u, rfl, ho⟩
          obtain ⟨t17a, t17b, t17c, t17d, rfl⟩ := ho.shape
          clear k g00 g01 g0f hz0 g10 g11 g1f hz1
          have Qa := Lib.hid (heap_alloc_some (ho.fr.heap Qa.out (by simp)) (.cells #[.slice t17a d.vars.length t17b, .slice t17c d.rows.length t17d] 25))
          have Ra := Lib.hid (Ra.out.still (ho.fr.alloc (.cells #[.slice t17a d.vars.length t17b, .slice t17c d.rows.length t17d] 25)))
          have Qb := Lib.hid (heap_alloc_some (ho.fr.heap Qb.out (by simp)) (.cells #[.slice t17a d.vars.length t17b, .slice t17c d.rows.length t17d] 25))
          have Rb := Lib.hid (Rb.out.still (ho.fr.alloc (.cells #[.slice t17a d.vars.length t17b, .slice t17c d.rows.length t17d] 25)))
          have Qn := Lib.hid (heap_alloc_some (ho.fr.heap Qn.out (by simp)) (.cells #[.slice t17a d.vars.length t17b, .slice t17c d.rows.length t17d] 25))
          have Rn := Lib.hid (Rn.out.still (ho.fr.alloc (.cells #[.slice t17a d.vars.length t17b, .slice t17c d.rows.length t17d] 25)))
          have Qm := Lib.hid (heap_alloc_some (ho.fr.heap Qm.out (by simp)) (.cells #[.slice t17a d.vars.length t17b, .slice t17c d.rows.length t17d] 25))
          have Rm := Lib.hid (Rm.out.still (ho.fr.alloc (.cells #[.slice t17a d.vars.length t17b, .slice t17c d.rows.length t17d] 25)))
          have Qj := Lib.hid (heap_alloc_some (ho.fr.heap Qj.out (by simp)) (.cells #[.slice t17a d.vars.length t17b, .slice t17c d.rows.length t17d] 25))
          have Rj := Lib.hid (Rj.out.still (ho.fr.alloc (.cells #[.slice t17a d.vars.length t17b, .slice t17c d.rows.length t17d] 25)))
          have Qp := Lib.hid (heap_alloc_some (ho.fr.heap Qp.out (by simp)) (.cells #[.slice t17a d.vars.length t17b, .slice t17c d.rows.length t17d] 25))
          have Rp := Lib.hid (Rp.out.still (ho.fr.alloc (.cells #[.slice t17a d.vars.length t17b, .slice t17c d.rows.length t17d] 25)))
          have F := Lib.hid (F.out.trans (ho.fr.alloc (.cells #[.slice t17a d.vars.length t17b, .slice t17c d.rows.length t17d] 25)) (by simp))
          have Qd := Lib.hid (heap_alloc_at w15 (.cells #[.slice t17a d.vars.length t17b, .slice t17c d.rows.length t17d] 25) _ rfl)
          have Rd := Lib.hid (ho.on ((World.Fr.refl w15 []).alloc (.cells #[.slice t17a d.vars.length t17b, .slice t17c d.rows.length t17d] 25))).rd
          clear ho
          go_upto_region 14 with (fail)
          generalize hW : World.alloc w15 _ = W16 at *
          clear hW
          generalize w15.heap.size = pd at *
          have k := Lib.hid (g_union HK.out Fd.out Fp.out Hdp.out Hu.out Rd.out Rp.out)
          obtain ⟨g00, g01, g0f⟩ := two Qd.out
          have hz0 := lt_of_heap Qd.out
          obtain ⟨g10, g11, g1f⟩ := two Qp.out
          have hz1 := lt_of_heap Qp.out
          go_wp2_with fail
          (with_reducible refine k.out.mono ?_)
          rintro e w18 ⟨u, rfl, ho⟩
          obtain ⟨t20a, t20b, t20c, t20d, rfl⟩ := ho.shape
          clear k g00 g01 g0f hz0 g10 g11 g1f hz1
          have Qa := Lib.hid (heap_alloc_some (ho.fr.heap Qa.out (by simp)) (.cells #[.slice t20a a.vars.length t20b, .slice t20c a.rows.length t20d] 25))
          have Ra := Lib.hid (Ra.out.still (ho.fr.alloc (.cells #[.slice t20a a.vars.length t20b, .slice t20c a.rows.length t20d] 25)))
          have Qb := Lib.hid (heap_alloc_some (ho.fr.heap Qb.out (by simp)) (.cells #[.slice t20a a.vars.length t20b, .slice t20c a.rows.length t20d] 25))
          have Rb := Lib.hid (Rb.out.still (ho.fr.alloc (.cells #[.slice t20a a.vars.length t20b, .slice t20c a.rows.length t20d] 25)))
          have Qn := Lib.hid (heap_alloc_some (ho.fr.heap Qn.out (by simp)) (.cells #[.slice t20a a.vars.length t20b, .slice t20c a.rows.length t20d] 25))
          have Rn := Lib.hid (Rn.out.still (ho.fr.alloc (.cells #[.slice t20a a.vars.length t20b, .slice t20c a.rows.length t20d] 25)))
          have Qm := Lib.hid (heap_alloc_some (ho.fr.heap Qm.out (by simp)) (.cells #[.slice t20a a.vars.length t20b, .slice t20c a.rows.length t20d] 25))
          have Rm := Lib.hid (Rm.out.still (ho.fr.alloc (.cells #[.slice t20a a.vars.length t20b, .slice t20c a.rows.length t20d] 25)))
          have Qj := Lib.hid (heap_alloc_some (ho.fr.heap Qj.out (by simp)) (.cells #[.slice t20a a.vars.length t20b, .slice t20c a.rows.length t20d] 25))
          have Rj := Lib.hid (Rj.out.still (ho.fr.alloc (.cells #[.slice t20a a.vars.length t20b, .slice t20c a.rows.length t20d] 25)))
          have Qp := Lib.hid (heap_alloc_some (ho.fr.heap Qp.out (by simp)) (.cells #[.slice t20a a.vars.length t20b, .slice t20c a.rows.length t20d] 25))
          have Rp := Lib.hid (Rp.out.still (ho.fr.alloc (.cells #[.slice t20a a.vars.length t20b, .slice t20c a.rows.length t20d] 25)))
          have Qd := Lib.hid (heap_alloc_some (ho.fr.heap Qd.out (by simp)) (.cells #[.slice t20a a.vars.length t20b, .slice t20c a.rows.length t20d] 25))
          have Rd := Lib.hid (Rd.out.still (ho.fr.alloc (.cells #[.slice t20a a.vars.length t20b, .slice t20c a.rows.length t20d] 25)))
          have F := Lib.hid (F.out.trans (ho.fr.alloc (.cells #[.slice t20a a.vars.length t20b, .slice t20c a.rows.length t20d] 25)) (by simp))
          have Qu := Lib.hid (heap_alloc_at w18 (.cells #[.slice t20a a.vars.length t20b, .slice t20c a.rows.length t20d] 25) _ rfl)
          have Ru := Lib.hid (ho.on ((World.Fr.refl w18 []).alloc (.cells #[.slice t20a a.vars.length t20b, .slice t20c a.rows.length t20d] 25))).rd
          clear ho
          go_upto_region 15 with (fail)
          generalize hW : World.alloc w18 _ = W19 at *
          clear hW
          generalize w18.heap.size = pu at *
          have k := Lib.hid (Hlive.out W19)
          go_wp2_with fail
          (with_reducible refine k.out.mono ?_)
          rintro e w21 ⟨rfl, fx⟩
          clear k 
          have Qa := Lib.hid (fx.heap Qa.out (by simp))
          have Ra := Lib.hid (Ra.out.still fx)
          have Qb := Lib.hid (fx.heap Qb.out (by simp))
          have Rb := Lib.hid (Rb.out.still fx)
          have Qn := Lib.hid (fx.heap Qn.out (by simp))
          have Rn := Lib.hid (Rn.out.still fx)
          have Qm := Lib.hid (fx.heap Qm.out (by simp))
          have Rm := Lib.hid (Rm.out.still fx)
          have Qj := Lib.hid (fx.heap Qj.out (by simp))
          have Rj := Lib.hid (Rj.out.still fx)
          have Qp := Lib.hid (fx.heap Qp.out (by simp))
          have Rp := Lib.hid (Rp.out.still fx)
          have Qd := Lib.hid (fx.heap Qd.out (by simp))
          have Rd := Lib.hid (Rd.out.still fx)
          have Qu := Lib.hid (fx.heap Qu.out (by simp))
          have Ru := Lib.hid (Ru.out.still fx)
          have F := Lib.hid (F.out.trans fx (by simp))
          clear fx
          have k := Lib.hid (g_same Fd.out.small Rd.out Rn.out)
          obtain ⟨g00, g01, g0f⟩ := two Qd.out
          have hz0 := lt_of_heap Qd.out
          obtain ⟨g10, g11, g1f⟩ := two Qn.out
          have hz1 := lt_of_heap Qn.out
          go_wp2_with fail
          (with_reducible refine k.out.mono ?_)
          rintro e w22 ⟨rfl, fx⟩
          clear k g00 g01 g0f hz0 g10 g11 g1f hz1
          have Qa := Lib.hid (fx.heap Qa.out (by simp))
          have Ra := Lib.hid (Ra.out.still fx)
          have Qb := Lib.hid (fx.heap Qb.out (by simp))
          have Rb := Lib.hid (Rb.out.still fx)
          have Qn := Lib.hid (fx.heap Qn.out (by simp))
          have Rn := Lib.hid (Rn.out.still fx)
          have Qm := Lib.hid (fx.heap Qm.out (by simp))
          have Rm := Lib.hid (Rm.out.still fx)
          have Qj := Lib.hid (fx.heap Qj.out (by simp))
          have Rj := Lib.hid (Rj.out.still fx)
          have Qp := Lib.hid (fx.heap Qp.out (by simp))
          have Rp := Lib.hid (Rp.out.still fx)
          have Qd := Lib.hid (fx.heap Qd.out (by simp))
          have Rd := Lib.hid (Rd.out.still fx)
          have Qu := Lib.hid (fx.heap Qu.out (by simp))
          have Ru := Lib.hid (Ru.out.still fx)
          have F := Lib.hid (F.out.trans fx (by simp))
          clear fx
          have k := Lib.hid (g_same Fa.out.small Ru.out Ra.out)
          obtain ⟨g00, g01, g0f⟩ := two Qu.out
          have hz0 := lt_of_heap Qu.out
          obtain ⟨g10, g11, g1f⟩ := two Qa.out
          have hz1 := lt_of_heap Qa.out
          go_wp2_with fail
          (with_reducible refine k.out.mono ?_)
          rintro e w23 ⟨rfl, fx⟩
          clear k g00 g01 g0f hz0 g10 g11 g1f hz1
          have Qa := Lib.hid (fx.heap Qa.out (by simp))
          have Ra := Lib.hid (Ra.out.still fx)
          have Qb := Lib.hid (fx.heap Qb.out (by simp))
          have Rb := Lib.hid (Rb.out.still fx)
          have Qn := Lib.hid (fx.heap Qn.out (by simp))
          have Rn := Lib.hid (Rn.out.still fx)
          have Qm := Lib.hid (fx.heap Qm.out (by simp))
          have Rm := Lib.hid (Rm.out.still fx)
          have Qj := Lib.hid (fx.heap Qj.out (by simp))
          have Rj := Lib.hid (Rj.out.still fx)
          have Qp := Lib.hid (fx.heap Qp.out (by simp))
          have Rp := Lib.hid (Rp.out.still fx)
          have Qd := Lib.hid (fx.heap Qd.out (by simp))
          have Rd := Lib.hid (Rd.out.still fx)
          have Qu := Lib.hid (fx.heap Qu.out (by simp))
          have Ru := Lib.hid (Ru.out.still fx)
          have F := Lib.hid (F.out.trans fx (by simp))
          clear fx
          go_wp2
          go_ret
          exact ⟨rfl, F.out⟩
      · clear HE2
        have k := Lib.hid (g_join HK.out Fa.out Fb.out (by have := Hm.out.1; omega) Hj.out Ra.out Rb.out)
        obtain ⟨g00, g01, g0f⟩ := two Qa.out
        have hz0 := lt_of_heap Qa.out
        obtain ⟨g10, g11, g1f⟩ := two Qb.out
        have hz1 := lt_of_heap Qb.out
        go_wp2_with fail
        (with_reducible refine k.out.mono ?_)
        rintro e w8 ⟨u, rfl, ho⟩
        obtain ⟨t10a, t10b, t10c, t10d, rfl⟩ := ho.shape
        clear k g00 g01 g0f hz0 g10 g11 g1f hz1
        have Qa := Lib.hid (heap_alloc_some (ho.fr.heap Qa.out (by simp)) (.cells #[.slice t10a j.vars.length t10b, .slice t10c j.rows.length t10d] 25))
        have Ra := Lib.hid (Ra.out.still (ho.fr.alloc (.cells #[.slice t10a j.vars.length t10b, .slice t10c j.rows.length t10d] 25)))
        have Qb := Lib.hid (heap_alloc_some (ho.fr.heap Qb.out (by simp)) (.cells #[.slice t10a j.vars.length t10b, .slice t10c j.rows.length t10d] 25))
        have Rb := Lib.hid (Rb.out.still (ho.fr.alloc (.cells #[.slice t10a j.vars.length t10b, .slice t10c j.rows.length t10d] 25)))
        have Qn := Lib.hid (heap_alloc_some (ho.fr.heap Qn.out (by simp)) (.cells #[.slice t10a j.vars.length t10b, .slice t10c j.rows.length t10d] 25))
        have Rn := Lib.hid (Rn.out.still (ho.fr.alloc (.cells #[.slice t10a j.vars.length t10b, .slice t10c j.rows.length t10d] 25)))
        have Qm := Lib.hid (heap_alloc_some (ho.fr.heap Qm.out (by simp)) (.cells #[.slice t10a j.vars.length t10b, .slice t10c j.rows.length t10d] 25))
        have Rm := Lib.hid (Rm.out.still (ho.fr.alloc (.cells #[.slice t10a j.vars.length t10b, .slice t10c j.rows.length t10d] 25)))
        have F := Lib.hid (F.out.trans (ho.fr.alloc (.cells #[.slice t10a j.vars.length t10b, .slice t10c j.rows.length t10d] 25)) (by simp))
        have Qj := Lib.hid (heap_alloc_at w8 (.cells #[.slice t10a j.vars.length t10b, .slice t10c j.rows.length t10d] 25) _ rfl)
        have Rj := Lib.hid (ho.on ((World.Fr.refl w8 []).alloc (.cells #[.slice t10a j.vars.length t10b, .slice t10c j.rows.length t10d] 25))).rd
        clear ho
        go_upto_region 10 with (fail)
        generalize hW : World.alloc w8 _ = W9 at *
        clear hW
        generalize w8.heap.size = pj at *
        rcases HE3.out with rfl | ⟨rfl, fj, p, d, hp, fp, hd, fd, hdp, hu, hdn⟩
        · have k := Lib.hid (Hlive.out W9)
          go_wp2_with fail
          (with_reducible refine k.out.mono ?_)
          rintro e w11 ⟨rfl, fx⟩
          clear k 
          have Qa := Lib.hid (fx.heap Qa.out (by simp))
          have Ra := Lib.hid (Ra.out.still fx)
          have Qb := Lib.hid (fx.heap Qb.out (by simp))
          have Rb := Lib.hid (Rb.out.still fx)
          have Qn := Lib.hid (fx.heap Qn.out (by simp))
          have Rn := Lib.hid (Rn.out.still fx)
          have Qm := Lib.hid (fx.heap Qm.out (by simp))
          have Rm := Lib.hid (Rm.out.still fx)
          have Qj := Lib.hid (fx.heap Qj.out (by simp))
          have Rj := Lib.hid (Rj.out.still fx)
          have F := Lib.hid (F.out.trans fx (by simp))
          clear fx
          go_wp2
          go_ret
          exact ⟨rfl, F.out⟩
        · have Fj := Lib.hid fj; have Hp := Lib.hid hp; have Fp := Lib.hid fp; have Hd := Lib.hid hd; have Fd := Lib.hid fd; have Hdp := Lib.hid hdp; have Hu := Lib.hid hu
          subst hdn
          clear fj hp fp hd fd hdp hu HE3
          have k := Lib.hid (g_project HK.out Fj.out (by have := Hal.out; omega) Hp.out Rj.out Ra.out.names)
          obtain ⟨g00, g01, g0f⟩ := two Qj.out
          have hz0 := lt_of_heap Qj.out
          obtain ⟨g10, g11, g1f⟩ := two Qa.out
          have hz1 := lt_of_heap Qa.out
          go_wp2_with fail
          (with_reducible refine k.out.mono ?_)
          rintro e w11 ⟨u, rfl, ho⟩
          obtain ⟨t13a, t13b, t13c, t13d, rfl⟩ := ho.shape
          clear k g00 g01 g0f hz0 g10 g11 g1f hz1
          have Qa := Lib.hid (heap_alloc_some (ho.fr.heap Qa.out (by simp)) (.cells #[.slice t13a p.vars.length t13b, .slice t13c p.rows.length t13d] 25))
          have Ra := Lib.hid (Ra.out.still (ho.fr.alloc (.cells #[.slice t13a p.vars.length t13b, .slice t13c p.rows.length t13d] 25)))
          have Qb := Lib.hid (heap_alloc_some (ho.fr.heap Qb.out (by simp)) (.cells #[.slice t13a p.vars.length t13b, .slice t13c p.rows.length t13d] 25))
          have Rb := Lib.hid (Rb.out.still (ho.fr.alloc (.cells #[.slice t13a p.vars.length t13b, .slice t13c p.rows.length t13d] 25)))
          have Qn := Lib.hid (heap_alloc_some (ho.fr.heap Qn.out (by simp)) (.cells #[.slice t13a p.vars.length t13b, .slice t13c p.rows.length t13d] 25))
          have Rn := Lib.hid (Rn.out.still (ho.fr.alloc (.cells #[.slice t13a p.vars.length t13b, .slice t13c p.rows.length t13d] 25)))
          have Qm := Lib.hid (heap_alloc_some (ho.fr.heap Qm.out (by simp)) (.cells #[.slice t13a p.vars.length t13b, .slice t13c p.rows.length t13d] 25))
          have Rm := Lib.hid (Rm.out.still (ho.fr.alloc (.cells #[.slice t13a p.vars.length t13b, .slice t13c p.rows.length t13d] 25)))
          have Qj := Lib.hid (heap_alloc_some (ho.fr.heap Qj.out (by simp)) (.cells #[.slice t13a p.vars.length t13b, .slice t13c p.rows.length t13d] 25))
          have Rj := Lib.hid (Rj.out.still (ho.fr.alloc (.cells #[.slice t13a p.vars.length t13b, .slice t13c p.rows.length t13d] 25)))
          have F := Lib.hid (F.out.trans (ho.fr.alloc (.cells #[.slice t13a p.vars.length t13b, .slice t13c p.rows.length t13d] 25)) (by simp))
          have Qp := Lib.hid (heap_alloc_at w11 (.cells #[.slice t13a p.vars.length t13b, .slice t13c p.rows.length t13d] 25) _ rfl)
          have Rp := Lib.hid (ho.on ((World.Fr.refl w11 []).alloc (.cells #[.slice t13a p.vars.length t13b, .slice t13c p.rows.length t13d] 25))).rd
          clear ho
          go_upto_region 13 with (fail)
          generalize hW : World.alloc w11 _ = W12 at *
          clear hW
          generalize w11.heap.size = pp at *
          have k := Lib.hid (g_minus HK.out Fa.out Fp.out Hd.out Ra.out Rp.out)
          obtain ⟨g00, g01, g0f⟩ := two Qa.out
          have hz0 := lt_of_heap Qa.out
          obtain ⟨g10, g11, g1f⟩ := two Qp.out
          have hz1 := lt_of_heap Qp.out
          go_wp2_with fail
          (with_reducible refine k.out.mono ?_)
          rintro e w14 ⟨u, rfl, ho⟩
          obtain ⟨t16a, t16b, t16c, t16d, rfl⟩ := ho.shape
          clear k g00 g01 g0f hz0 g10 g11 g1f hz1
          have Qa := Lib.hid (heap_alloc_some (ho.fr.heap Qa.out (by simp)) (.cells #[.slice t16a d.vars.length t16b, .slice t16c d.rows.length t16d] 25))
          have Ra := Lib.hid (Ra.out.still (ho.fr.alloc (.cells #[.slice t16a d.vars.length t16b, .slice t16c d.rows.length t16d] 25)))
          have Qb := Lib.hid (heap_alloc_some (ho.fr.heap Qb.out (by simp)) (.cells #[.slice t16a d.vars.length t16b, .slice t16c d.rows.length t16d] 25))
          have Rb := Lib.hid (Rb.out.still (ho.fr.alloc (.cells #[.slice t16a d.vars.length t16b, .slice t16c d.rows.length t16d] 25)))
          have Qn := Lib.hid (heap_alloc_some (ho.fr.heap Qn.out (by simp)) (.cells #[.slice t16a d.vars.length t16b, .slice t16c d.rows.length t16d] 25))
          have Rn := Lib.hid (Rn.out.still (ho.fr.alloc (.cells #[.slice t16a d.vars.length t16b, .slice t16c d.rows.length t16d] 25)))
          have Qm := Lib.hid (heap_alloc_some (ho.fr.heap Qm.out (by simp)) (.cells #[.slice t16a d.vars.length t16b, .slice t16c d.rows.length t16d] 25))
          have Rm := Lib.hid (Rm.out.still (ho.fr.alloc (.cells #[.slice t16a d.vars.length t16b, .slice t16c d.rows.length t16d] 25)))
          have Qj := Lib.hid (heap_alloc_some (ho.fr.heap Qj.out (by simp)) (.cells #[.slice t16a d.vars.length t16b, .slice t16c d.rows.length t16d] 25))
          have Rj := Lib.hid (Rj.out.still (ho.fr.alloc (.cells #[.slice t16a d.vars.length t16b, .slice t16c d.rows.length t16d] 25)))
          have Qp := Lib.hid (heap_alloc_some (ho.fr.heap Qp.out (by simp)) (.cells #[.slice t16a d.vars.length t16b, .slice t16c d.rows.length t16d] 25))
          have Rp := Lib.hid (Rp.out.still (ho.fr.alloc (.cells #[.slice t16a d.vars.length t16b, .slice t16c d.rows.length t16d] 25)))
          have F := Lib.hid (F.out.trans (ho.fr.alloc (.cells #[.slice t16a d.vars.length t16b, .slice t16c d.rows.length t16d] 25)) (by simp))
          have Qd := Lib.hid (heap_alloc_at w14 (.cells #[.slice t16a d.vars.length t16b, .slice t16c d.rows.length t16d] 25) _ rfl)
          have Rd := Lib.hid (ho.on ((World.Fr.refl w14 []).alloc (.cells #[.slice t16a d.vars.length t16b, .slice t16c d.rows.length t16d] 25))).rd
          clear ho
          go_upto_region 14 with (fail)
          generalize hW : World.alloc w14 _ = W15 at *
          clear hW
          generalize w14.heap.size = pd at *
          have k := Lib.hid (g_union HK.out Fd.out Fp.out Hdp.out Hu.out Rd.out Rp.out)
          obtain ⟨g00, g01, g0f⟩ := two Qd.out
          have hz0 := lt_of_heap Qd.out
          obtain ⟨g10, g11, g1f⟩ := two Qp.out
          have hz1 := lt_of_heap Qp.out
          go_wp2_with fail
          (with_reducible refine k.out.mono ?_)
          rintro e w17 ⟨u, rfl, ho⟩
          obtain ⟨t19a, t19b, t19c, t19d, rfl⟩ := ho.shape
          clear k g00 g01 g0f hz0 g10 g11 g1f hz1
          have Qa := Lib.hid (heap_alloc_some (ho.fr.heap Qa.out (by simp)) (.cells #[.slice t19a a.vars.length t19b, .slice t19c a.rows.length t19d] 25))
          have Ra := Lib.hid (Ra.out.still (ho.fr.alloc (.cells #[.slice t19a a.vars.length t19b, .slice t19c a.rows.length t19d] 25)))
          have Qb := Lib.hid (heap_alloc_some (ho.fr.heap Qb.out (by simp)) (.cells #[.slice t19a a.vars.length t19b, .slice t19c a.rows.length t19d] 25))
          have Rb := Lib.hid (Rb.out.still (ho.fr.alloc (.cells #[.slice t19a a.vars.length t19b, .slice t19c a.rows.length t19d] 25)))
          have Qn := Lib.hid (heap_alloc_some (ho.fr.heap Qn.out (by simp)) (.cells #[.slice t19a a.vars.length t19b, .slice t19c a.rows.length t19d] 25))
          have Rn := Lib.hid (Rn.out.still (ho.fr.alloc (.cells #[.slice t19a a.vars.length t19b, .slice t19c a.rows.length t19d] 25)))
          have Qm := Lib.hid (heap_alloc_some (ho.fr.heap Qm.out (by simp)) (.cells #[.slice t19a a.vars.length t19b, .slice t19c a.rows.length t19d] 25))
          have Rm := Lib.hid (Rm.out.still (ho.fr.alloc (.cells #[.slice t19a a.vars.length t19b, .slice t19c a.rows.length t19d] 25)))
          have Qj := Lib.hid (heap_alloc_some (ho.fr.heap Qj.out (by simp)) (.cells #[.slice t19a a.vars.length t19b, .slice t19c a.rows.length t19d] 25))
          have Rj := Lib.hid (Rj.out.still (ho.fr.alloc (.cells #[.slice t19a a.vars.length t19b, .slice t19c a.rows.length t19d] 25)))
          have Qp := Lib.hid (heap_alloc_some (ho.fr.heap Qp.out (by simp)) (.cells #[.slice t19a a.vars.length t19b, .slice t19c a.rows.length t19d] 25))
          have Rp := Lib.hid (Rp.out.still (ho.fr.alloc (.cells #[.slice t19a a.vars.length t19b, .slice t19c a.rows.length t19d] 25)))
          have Qd := Lib.hid (heap_alloc_some (ho.fr.heap Qd.out (by simp)) (.cells #[.slice t19a a.vars.length t19b, .slice t19c a.rows.length t19d] 25))
          have Rd := Lib.hid (Rd.out.still (ho.fr.alloc (.cells #[.slice t19a a.vars.length t19b, .slice t19c a.rows.length t19d] 25)))
          have F := Lib.hid (F.out.trans (ho.fr.alloc (.cells #[.slice t19a a.vars.length t19b, .slice t19c a.rows.length t19d] 25)) (by simp))
          have Qu := Lib.hid (heap_alloc_at w17 (.cells #[.slice t19a a.vars.length t19b, .slice t19c a.rows.length t19d] 25) _ rfl)
          have Ru := Lib.hid (ho.on ((World.Fr.refl w17 []).alloc (.cells #[.slice t19a a.vars.length t19b, .slice t19c a.rows.length t19d] 25))).rd
          clear ho
          go_upto_region 15 with (fail)
          generalize hW : World.alloc w17 _ = W18 at *
          clear hW
          generalize w17.heap.size = pu at *
          have k := Lib.hid (Hlive.out W18)
          go_wp2_with fail
          (with_reducible refine k.out.mono ?_)
          rintro e w20 ⟨rfl, fx⟩
          clear k 
          have Qa := Lib.hid (fx.heap Qa.out (by simp))
          have Ra := Lib.hid (Ra.out.still fx)
          have Qb := Lib.hid (fx.heap Qb.out (by simp))
          have Rb := Lib.hid (Rb.out.still fx)
          have Qn := Lib.hid (fx.heap Qn.out (by simp))
          have Rn := Lib.hid (Rn.out.still fx)
          have Qm := Lib.hid (fx.heap Qm.out (by simp))
          have Rm := Lib.hid (Rm.out.still fx)
          have Qj := Lib.hid (fx.heap Qj.out (by simp))
          have Rj := Lib.hid (Rj.out.still fx)
          have Qp := Lib.hid (fx.heap Qp.out (by simp))
          have Rp := Lib.hid (Rp.out.still fx)
          have Qd := Lib.hid (fx.heap Qd.out (by simp))
          have Rd := Lib.hid (Rd.out.still fx)
          have Qu := Lib.hid (fx.heap Qu.out (by simp))
          have Ru := Lib.hid (Ru.out.still fx)
          have F := Lib.hid (F.out.trans fx (by simp))
          clear fx
          have k := Lib.hid (g_same Fd.out.small Rd.out Rn.out)
          obtain ⟨g00, g01, g0f⟩ := two Qd.out
          have hz0 := lt_of_heap Qd.out
          obtain ⟨g10, g11, g1f⟩ := two Qn.out
          have hz1 := lt_of_heap Qn.out
          go_wp2_with fail
          (with_reducible refine k.out.mono ?_)
          rintro e w21 ⟨rfl, fx⟩
          clear k g00 g01 g0f hz0 g10 g11 g1f hz1
          have Qa := Lib.hid (fx.heap Qa.out (by simp))
          have Ra := Lib.hid (Ra.out.still fx)
          have Qb := Lib.hid (fx.heap Qb.out (by simp))
          have Rb := Lib.hid (Rb.out.still fx)
          have Qn := Lib.hid (fx.heap Qn.out (by simp))
          have Rn := Lib.hid (Rn.out.still fx)
          have Qm := Lib.hid (fx.heap Qm.out (by simp))
          have Rm := Lib.hid (Rm.out.still fx)
          have Qj := Lib.hid (fx.heap Qj.out (by simp))
          have Rj := Lib.hid (Rj.out.still fx)
          have Qp := Lib.hid (fx.heap Qp.out (by simp))
          have Rp := Lib.hid (Rp.out.still fx)
          have Qd := Lib.hid (fx.heap Qd.out (by simp))
          have Rd := Lib.hid (Rd.out.still fx)
          have Qu := Lib.hid (fx.heap Qu.out (by simp))
          have Ru := Lib.hid (Ru.out.still fx)
          have F := Lib.hid (F.out.trans fx (by simp))
          clear fx
          have k := Lib.hid (g_same Fa.out.small Ru.out Ra.out)
          obtain ⟨g00, g01, g0f⟩ := two Qu.out
          have hz0 := lt_of_heap Qu.out
          obtain ⟨g10, g11, g1f⟩ := two Qa.out
          have hz1 := lt_of_heap Qa.out
          go_wp2_with fail
          (with_reducible refine k.out.mono ?_)
          rintro e w22 ⟨rfl, fx⟩
          clear k g00 g01 g0f hz0 g10 g11 g1f hz1
          have Qa := Lib.hid (fx.heap Qa.out (by simp))
          have Ra := Lib.hid (Ra.out.still fx)
          have Qb := Lib.hid (fx.heap Qb.out (by simp))
          have Rb := Lib.hid (Rb.out.still fx)
          have Qn := Lib.hid (fx.heap Qn.out (by simp))
          have Rn := Lib.hid (Rn.out.still fx)
          have Qm := Lib.hid (fx.heap Qm.out (by simp))
          have Rm := Lib.hid (Rm.out.still fx)
          have Qj := Lib.hid (fx.heap Qj.out (by simp))
          have Rj := Lib.hid (Rj.out.still fx)
          have Qp := Lib.hid (fx.heap Qp.out (by simp))
          have Rp := Lib.hid (Rp.out.still fx)
          have Qd := Lib.hid (fx.heap Qd.out (by simp))
          have Rd := Lib.hid (Rd.out.still fx)
          have Qu := Lib.hid (fx.heap Qu.out (by simp))
          have Ru := Lib.hid (Ru.out.still fx)
          have F := Lib.hid (F.out.trans fx (by simp))
          clear fx
          go_wp2
          go_ret
          exact ⟨rfl, F.out⟩
    · obtain ⟨z, hzz⟩ : ∃ z, bothE cf a b = z := ⟨_, rfl⟩
      obtain ⟨ta, hta⟩ : ∃ z, tcheck cf a = z := ⟨_, rfl⟩
      obtain ⟨tb, htb⟩ : ∃ z, tcheck cf b = z := ⟨_, rfl⟩
      have heT : antiT cf a b = (z, tNone) := by unfold antiT; rw [if_pos hz, hzz]
      obtain ⟨T, hT⟩ : ∃ T, T = tNone := ⟨_, rfl⟩
      rw [← hT] at heT
      have hz0 : z ≠ 0 := by rw [← hzz]; exact hz
      have hzt : z = if ta = 0 then tb else ta := by rw [← hzz, ← hta, ← htb]; rfl
      have HeT := Lib.hid heT; have Hta := Lib.hid hta; have Htb := Lib.hid htb; have Hzt := Lib.hid hzt
      have hz1 : (z == 0) = false := beq_eq_false_iff_ne.2 hz0
      have hz2 : (z != 0) = true := by simp [hz0]
      clear heT hta htb hzt hzz hT hz
      have k := Lib.hid (g_anti HK.out Fa.out Fb.out HeT.out Ra.out Rb.out)
      obtain ⟨g00, g01, g0f⟩ := two Qa.out
      have hz0 := lt_of_heap Qa.out
      obtain ⟨g10, g11, g1f⟩ := two Qb.out
      have hz1 := lt_of_heap Qb.out
      go_wp2_with fail
      (with_reducible refine k.out.mono ?_)
      rintro e w2 ⟨u, rfl, ho⟩
      obtain ⟨t4a, t4b, t4c, t4d, rfl⟩ := ho.shape
      clear k g00 g01 g0f hz0 g10 g11 g1f hz1
      have Qa := Lib.hid (heap_alloc_some (ho.fr.heap Qa.out (by simp)) (.cells #[.slice t4a T.vars.length t4b, .slice t4c T.rows.length t4d] 25))
      have Ra := Lib.hid (Ra.out.still (ho.fr.alloc (.cells #[.slice t4a T.vars.length t4b, .slice t4c T.rows.length t4d] 25)))
      have Qb := Lib.hid (heap_alloc_some (ho.fr.heap Qb.out (by simp)) (.cells #[.slice t4a T.vars.length t4b, .slice t4c T.rows.length t4d] 25))
      have Rb := Lib.hid (Rb.out.still (ho.fr.alloc (.cells #[.slice t4a T.vars.length t4b, .slice t4c T.rows.length t4d] 25)))
      have F := Lib.hid (F.out.trans (ho.fr.alloc (.cells #[.slice t4a T.vars.length t4b, .slice t4c T.rows.length t4d] 25)) (by simp))
      have Qn := Lib.hid (heap_alloc_at w2 (.cells #[.slice t4a T.vars.length t4b, .slice t4c T.rows.length t4d] 25) _ rfl)
      have Rn := Lib.hid (ho.on ((World.Fr.refl w2 []).alloc (.cells #[.slice t4a T.vars.length t4b, .slice t4c T.rows.length t4d] 25))).rd
      clear ho
      go_upto_region 4 with (fail)
      generalize hW : World.alloc w2 _ = W3 at *
      clear hW
      generalize w2.heap.size = pn at *
      have k := Lib.hid (Hlive.out W3)
      go_wp2_with fail
      (with_reducible refine k.out.mono ?_)
      rintro e w5 ⟨rfl, fx⟩
      clear k 
      have Qa := Lib.hid (fx.heap Qa.out (by simp))
      have Ra := Lib.hid (Ra.out.still fx)
      have Qb := Lib.hid (fx.heap Qb.out (by simp))
      have Rb := Lib.hid (Rb.out.still fx)
      have Qn := Lib.hid (fx.heap Qn.out (by simp))
      have Rn := Lib.hid (Rn.out.still fx)
      have F := Lib.hid (F.out.trans fx (by simp))
      clear fx
      have k := Lib.hid (g_check HK.out Fa.out Hta.out Ra.out)
      obtain ⟨g00, g01, g0f⟩ := two Qa.out
      have hz0 := lt_of_heap Qa.out
      go_wp2_with fail
      (with_reducible refine k.out.mono ?_)
      rintro e w6 ⟨rfl, fx⟩
      clear k g00 g01 g0f hz0
      have Qa := Lib.hid (fx.heap Qa.out (by simp))
      have Ra := Lib.hid (Ra.out.still fx)
      have Qb := Lib.hid (fx.heap Qb.out (by simp))
      have Rb := Lib.hid (Rb.out.still fx)
      have Qn := Lib.hid (fx.heap Qn.out (by simp))
      have Rn := Lib.hid (Rn.out.still fx)
      have F := Lib.hid (F.out.trans fx (by simp))
      clear fx
      by_cases h0 : ta = 0
      · have hzb : z = tb := by rw [Hzt.out, if_pos h0]
        subst hzb
        subst h0
        have k := Lib.hid (g_check HK.out Fb.out Htb.out Rb.out)
        obtain ⟨g00, g01, g0f⟩ := two Qb.out
        have hz0 := lt_of_heap Qb.out
        go_wp2_with fail
        (with_reducible refine k.out.mono ?_)
        rintro e w7 ⟨rfl, fx⟩
        clear k g00 g01 g0f hz0
        have Qa := Lib.hid (fx.heap Qa.out (by simp))
        have Ra := Lib.hid (Ra.out.still fx)
        have Qb := Lib.hid (fx.heap Qb.out (by simp))
        have Rb := Lib.hid (Rb.out.still fx)
        have Qn := Lib.hid (fx.heap Qn.out (by simp))
        have Rn := Lib.hid (Rn.out.still fx)
        have F := Lib.hid (F.out.trans fx (by simp))
        clear fx
        go_wp2
        go_ret
        exact ⟨rfl, F.out⟩
      · have h1 : (ta == 0) = false := beq_eq_false_iff_ne.2 h0
        have h2 : (ta != 0) = true := by simp [h0]
        clear h0
        go_wp2
        go_ret
        exact ⟨rfl, F.out⟩
end Go.Proofs.YtikodapgceokhaaGreat
