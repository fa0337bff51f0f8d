/-
  The walk of the statement FutureSteps.
-/
import Derived.Test.YtbejmdlncnkaaaaGreatFuI
import Derived.Test.YtbejmdlncnkaaaaGreatFR13
set_option maxRecDepth 100000
set_option maxHeartbeats 16000000
set_option linter.unusedSimpArgs false
namespace Go.Proofs.YtbejmdlncnkaaaaGreat
open Go.RowKit
theorem steps9 {cf : V -> V -> Int} (hK : Ctx V.wf cf) (hRC : RCtx cf) (h12 : cf (vI 1) (vI 2) < 0) {w : World} {m : MkD} {v1 v2 v3 : Value} {ss : List SD} (h1 : RdStr w v1 m.left) (h2 : RdStr w v2 m.right) (hv1 : m.left.length <= 1048576) (hv2 : m.right.length <= 1048576) (h3 : RdSteps w v3 ss) (hl : ss.length <= 1048576) (hu : ∀ s, s ∈ ss -> SDU s) :
  Calls Tryz.prog 9 #[m.v v1 v2, v3] w fun e w' => e = .returned (.bool true) /\ w.Fr w' [] := by
 obtain ⟨kind, ⟨lo, hi, op⟩, nt, l, r⟩ := m
 simp only at h1 h2 hv1 hv2
 obtain ⟨a1, a2, rfl, _, _⟩ := h1.rd.shape
 obtain ⟨b1, b2, rfl, _, _⟩ := h2.rd.shape
 obtain ⟨d1, d2, rfl⟩ := h3.shape
 obtain ⟨NL, hNL⟩ : ∃ N, l.length = N := ⟨_, rfl⟩
 obtain ⟨NR, hNR⟩ : ∃ N, r.length = N := ⟨_, rfl⟩
 obtain ⟨N, hN⟩ : ∃ N, ss.length = N := ⟨_, rfl⟩
 rw [hNL] at h1
 rw [hNR] at h2
 rw [hN] at h3 ⊢
 have hbeg := fun (W : World) (hW : w.Fr W []) => begun36 hK hRC (w := W) (m := ⟨kind, ⟨lo, hi, op⟩, nt, l, r⟩) (v1 := .slice a1 NL a2) (v2 := .slice b1 NR b2) (h1.fr hW (by simp)) (h2.fr hW (by simp)) hv1 hv2
 rw [hNL, hNR]
 have q1 := heap_alloc_at w (.cells #[.int .i64 kind, .int .i64 lo, .int .i64 hi, .bool op, .bool nt, .slice a1 NL a2, .slice b1 NR b2] 68) _ rfl
 have f1 := (World.Fr.refl w []).alloc (.cells #[.int .i64 kind, .int .i64 lo, .int .i64 hi, .bool op, .bool nt, .slice a1 NL a2, .slice b1 NR b2] 68)
 have hp1 := MkD.p_eq ⟨kind, ⟨lo, hi, op⟩, nt, l, r⟩
 have hx1 := MkD.nx_eq ⟨kind, ⟨lo, hi, op⟩, nt, l, r⟩
 have HK := Hz hK; have HRC := Hz hRC; have H12 := Hz h12; have H3 := Hz h3; have HL := Hz hl; have HU := Hz hu; have HN := Hz hN; have HBeg := Hz hbeg; have HP1 := Hz hp1; have HX1 := Hz hx1
 have Q1 := Hz q1; have F := Hz f1
 clear hK hRC h12 h1 h2 h3 hv1 hv2 hl hu hN hNL hNR q1 f1 hbeg hp1 hx1
 simp only [MkD.v]
 go_enter Tryz.func9, Tryz.ntmps9
 go_upto_region 1 with (fail)
 generalize hW : World.alloc w _ = W at *
 clear hW
 generalize hb3 : w.heap.size = b3 at *
 have Hb3 := Hz hb3
 clear hb3
 have k := Hz (live29 HK.out H12.out W)
 go_wp2_with fail
 (with_reducible refine k.out.mono ?_)
 rintro e w1 ⟨rfl, fx⟩
 have Q1 := Hz (fx.heap Q1.out (by simp)); have F := Hz (F.out.trans fx (by simp))
 clear k fx
 have k := many30 (H3.out.still F.out) HL.out HU.out
 obtain ⟨RA, hRA⟩ : ∃ n, rowsAll ss = n := ⟨_, rfl⟩
 rw [hRA] at k
 have k := Hz k
 have HRA := Hz hRA
 clear hRA
 go_wp2_with fail
 (with_reducible refine k.out.mono ?_)
 rintro e w2 ⟨rfl, fx⟩
 have Q1 := Hz (fx.heap Q1.out (by simp)); have F := Hz (F.out.trans fx (by simp))
 clear k fx
 by_cases hmany : 600 < RA
 ·have hd : decide ((600 : Int) < (RA : Int)) = true := decide_eq_true (by omega)
  have hd2 : decide (600 < RA) = true := decide_eq_true hmany
  clear hmany
  go_wp2
  go_ret
  exact ⟨rfl, F.out⟩
 have hd : decide ((600 : Int) < (RA : Int)) = false := decide_eq_false (by omega)
 have hd2 : decide (600 < RA) = false := decide_eq_false hmany
 have HRA : Hid (rowsAll ss <= 600) := Hz (by have := HRA.out; omega)
 clear hmany
 obtain ⟨t0, t1, t2, t3, t4, t5, t6, tf⟩ := sev Q1.out
 have hz3 := lt_of_heap Q1.out
 have HSz := Hz F.out.size
 have k := Hz (HBeg.out w2 F.out)
 simp only [MkD.v] at k
 go_wp2_with fail
 (with_reducible refine k.out.mono ?_)
 rintro e w3 ⟨pv, xv, rfl, hp, fx⟩
 have Q1 := Hz (fx.heap Q1.out (by simp)); have F := Hz (F.out.trans fx (by simp))
 have HP := Hz hp
 clear k fx hp t0 t1 t2 t3 t4 t5 t6 tf hz3 hd hd2 HBeg
 rcases HP.out with ⟨_, rfl, rfl⟩ | ⟨h0, p, q0, vl, vr, rfl, rfl, hk1, hk2, hop, hbx, hn1, hn2⟩
 ·clear HP
  go_wp2
  go_ret
  exact ⟨rfl, F.out⟩
 have HI0 : Hid (StR cf w w3 p (MkD.X ⟨kind, ⟨lo, hi, op⟩, nt, l, r⟩) [p] q0 (MkD.S ⟨kind, ⟨lo, hi, op⟩, nt, l, r⟩) vl vr (.slice none 0 0) (.slice none 0 0) (.slice none 0 0) 0) := Hz (StR.begin hop (beginF_ok h0 HP1.out) hbx hn1 hn2 (by have := HSz.out; omega) (by have := HSz.out; omega) F.out)
 clear HP hop h0 hk1 hk2 hbx hn1 hn2 HP1 HX1 Q1
 by_cases hlong : 50 < N
 ·have hd : decide ((50 : Int) < (N : Int)) = true := decide_eq_true (by omega)
  have hd2 : decide (50 < N) = true := decide_eq_true hlong
  clear hlong
  go_wp2
  go_ret
  exact ⟨rfl, F.out⟩
 have hd : decide ((50 : Int) < (N : Int)) = false := decide_eq_false (by omega)
 have hd2 : decide (50 < N) = false := decide_eq_false hlong
 have HN60 : Hid (N <= 50) := Hz (by omega)
 clear hlong
 go_wp2
 go_loopw [51, 6] (fun i pv wr => ∃ (j k : Nat) (X : FS) (B : List Nat) (S : RF) (vt vL vR : Value), i = .int .i64 j /\ pv = .pointer (some ⟨k, 0, none⟩) /\ j <= N /\ Hid (StR cf w wr k X B q0 S vl vr vt vL vR j)) (fun i _ _ => (N - intOf i).toNat)
 case atStart => exact ⟨0, p, _, _, _, _, _, _, rfl, rfl, Nat.zero_le _, HI0⟩
 case round =>
  obtain ⟨j, kp, X, B, S, vt, vL, vR, rfl, rfl, hj, HI⟩ := hrel
  clear HI0 hd hd2 F
  by_cases hlt : j < N
  ·obtain ⟨s, hs⟩ : ∃ s, ss[j]? = some s := ⟨ss[j]'(by have := HN.out; omega), List.getElem?_eq_getElem _⟩
   obtain ⟨g, off, c, a, mm, hv, hg, k0, k1, k2, hrd⟩ := H3.out.at hs
   rw [HN.out] at hv
   cases hv
   have hfr := HI.out.ref.fr
   have k0 := cellFr hfr k0 (by simp)
   have k1 := cellFr hfr k1 (by simp)
   have k2 := cellFr hfr k2 (by simp)
   have hg := Nat.lt_of_lt_of_le hg hfr.size
   have hjI : (j : Int) < (N : Int) := by omega
   have hw1 : IntKind.i64.wrap ((j : Int) + 1) = (j : Int) + 1 := IntWalk.i64_in _ (by have := HN60.out; omega)
   have hnn : (0 : Int) <= (j : Int) := by omega
   have hus := HU.out s (List.mem_of_getElem? hs)
   have hrows : ∀ t, t ∈ s.tabs -> t.rows.length <= 600 := fun t ht => Nat.le_trans (rowsOf_mem ht) (Nat.le_trans (rowsAll_mem (List.mem_of_getElem? hs)) HRA.out)
   have hf15 := (World.Fr.refl wr []).alloc (.cells #[.int .i64 s.time, .slice a s.tabs.length mm, .bool s.clone] 61)
   have q15 := heap_alloc_at wr (.cells #[.int .i64 s.time, .slice a s.tabs.length mm, .bool s.clone] 61) _ rfl
   have hi15 := HI.out.still hf15
   obtain ⟨NT, hNT⟩ : ∃ n, s.tabs.length = n := ⟨_, rfl⟩
   rw [hNT] at q15 k1 hi15
   have HI := Hz hi15; have HNT := Hz hNT; have Hrd := Hz hrd; have Hus := Hz hus; have HRows := Hz hrows
   clear hi15 hf15 hus hs hfr hrows hrd
   rw [hNT] at Hrd
   clear hNT
   go_upto_region 10 with (fail)
   generalize hWW : World.alloc wr _ = wa at *
   clear hWW
   generalize wr.heap.size = b13 at *
   obtain ⟨m0, m1, m2, mf⟩ := tri q15
   have hz15 := lt_of_heap q15
   have Q15 := Hz q15
   clear q15 k0 k1 k2 hg
   have k := Hz (lent37 (Hrd.out.still HI.out.ref.fr) Hus.out.len (fun t ht => ⟨(Hus.out.tab t ht).vars, (Hus.out.tab t ht).rows, (Hus.out.tab t ht).row⟩))
   go_wp2_with fail
   (with_reducible refine k.out.mono ?_)
   rintro e wl ⟨vo, hd, rfl, hl⟩
   have hXe := HI.out.eq
   have hmn : X.told + X.pts.length + 1 <= 1000 := by
    have h1 : S.X.pts.length = S.T.length - S.told := S.pts_len
    have h2 : S.X.told = (S.told : Int) := rfl
    rw [hXe] at h1 h2
    have := HI.out.few; have := HI.out.rok.told; have := HN60.out
    omega
   have hsl := hl.fr.size
   have Q15 := Hz (hl.fr.heap Q15.out (by simp))
   clear k m0 m1 m2 mf hz15
   obtain ⟨m0, m1, m2, mf⟩ := tri Q15.out
   have hz15 := lt_of_heap Q15.out
   obtain ⟨E, hE⟩ : ∃ T, (stepX cf X s.time s.tabs).1 = T := ⟨_, rfl⟩
   have k := (fstep33 HK.out (Q := fun b => b < wa.heap.size ∨ wl.heap.size <= b) (fun _ h => .inr h) (n := s.time) (ts := s.tabs) ((HI.out.op.imp (R := fun b => b < wa.heap.size ∨ wl.heap.size <= b) (fun _ h _ => .inl h)).still hl.fr) hl.rd HI.out.fok (by have := Hus.out.len; omega) (tabU_fits Hrd.out Hus.out.tab) hmn (fun _ => HRows.out))
   rw [hE] at k
   have k := Hz k
   have HL := Hz hl; have HMn := Hz hmn; have HXe := Hz hXe; have HE := Hz hE
   clear hl hmn hXe hsl hE
   go_wp2_with fail
   (with_reducible refine k.out.mono ?_)
   rintro e w2 ⟨u, m, B', vs, rfl, hF⟩
   have href := HI.out.ref2 HL.out hF
   have Q15 := Hz (((HI.out.op.still HL.out.fr)).keep hF.fr Q15.out (by decide) (by decide))
   clear k m0 m1 m2 mf hz15
   obtain ⟨m0, m1, m2, mf⟩ := tri Q15.out
   have hz15 := lt_of_heap Q15.out
   have hps : wrongE cf S.X.ps s.time s.tabs = wrongE cf X.ps s.time s.tabs := by rw [HXe.out]
   have k := (rstep38 HRC.out (n := s.time) href HI.out.rok (by rw [HXe.out]; exact HI.out.fok) Hrd.out (by have := Hus.out.len; omega) (tabU_fits Hrd.out Hus.out.tab) (by have := HI.out.few; have := HN60.out; omega) (fun _ => HRows.out))
   rw [HXe.out, HE.out] at k
   have k := Hz k
   have HF := Hz hF
   clear hF href hps
   go_wp2_with fail
   (with_reducible refine k.out.mono ?_)
   rintro e w3 ⟨u2, vs2, S', vt', vL', vR', rfl, hR⟩
   have htwo := HI.out.both HL.out HF.out hR
   obtain ⟨u1, u3, rfl⟩ := hR.told.shape
   obtain ⟨z1, z3, rfl⟩ := HF.out.told.shape
   have Q15 := Hz (hR.fr.heap Q15.out (fun hm => by
    have h1 := HI.out.ref2 HL.out HF.out
    simp only [List.mem_append, List.mem_cons] at hm
    obtain ⟨_, hl⟩ := h1.l.sl
    obtain ⟨_, hr⟩ := h1.r.sl
    rcases hm with hm | hm | hm | hm
    ·have := h1.box; rw [<- hm, Q15.out] at this; injection this with this; injection this with _ h2; exact absurd h2 (by decide)
    ·exact Sl.off_box h1.ts Q15.out (by decide) hm
    ·exact Sl.off_box hl Q15.out (by decide) hm
    ·exact Sl.off_box hr Q15.out (by decide) hm))
   have HTwo := Hz htwo
   clear k m0 m1 m2 mf hz15 htwo hR
   obtain ⟨m0, m1, m2, mf⟩ := tri Q15.out
   have hz15 := lt_of_heap Q15.out
   have hgd : wrongE cf X.ps s.time s.tabs = 0 -> ∀ t, t ∈ s.tabs -> Good cf t /\ t.rows.length <= 600 := fun h0 t' ht' => by
    obtain ⟨_, _, _, _, h5, _, _⟩ := wrongE_zero (S := X.ps) HI.out.fok.parts h0
    exact ⟨good_of HK.out.ord (h5 t' ht') (tabU_fits Hrd.out Hus.out.tab t' ht').ok, HRows.out t' ht'⟩
   have hgood := stepX_good HK.out.ord (n := s.time) HI.out.fok hgd HMn.out
   have hsm : ∀ k, k ∈ vs -> Small k.t := fun k hk => by
    have h1 : k.tt ∈ (stepX cf X s.time s.tabs).2.1 := by rw [<- HF.out.eq]; exact List.mem_map_of_mem hk
    obtain ⟨g1, _, g3⟩ := hgood.2.1 _ h1
    exact (g1.fits (by omega)).small
   have hvs : ∀ k, k ∈ vs -> k.t.vars.length <= 1048576 /\ k.t.rows.length <= 1048576 /\ ∀ r, r ∈ k.t.rows -> r.length <= 1048576 := fun k hk => by
    have h1 : k.tt ∈ (stepX cf X s.time s.tabs).2.1 := by rw [<- HF.out.eq]; exact List.mem_map_of_mem hk
    obtain ⟨g1, _, g3⟩ := hgood.2.1 _ h1
    have g4 := g1.len
    exact ⟨Nat.le_trans g4 (by decide), Nat.le_trans g3 (by decide), fun r hr => by rw [g1.row r hr]; exact Nat.le_trans g4 (by decide)⟩
   have HVs := Hz hvs
   have hl2 : vs2.length = vs.length := by have := congrArg List.length HTwo.out.same; simpa using this.symm
   have hl1 : vs.length <= 1000 := by
    have h1 := congrArg List.length HF.out.eq
    simp at h1
    have h2 := hgood.2.2; have h3 := HMn.out; have h4 := HI.out.fok.told
    omega
   have HSm := Hz hsm; have HL2 := Hz hl2; have HL1 := Hz hl1
   clear hgd hgood hsm hl2 hl1 hvs
   have hEE : (E != E) = false := by simp
   have k := Hz (same34r HTwo.out.ref.fr HTwo.out.told HTwo.out.told2 HTwo.out.same HSm.out HL1.out)
   go_wp2_with fail
   (with_reducible refine k.out.mono ?_)
   rintro e w4 ⟨rfl, fx⟩
   obtain ⟨WT, hWT⟩ : ∃ n, (stepX cf X s.time s.tabs).2.2.pts.length = n := ⟨_, rfl⟩
   have k1 := fwaits35 (HTwo.out.op.still fx)
   rw [hWT] at k1
   have k1 := Hz k1
   have k2 := waits39 (HTwo.out.ref.still fx) HTwo.out.rok
   rw [HTwo.out.eq, hWT] at k2
   have k2 := Hz k2
   go_wp2_with fail
   (with_reducible refine k1.out.mono ?_)
   rintro e w5 ⟨rfl, rfl⟩
   go_wp2_with fail
   (with_reducible refine k2.out.mono ?_)
   rintro e w6 ⟨rfl, q6, rfl⟩
   have hfd := fx.trans ((World.Fr.refl w4 []).of_drewN q6) (by simp)
   generalize hW7 : World.drewN w4 q6 = w7 at *
   have HTwo := Hz (HTwo.out.still hfd)
   have Q15 := Hz (hfd.heap Q15.out (by simp))
   clear hW7 hfd fx k k1 k2 m0 m1 m2 mf hz15
   obtain ⟨m0, m1, m2, mf⟩ := tri Q15.out
   have hz15 := lt_of_heap Q15.out
   have k := Hz (HTwo.out.spoil (by have := HL.out.len; exact this) Hus.out.len (fun t ht => ⟨(Hus.out.tab t ht).vars, (Hus.out.tab t ht).rows, (Hus.out.tab t ht).row⟩) HVs.out (fun b hb => by
    rcases (HF.out.blk b hb).2 with h1 | h1
    ·exact .inl (HI.out.op.lt b h1)
    ·exact .inr h1))
   go_wp2_with fail
   (with_reducible refine k.out.mono ?_)
   rintro e w8 ⟨rfl, ha, htyp⟩
   have HBm := Hz (fun b hb => (HF.out.blk b hb).1)
   have Q15 := Hz (htyp _ _ _ Q15.out (by decide) (by decide))
   have HA := Hz ha
   clear k ha htyp m0 m1 m2 mf hz15 HF HTwo HI hw1 hnn HSm HVs HL2 HL HMn HXe HE
   obtain ⟨X', hX'⟩ : ∃ Y, (stepX cf X s.time s.tabs).2.2 = Y := ⟨_, rfl⟩
   rw [hX'] at HA
   clear hX' hWT
   obtain ⟨NV, hNV⟩ : ∃ n, vs.length = n := ⟨_, rfl⟩
   rw [hNV] at HA HL1 ⊢
   have HNV := Hz hNV
   clear hNV
   go_wp2
   go_loopw [95] (fun i wr => ∃ q : Nat, i = .int .i64 q /\ q <= NV /\ Hid (AftR cf w wr kp X' B' m w2.heap.size q0 S' vl vr vt' vL' vR' (.slice z1 NV z3) vs j /\ wr.heap[b13]? = some (.cells #[.int .i64 s.time, .slice a NT mm, .bool s.clone] 61 (0, 0)))) (fun i _ => (NV - intOf i).toNat)
   case atStart => exact ⟨0, rfl, Nat.zero_le _, Hz ⟨HA.out, Q15.out⟩⟩
   case round =>
    obtain ⟨q, rfl, hq, HT⟩ := hrel
    clear HA Q15
    by_cases hqv : q < NV
    ·obtain ⟨d, hd⟩ : ∃ d, vs[q]? = some d := ⟨vs[q]'(by have := HNV.out; omega), List.getElem?_eq_getElem _⟩
     obtain ⟨g2, off2, c2, x1, x2, x3, x4, hv2, hg2, c0, c1, c3, c4, e1, e2⟩ := HT.out.1.at hd
     rw [HNV.out] at hv2
     cases hv2
     obtain ⟨dn, dt, da, db, dtb⟩ := d
     simp only at c0 c1 c3 c4 e1 e2
     subst e1 e2
     have hqI : (q : Int) < (NV : Int) := by omega
     have hw1 : IntKind.i64.wrap ((q : Int) + 1) = (q : Int) + 1 := IntWalk.i64_in _ (by have := HL1.out; omega)
     have hnn : (0 : Int) <= (q : Int) := by omega
     have Hdm := Hz (List.mem_of_getElem? hd)
     have f17 := (World.Fr.refl wr []).alloc (.cells #[.int .i64 dn, .int .i64 dt, .slice x1 dtb.vars.length x2, .slice x3 dtb.rows.length x4] 74)
     have q17 := heap_alloc_at wr (.cells #[.int .i64 dn, .int .i64 dt, .slice x1 dtb.vars.length x2, .slice x3 dtb.rows.length x4] 74) _ rfl
     have HT := Hz (And.intro (HT.out.1.still f17) (f17.heap HT.out.2 (by simp)))
     clear f17 hd
     go_upto_region 19 with (fail)
     generalize hWW : World.alloc wr _ = w9 at *
     clear hWW
     generalize wr.heap.size = b17 at *
     obtain ⟨y0, y1, y2, y3, yf⟩ := four q17
     have hz17 := lt_of_heap q17
     have f18 := (World.Fr.refl w9 []).alloc (.cells #[.slice x1 dtb.vars.length x2, .slice x3 dtb.rows.length x4] 34)
     have hs18 := World.Sl.lit w9 34 #[.slice x1 dtb.vars.length x2, .slice x3 dtb.rows.length x4] 1 2 (by simp [maxLen]) rfl
     have k := Hz ((HT.out.1.still f18).spoil Hdm.out hs18 HBm.out)
     have Q15 := Hz (f18.heap HT.out.2 (by simp))
     clear f18 hs18 q17 HT c0 c1 c3 c4 hg2
     go_wp2_with fail
     (with_reducible refine k.out.mono ?_)
     rintro e w10 ⟨rfl, ha, htyp⟩
     have HT := Hz (And.intro ha (htyp _ _ _ Q15.out (by decide) (by decide)))
     clear k ha htyp Q15 y0 y1 y2 y3 yf hz17
     go_wp2
     go_roundw
     case rel => exact ⟨q + 1, by go_num, by omega, HT⟩
     case measure => simp [intOf]; omega
    ·have hd : decide ((q : Int) < (NV : Int)) = false := decide_eq_false (by omega)
     have hd2 : decide (q < NV) = false := decide_eq_false hqv
     clear hqv hq
     obtain ⟨m0, m1, m2, mf⟩ := tri HT.out.2
     have hz15 := lt_of_heap HT.out.2
     cases hcl : s.clone with
     | false =>
      rw [hcl] at m2
      have HI := Hz HT.out.1.done
      have hw1 : IntKind.i64.wrap ((j : Int) + 1) = (j : Int) + 1 := IntWalk.i64_in _ (by have := HN60.out; omega)
      clear hcl HT
      go_wp2
      go_roundw
      case rel => exact ⟨j + 1, kp, _, _, _, _, _, _, by go_num, rfl, by omega, HI⟩
      case measure => simp [intOf]; omega
     | true =>
      rw [hcl] at m2
      clear hcl
      have k := Hz (clone41 HT.out.1.op HT.out.1.fok.many)
      go_wp2_with fail
      (with_reducible refine k.out.mono ?_)
      rintro e w11 ⟨c2, Bc, rfl, hc, hBc, fx⟩
      have Q15 := Hz (fx.heap HT.out.2 (by simp))
      clear k m0 m1 m2 mf hz15
      have HC := Hz hc; have HBc := Hz hBc; have Hfx := Hz fx
      clear hc hBc fx
      have hw1 : IntKind.i64.wrap ((j : Int) + 1) = (j : Int) + 1 := IntWalk.i64_in _ (by have := HN60.out; omega)
      have hmn2 : X'.told + X'.pts.length + 1 <= 1000 := by
       have h1 : S'.X.pts.length = S'.T.length - S'.told := S'.pts_len
       have h2 : S'.X.told = (S'.told : Int) := rfl
       rw [HT.out.1.eq] at h1 h2
       have := HT.out.1.few; have := HT.out.1.rok.told; have := HN60.out
       omega
      have hk1 : ∀ W, w11.Fr W [] -> Calls Tryz.prog 37 #[.slice a NT mm] W fun e w' => ∃ vo hd, e = .returned vo /\ LT W w' vo hd s.tabs := fun W hW => lent37 (((Hrd.out.still HT.out.1.ref.fr).still Hfx.out).still hW) Hus.out.len (fun t ht => ⟨(Hus.out.tab t ht).vars, (Hus.out.tab t ht).rows, (Hus.out.tab t ht).row⟩)
      have hk2 : ∀ W W2 vo hd, w11.Fr W [] -> LT W W2 vo hd s.tabs -> Calls Tryz.prog 33 #[.pointer (some ⟨kp, 0, none⟩), .int .i64 s.time, vo] W2 fun e w' => ∃ u, e = .returned u /\ Hid (StR cf w w' c2 X' Bc q0 S' vl vr vt' vL' vR' (j + 1) /\ w'.heap[b13]? = some (.cells #[.int .i64 s.time, .slice a NT mm, .bool s.clone] 61 (0, 0))) := fun W W2 vo hd hW hl => by
       have hop := ((HT.out.1.op.still Hfx.out).still hW).still hl.fr
       refine (fstep33 HK.out (Q := anyB) (fun _ _ => trivial) (hop.imp (fun _ _ _ => trivial)) hl.rd HT.out.1.fok (by have := Hus.out.len; omega) (tabU_fits Hrd.out Hus.out.tab) hmn2 (fun _ => HRows.out)).mono ?_
       rintro e w' ⟨u, m', B'', vs', rfl, hF⟩
       exact ⟨_, rfl, Hz ⟨HT.out.1.cloned (HC.out.still hW) HBc.out (Hfx.out.trans hW (by simp)) hl hF, hop.keep hF.fr ((hW.trans hl.fr (by simp)).heap Q15.out (by simp)) (by decide) (by decide)⟩⟩
      have Hk1 := Hz hk1; have Hk2 := Hz hk2
      clear hk1 hk2 hmn2 HT HC HBc Hfx
      go_upto_region 25 with (fail)
      go_cut [] (fun wx => Hid (StR cf w wx c2 X' Bc q0 S' vl vr vt' vL' vR' (j + 1)))
      case first =>
       obtain ⟨m0, m1, m2, mf⟩ := tri Q15.out
       have hmk : ∀ w' : World, w'.heap[b13]? = some (.cells #[.int .i64 s.time, .slice a NT mm, .bool s.clone] 61 (0, 0)) -> w'.cell? ⟨b13, 0, none⟩ = some (.int .i64 s.time) /\ w'.cell? ⟨b13, 1, none⟩ = some (.slice a NT mm) := fun w' h => by
        obtain ⟨y0, y1, _, _⟩ := tri h
        exact ⟨y0, y1⟩
       have Hmk := Hz hmk
       have hFx := (World.Fr.refl w11 []).drew
       have HBx := Hz (hFx.heap Q15.out (by simp))
       clear hmk
       go_region_held3 (fun w' => w'.cell? ⟨b13, 0, none⟩ = some (.int .i64 s.time) /\ w'.cell? ⟨b13, 1, none⟩ = some (.slice a NT mm)) (exact Hmk.out _ HBx.out)
        (first | (go_at_call 37; (with_reducible refine (Hk1.out _ hFx).mono ?_); rintro e w12 ⟨vo, hd, rfl, hl⟩; have HBx := Hz (hl.fr.heap HBx.out (by simp))) | (go_at_call 33; (with_reducible refine (Hk2.out _ _ _ _ hFx hl).mono ?_); rintro e w13 ⟨u, rfl, hst⟩; have HBx := Hz hst.out.2))
       go_wp2
       go_meet
       case rel => exact Hz hst.out.1
      case rest =>
      have HI := Hz hcut.out
      clear hcut Hk1 Hk2 Q15
      go_wp2
      go_roundw
      case rel => exact ⟨j + 1, c2, _, _, _, _, _, _, by go_num, rfl, by omega, HI⟩
      case measure => simp [intOf]; omega
  ·have hd : decide ((j : Int) < (N : Int)) = false := decide_eq_false (by omega)
   have hd2 : decide (j < N) = false := decide_eq_false hlt
   have HF := Hz HI.out.ref.fr
   clear HI hlt hj
   go_wp2
   go_ret
   exact ⟨rfl, HF.out⟩
end Go.Proofs.YtbejmdlncnkaaaaGreat
