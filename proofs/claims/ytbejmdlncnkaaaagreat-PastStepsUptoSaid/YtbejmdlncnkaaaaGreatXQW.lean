/-
  Once, plainly, is Since, not, of what is always false. The walk of the statement PastSteps.
-/
import Derived.Test.YtbejmdlncnkaaaaGreatPaE
import Derived.Test.YtbejmdlncnkaaaaGreatPaF
import Derived.Test.YtbejmdlncnkaaaaGreatQU
import Derived.Test.YtbejmdlncnkaaaaGreatQ26
set_option maxRecDepth 100000
set_option maxHeartbeats 16000000
set_option linter.unusedSimpArgs false
namespace Go.Proofs.YtbejmdlncnkaaaaGreat
section
open Go.RowKit
abbrev noT : Tb := ⟨[], []⟩
abbrev PX.two (X : PX) : PX := { X with nt := true, parts := 2 }
theorem POkP.two {cf : V -> V -> Int} {X : PX} {M : Nat} (h : POkP cf X M) (hf : X.fn = 65) : POkP cf X.two M :=
 ⟨h.upl, h.up, h.le8, .inr rfl, h.sub, h.time, h.times, h.good, .inr ⟨hf, by rcases h.fn with ⟨h1, _⟩ | ⟨_, h2⟩; rw [hf] at h1; cases h1; exact h2⟩⟩
theorem noT_fits : Fits V.wf noT := ⟨⟨by simp, by simp, fun r hr => by simp at hr⟩, by simp, fun r hr => by simp at hr⟩
theorem tabU_fits {w : World} {v : Value} {ts : List Tb} (h : RdTabs w v ts) (hu : ∀ t, t ∈ ts -> TabU t) : ∀ t, t ∈ ts -> Fits V.wf t := fun t ht => by
 obtain ⟨j, hj⟩ := List.getElem?_of_mem ht
 obtain ⟨_, _, _, _, _, _, _, _, _, _, _, hr⟩ := h.at hj
 have := hu t ht
 have hw : ∀ r, r ∈ t.rows -> ∀ x, x ∈ r -> V.wf x := by
  obtain ⟨va, vb, hs, he, _, hr⟩ := hr.ex
  intro r hrm
  obtain ⟨i, hi⟩ := List.getElem?_of_mem hrm
  have hlt := (List.getElem?_eq_some_iff.1 hi).1
  have hlen := hr.len
  obtain ⟨hvv, hh⟩ : ∃ x, hs[i]? = some x := ⟨hs[i]'(by omega), List.getElem?_eq_getElem (by omega)⟩
  exact (hr.row i hvv r hh hi).wf
 exact ⟨⟨by have := this.vars; omega, by have := this.rows; omega, fun r hr => by have := this.row r hr; omega⟩, by have := this.rows; omega, hw⟩
theorem RdTabs.below {w : World} {v : Value} {ts : List Tb} (h : RdTabs w v ts) (hp : 0 < ts.length) {g off l c : Nat} (e : v = .slice (some ⟨g, off, none⟩) l c) : g < w.heap.size := by
 obtain ⟨g3, off3, c3, _, _, _, _, hv3, hg3, _⟩ := h.at (j := 0) (List.getElem?_eq_getElem hp)
 rw [hv3] at e
 cases e
 exact hg3
theorem same_refl (t : Tb) : sameB t t = true := by simp [sameB, eqB_true]
end
section
open Go.RowKit
theorem steps6 {cf : V -> V -> Int} (hK : Ctx V.wf cf) (hRC : RCtx cf) {w : World} {m : MkD} {v1 v2 v3 : Value} {ss : List SD} (h1 : RdStr w v1 m.left) (h2 : RdStr w v2 m.right) (hv1 : m.left.length <= 1048576) (hv2 : m.right.length <= 1048576) (h3 : RdSteps w v3 ss) (hl : ss.length <= 1048576) (hu : ∀ s, s ∈ ss -> SDU s) :
  Calls Tryz.prog 6 #[m.v v1 v2, v3] w fun e w' => e = .returned (.bool true) /\ w.Fr w' [] := by
 obtain ⟨kind, ⟨lo, hi, op⟩, nt, l, r⟩ := m
 simp only at h1 h2 hv1 hv2
 obtain ⟨a1, a2, rfl, _, _⟩ := h1.rd.shape
 obtain ⟨b1, b2, rfl, _, _⟩ := h2.rd.shape
 obtain ⟨d1, d2, rfl⟩ := h3.shape
 obtain ⟨NL, hNL⟩ : ∃ N, l.length = N := ⟨_, rfl⟩
 obtain ⟨NR, hNR⟩ : ∃ N, r.length = N := ⟨_, rfl⟩
 obtain ⟨N, hN⟩ : ∃ N, ss.length = N := ⟨_, rfl⟩
 rw [hNL] at h1
 rw [hNR] at h2
 rw [hN] at h3 ⊢
 have hbeg := fun (W : World) (hW : w.Fr W []) => begun24 hK hRC (w := W) (m := ⟨kind, ⟨lo, hi, op⟩, nt, l, r⟩) (v1 := .slice a1 NL a2) (v2 := .slice b1 NR b2) (h1.fr hW (by simp)) (h2.fr hW (by simp)) hv1 hv2
 rw [hNL, hNR]
 have q1 := heap_alloc_at w (.cells #[.int .i64 kind, .int .i64 lo, .int .i64 hi, .bool op, .bool nt, .slice a1 NL a2, .slice b1 NR b2] 47) _ rfl
 have f1 := (World.Fr.refl w []).alloc (.cells #[.int .i64 kind, .int .i64 lo, .int .i64 hi, .bool op, .bool nt, .slice a1 NL a2, .slice b1 NR b2] 47)
 have HK := Hz hK; have HRC := Hz hRC; have H3 := Hz h3; have HL := Hz hl; have HU := Hz hu; have HN := Hz hN; have HBeg := Hz hbeg
 have Q1 := Hz q1; have F := Hz f1
 clear hK hRC h1 h2 h3 hv1 hv2 hl hu hN hNL hNR q1 f1 hbeg
 simp only [MkD.v]
 go_enter Tryz.func6, Tryz.ntmps6
 go_upto_region 1 with (fail)
 generalize hW : World.alloc w _ = W at *
 clear hW
 generalize hb3 : w.heap.size = b3 at *
 have Hb3 := Hz hb3
 clear hb3
 have k := Hz (live14 HK.out W)
 go_wp2_with fail
 (with_reducible refine k.out.mono ?_)
 rintro e w1 ⟨rfl, fx⟩
 have Q1 := Hz (fx.heap Q1.out (by simp)); have F := Hz (F.out.trans fx (by simp))
 clear k fx
 have k := many15 (H3.out.still F.out) HL.out HU.out
 obtain ⟨RA, hRA⟩ : ∃ n, rowsAll ss = n := ⟨_, rfl⟩
 rw [hRA] at k
 have k := Hz k
 have HRA := Hz hRA
 clear hRA
 go_wp2_with fail
 (with_reducible refine k.out.mono ?_)
 rintro e w2 ⟨rfl, fx⟩
 have Q1 := Hz (fx.heap Q1.out (by simp)); have F := Hz (F.out.trans fx (by simp))
 clear k fx
 by_cases hmany : 600 < RA
 ·have hd : decide ((600 : Int) < (RA : Int)) = true := decide_eq_true (by omega)
  have hd2 : decide (600 < RA) = true := decide_eq_true hmany
  clear hmany
  go_wp2
  go_ret
  exact ⟨rfl, F.out⟩
 have hd : decide ((600 : Int) < (RA : Int)) = false := decide_eq_false (by omega)
 have hd2 : decide (600 < RA) = false := decide_eq_false hmany
 have HRA : Hid (rowsAll ss <= 600) := Hz (by have := HRA.out; omega)
 clear hmany
 obtain ⟨t0, t1, t2, t3, t4, t5, t6, tf⟩ := sev Q1.out
 have hz3 := lt_of_heap Q1.out
 have HSz := Hz F.out.size
 have k := Hz (HBeg.out w2 F.out)
 simp only [MkD.v] at k
 go_wp2_with fail
 (with_reducible refine k.out.mono ?_)
 rintro e w3 ⟨pv, xv, rfl, hp, fx⟩
 have Q1 := Hz (fx.heap Q1.out (by simp)); have F := Hz (F.out.trans fx (by simp))
 have HP := Hz hp
 clear k fx hp t0 t1 t2 t3 t4 t5 t6 tf hz3 hd hd2 HBeg
 rcases HP.out with ⟨_, rfl, rfl⟩ | ⟨h0, p, q0, vl, vr, rfl, rfl, hk1, hk2, hop, hbx, hn1, hn2⟩
 ·clear HP
  go_wp2
  go_ret
  exact ⟨rfl, F.out⟩
 have HI0 : Hid (StP cf w w3 p (MkD.X ⟨kind, ⟨lo, hi, op⟩, nt, l, r⟩) [p] q0 (MkD.S ⟨kind, ⟨lo, hi, op⟩, nt, l, r⟩) vl vr (.slice none 0 0) (.slice none 0 0) (.slice none 0 0) 0) := Hz (StP.begin hop (MkD.X_ok h0) hbx hn1 hn2 (by have := HSz.out; omega) (by have := HSz.out; omega) F.out)
 clear HP hop h0 hk1 hk2 hbx hn1 hn2 Q1
 by_cases hlong : 60 < N
 ·have hd : decide ((60 : Int) < (N : Int)) = true := decide_eq_true (by omega)
  have hd2 : decide (60 < N) = true := decide_eq_true hlong
  clear hlong
  go_wp2
  go_ret
  exact ⟨rfl, F.out⟩
 have hd : decide ((60 : Int) < (N : Int)) = false := decide_eq_false (by omega)
 have hd2 : decide (60 < N) = false := decide_eq_false hlong
 have HN60 : Hid (N <= 60) := Hz (by omega)
 clear hlong
 go_wp2
 go_loopw [49, 6] (fun i pv wr => ∃ (j k : Nat) (X : PX) (B : List Nat) (S : RP) (vt vL vR : Value), i = .int .i64 j /\ pv = .pointer (some ⟨k, 0, none⟩) /\ j <= N /\ Hid (StP cf w wr k X B q0 S vl vr vt vL vR j)) (fun i _ _ => (N - intOf i).toNat)
 case atStart => exact ⟨0, p, _, _, _, _, _, _, rfl, rfl, Nat.zero_le _, HI0⟩
 case round =>
  obtain ⟨j, kp, X, B, S, vt, vL, vR, rfl, rfl, hj, HI⟩ := hrel
  clear HI0 hd hd2 F
  by_cases hlt : j < N
  ·obtain ⟨s, hs⟩ : ∃ s, ss[j]? = some s := ⟨ss[j]'(by have := HN.out; omega), List.getElem?_eq_getElem _⟩
   obtain ⟨g, off, c, a, mm, hv, hg, k0, k1, k2, hrd⟩ := H3.out.at hs
   rw [HN.out] at hv
   cases hv
   have hfr := HI.out.ref.fr
   have k0 := cellFr hfr k0 (by simp)
   have k1 := cellFr hfr k1 (by simp)
   have k2 := cellFr hfr k2 (by simp)
   have hg := Nat.lt_of_lt_of_le hg hfr.size
   have hjI : (j : Int) < (N : Int) := by omega
   have hw1 : IntKind.i64.wrap ((j : Int) + 1) = (j : Int) + 1 := IntWalk.i64_in _ (by have := HN60.out; omega)
   have hnn : (0 : Int) <= (j : Int) := by omega
   have hus := HU.out s (List.mem_of_getElem? hs)
   have hrows : ∀ t, t ∈ s.tabs -> t.rows.length <= 600 := fun t ht => Nat.le_trans (rowsOf_mem ht) (Nat.le_trans (rowsAll_mem (List.mem_of_getElem? hs)) HRA.out)
   have hf15 := (World.Fr.refl wr []).alloc (.cells #[.int .i64 s.time, .slice a s.tabs.length mm, .bool s.clone] 39)
   have q15 := heap_alloc_at wr (.cells #[.int .i64 s.time, .slice a s.tabs.length mm, .bool s.clone] 39) _ rfl
   have hi15 := HI.out.still hf15
   obtain ⟨NT, hNT⟩ : ∃ n, s.tabs.length = n := ⟨_, rfl⟩
   rw [hNT] at q15 k1 hi15
   have HI := Hz hi15; have HNT := Hz hNT; have Hrd := Hz hrd; have Hus := Hz hus; have HRows := Hz hrows
   clear hi15 hf15 hus hs hfr hrows hrd
   rw [hNT] at Hrd
   clear hNT
   go_upto_region 10 with (fail)
   generalize hWW : World.alloc wr _ = wa at *
   clear hWW
   generalize wr.heap.size = b13 at *
   obtain ⟨m0, m1, m2, mf⟩ := tri q15
   have hz15 := lt_of_heap q15
   have Q15 := Hz q15
   clear q15 k0 k1 k2 hg
   have k := Hz (lent25 (Hrd.out.still HI.out.ref.fr) Hus.out.len (fun t ht => ⟨(Hus.out.tab t ht).vars, (Hus.out.tab t ht).rows, (Hus.out.tab t ht).row⟩))
   go_wp2_with fail
   (with_reducible refine k.out.mono ?_)
   rintro e wl ⟨vo, hd, rfl, hl⟩
   have hXe := HI.out.eq
   have hwl := HI.out.w_len
   have hfits := tabU_fits Hrd.out Hus.out.tab
   have Q15 := Hz (hl.fr.heap Q15.out (by simp))
   clear k m0 m1 m2 mf hz15
   obtain ⟨m0, m1, m2, mf⟩ := tri Q15.out
   have hz15 := lt_of_heap Q15.out
   have hgd : wrongP cf X s.time s.tabs = 0 -> ∀ t, t ∈ s.tabs -> Good cf t /\ t.rows.length <= 600 := fun h0 t' ht' => by
    obtain ⟨_, _, _, _, h5, _, _⟩ := wrongE_zero (S := X.ps) HI.out.pok.parts h0
    exact ⟨good_of HK.out.ord (h5 t' ht') (hfits t' ht').ok, HRows.out t' ht'⟩
   have hpok := HI.out.pok.step HK.out.ord hgd
   have htg : (stepP cf X s.time s.tabs).2.1 = ⟨[], []⟩ ∨ (Good cf (stepP cf X s.time s.tabs).2.1 /\ (stepP cf X s.time s.tabs).2.1.rows.length <= 1000000) := by
    unfold stepP
    split
    ·rename_i h0
     have hg := tellP_good HK.out.ord HI.out.pok (by decide) (by have := HN60.out; omega) h0 (hgd h0)
     refine .inr ⟨hg.1, ?_⟩
     rcases HI.out.pok.fn with ⟨hf, _⟩ | ⟨hf, _⟩
     ·have hkw := HI.out.pok.good
      show (tellP cf X s.time s.tabs).rows.length <= 1000000
      unfold tellP
      rw [if_pos hf]
      have hE := empty_good HI.out.pok
      have := (prevX_good (i := X.i) (n := s.time) (l := X.w) (R := X.right) (M := 600) ⟨X.right, []⟩ ⟨hE, rfl, by simp⟩ hkw).2.2
      omega
     ·exact hg.2.2.2 hf
    ·exact .inl rfl
   have k := OpAt.stepL HK.out (n := s.time) HI.out.op HI.out.pok (by have := HN60.out; omega) hl Hus.out.len hfits HRows.out
   obtain ⟨T, hT⟩ : ∃ T, (stepP cf X s.time s.tabs).2.1 = T := ⟨_, rfl⟩
   obtain ⟨E, hE⟩ : ∃ T, (stepP cf X s.time s.tabs).1 = T := ⟨_, rfl⟩
   rw [hT, hE] at k
   rw [hT] at htg
   have k := Hz k
   have HL := Hz hl; have HXe := Hz hXe; have HE := Hz hE; have HT := Hz hT; have HTg := Hz htg; have HPok := Hz hpok; have Hfits := Hz hfits
   clear hl hXe hE hT htg hpok hgd hwl hfits
   go_wp2_with fail
   (with_reducible refine k.out.mono ?_)
   rintro e w2 ⟨u1, u2, u3, u4, m, B', rfl, hF⟩
   have hq15 := (HI.out.op.still HL.out.fr).keep hF.fr Q15.out (by decide) (by decide)
   have f12 := (World.Fr.refl w2 []).alloc (.cells #[.slice u1 T.vars.length u2, .slice u3 T.rows.length u4] 34)
   have q12 := heap_alloc_at w2 (.cells #[.slice u1 T.vars.length u2, .slice u3 T.rows.length u4] 34) _ rfl
   have href := HI.out.ref2 HL.out hF
   have hn12 : w2.heap.size ∉ q0 :: (vt.blk ++ (vL.blk ++ vR.blk)) := fun hm => by
    have := href.lt w2.heap.size (by rw [List.mem_append, List.mem_append]; exact .inr (.inr hm))
    omega
   have HF := Hz (hF.still f12); have HRef := Hz (href.still f12); have Q15 := Hz (f12.heap hq15 (by simp)); have Q12 := Hz q12; have Hn12 := Hz hn12
   clear k m0 m1 m2 mf hz15 hF hq15 f12 q12 href hn12
   go_upto_region 12 with (fail)
   generalize hWW : World.alloc w2 _ = w2a at *
   clear hWW
   generalize w2.heap.size = b12 at *
   obtain ⟨m0, m1, m2, mf⟩ := tri Q15.out
   have hz15 := lt_of_heap Q15.out
   have k := rstep26 HRC.out (n := s.time) HRef.out HI.out.rok Hrd.out Hus.out.len Hfits.out (by have := HI.out.few; have := HN60.out; omega) (fun _ => HRows.out)
   rw [HXe.out, HE.out] at k
   have k := Hz k
   go_wp2_with fail
   (with_reducible refine k.out.mono ?_)
   rintro e w3 ⟨y, S', vt', vL', vR', rfl, hR⟩
   have htwo := HI.out.both HL.out HF.out hR HPok.out
   rw [HT.out] at htwo
   obtain ⟨y1, y2, y3, y4, rfl⟩ : ∃ y1 y2 y3 y4, y = .agg #[.slice y1 T.vars.length y2, .slice y3 T.rows.length y4] := by
    rcases htwo.told2 with h | h
    ·have h0 := h
     obtain ⟨a, b, hs, rfl, _⟩ := h
     obtain ⟨x1, x2, x3, x4, rfl, rfl⟩ := RdTab.forms h0
     exact ⟨_, _, _, _, rfl⟩
    ·obtain ⟨a, b, hs, rfl, _⟩ := h.ex
     obtain ⟨x1, x2, x3, x4, rfl, rfl⟩ := h.shape
     exact ⟨_, _, _, _, rfl⟩
   have hq15 := hR.fr.heap Q15.out (HRef.out.ne Q15.out (by decide) (by decide) (by decide))
   have hq12 := hR.fr.heap Q12.out Hn12.out
   have f14 := (World.Fr.refl w3 []).alloc (.cells #[.slice y1 T.vars.length y2, .slice y3 T.rows.length y4] 34)
   have q14 := heap_alloc_at w3 (.cells #[.slice y1 T.vars.length y2, .slice y3 T.rows.length y4] 34) _ rfl
   have HTwo := Hz (htwo.still f14); have Q15 := Hz (f14.heap hq15 (by simp)); have Q12 := Hz (f14.heap hq12 (by simp)); have Q14 := Hz q14
   have HBl := Hz HF.out.blk
   clear k m0 m1 m2 mf hz15 htwo hR hq15 hq12 f14 q14 HRef Hn12 HE HPok HXe
   go_upto_region 13 with (fail)
   generalize hWW : World.alloc w3 _ = w3a at *
   clear hWW
   generalize w3.heap.size = b14 at *
   have hTs : Small T := by
    rcases HTg.out with h | h
    ·rw [h]; exact noT_fits.small
    ·exact (h.1.fits (by have := h.2; omega)).small
   have hTb : T.vars.length <= 1048576 /\ T.rows.length <= 1048576 /\ ∀ r, r ∈ T.rows -> r.length <= 1048576 := by
    rcases HTg.out with h | h
    ·rw [h]; simp
    ·have g4 := h.1.len
     exact ⟨Nat.le_trans g4 (by decide), Nat.le_trans h.2 (by decide), fun r hr => by rw [h.1.row r hr]; exact Nat.le_trans g4 (by decide)⟩
   have HTb := Hz hTb
   obtain ⟨r0, r1, rf⟩ := two Q12.out
   obtain ⟨s0, s1, sf⟩ := two Q14.out
   have z12 := lt_of_heap Q12.out
   have z14 := lt_of_heap Q14.out
   have hEE : (E != E) = false := by simp
   have k := rsame17 HTwo.out.told.rd (HTwo.out.told2.rd HTwo.out.ref.fr) hTs
   rw [same_refl] at k
   have k := Hz k
   clear hTs hTb
   go_wp2_with fail
   (with_reducible refine k.out.mono ?_)
   rintro e w4 ⟨rfl, fx⟩
   have HTwo := Hz (HTwo.out.still fx); have Q15 := Hz (fx.heap Q15.out (by simp)); have Q12 := Hz (fx.heap Q12.out (by simp))
   clear k fx r0 r1 rf s0 s1 sf z12 z14 Q14 hEE
   have k := Hz (HTwo.out.spoil HL.out.len Hus.out.len (fun t ht => ⟨(Hus.out.tab t ht).vars, (Hus.out.tab t ht).rows, (Hus.out.tab t ht).row⟩) HTb.out)
   go_wp2_with fail
   (with_reducible refine k.out.mono ?_)
   rintro e w8 ⟨rfl, ha, htyp⟩
   have Q15 := Hz (htyp _ _ _ Q15.out (by decide) (by decide)); have Q12 := Hz (htyp _ _ _ Q12.out (by decide) (by decide))
   have HA := Hz ha
   clear k ha htyp HF HTwo HI hw1 hnn HL HTg
   obtain ⟨X', hX'⟩ : ∃ Y, (stepP cf X s.time s.tabs).2.2 = Y := ⟨_, rfl⟩
   rw [hX'] at HA
   clear hX' HT
   obtain ⟨r0, r1, rf⟩ := two Q12.out
   have z12 := lt_of_heap Q12.out
   have f18 := (World.Fr.refl w8 []).alloc (.cells #[.slice u1 T.vars.length u2, .slice u3 T.rows.length u4] 34)
   have hs18 := World.Sl.lit w8 34 #[.slice u1 T.vars.length u2, .slice u3 T.rows.length u4] 1 2 (by simp [maxLen]) rfl
   have k := Hz ((HA.out.still f18).spoil hs18)
   have Q15 := Hz (f18.heap Q15.out (by simp))
   clear f18 hs18 HA
   go_wp2_with fail
   (with_reducible refine k.out.mono ?_)
   rintro e w10 ⟨rfl, ha, htyp⟩
   have HT := Hz ha
   have Q15 := Hz (htyp _ _ _ Q15.out (by decide) (by decide))
   clear k ha htyp r0 r1 rf z12 Q12
   obtain ⟨m0, m1, m2, mf⟩ := tri Q15.out
   have hz15 := lt_of_heap Q15.out
   have hw1 : IntKind.i64.wrap ((j : Int) + 1) = (j : Int) + 1 := IntWalk.i64_in _ (by have := HN60.out; omega)
   cases hcl : s.clone with
   | false =>
    rw [hcl] at m2
    clear hcl
    go_wp2
    go_roundw
    case rel => exact ⟨j + 1, kp, _, _, _, _, _, _, by go_num, rfl, by omega, HT⟩
    case measure => simp [intOf]; omega
   | true =>
    rw [hcl] at m2
    clear hcl
    have k := Hz (clone28 HT.out.op (by have := HT.out.w_len; have := HN60.out; omega))
    go_wp2_with fail
    (with_reducible refine k.out.mono ?_)
    rintro e w11 ⟨c2, Bc, rfl, hc, hBc, fx⟩
    have Q15 := Hz (fx.heap Q15.out (by simp))
    clear k m0 m1 m2 mf hz15
    have HC := Hz hc; have HBc := Hz hBc; have Hfx := Hz fx
    clear hc hBc fx
    have hk1 : ∀ W, w11.Fr W [] -> Calls Tryz.prog 25 #[.slice a NT mm] W fun e w' => ∃ vo hd, e = .returned vo /\ LT W w' vo hd s.tabs := fun W hW => lent25 (((Hrd.out.still HT.out.ref.fr).still Hfx.out).still hW) Hus.out.len (fun t ht => ⟨(Hus.out.tab t ht).vars, (Hus.out.tab t ht).rows, (Hus.out.tab t ht).row⟩)
    have hk2 : ∀ W W2 vo hd, w11.Fr W [] -> LT W W2 vo hd s.tabs -> Calls Tryz.prog 18 #[.pointer (some ⟨kp, 0, none⟩), .int .i64 s.time, vo] W2 fun e w' => ∃ u, e = .returned u /\ Hid (StP cf w w' c2 X' Bc q0 S' vl vr vt' vL' vR' (j + 1) /\ w'.heap[b13]? = some (.cells #[.int .i64 s.time, .slice a NT mm, .bool s.clone] 39 (0, 0))) := fun W W2 vo hd hW hl => by
     have hop := (HT.out.op.still Hfx.out).still hW
     refine (OpAt.stepL HK.out (n := s.time) hop HT.out.pok (by have := HT.out.w_len; have := HN60.out; omega) hl Hus.out.len Hfits.out HRows.out).mono ?_
     rintro e w' ⟨z1, z2, z3, z4, m', B'', rfl, hF⟩
     exact ⟨_, rfl, Hz ⟨HT.out.cloned (HC.out.still hW) HBc.out (Hfx.out.trans hW (by simp)) hl hF, (hop.still hl.fr).keep hF.fr ((hW.trans hl.fr (by simp)).heap Q15.out (by simp)) (by decide) (by decide)⟩⟩
    have Hk1 := Hz hk1; have Hk2 := Hz hk2
    clear hk1 hk2 HT HC HBc Hfx
    go_upto_region 21 with (fail)
    go_cut [] (fun wx => Hid (StP cf w wx c2 X' Bc q0 S' vl vr vt' vL' vR' (j + 1)))
    case first =>
     obtain ⟨m0, m1, m2, mf⟩ := tri Q15.out
     have hmk : ∀ w' : World, w'.heap[b13]? = some (.cells #[.int .i64 s.time, .slice a NT mm, .bool s.clone] 39 (0, 0)) -> w'.cell? ⟨b13, 0, none⟩ = some (.int .i64 s.time) /\ w'.cell? ⟨b13, 1, none⟩ = some (.slice a NT mm) := fun w' h => by
      obtain ⟨y0, y1, _, _⟩ := tri h
      exact ⟨y0, y1⟩
     have Hmk := Hz hmk
     have hFx := (World.Fr.refl w11 []).drew
     have HBx := Hz (hFx.heap Q15.out (by simp))
     clear hmk
     go_region_held3 (fun w' => w'.cell? ⟨b13, 0, none⟩ = some (.int .i64 s.time) /\ w'.cell? ⟨b13, 1, none⟩ = some (.slice a NT mm)) (exact Hmk.out _ HBx.out)
      (first | (go_at_call 25; (with_reducible refine (Hk1.out _ hFx).mono ?_); rintro e w12 ⟨vo, hd, rfl, hl⟩; have HBx := Hz (hl.fr.heap HBx.out (by simp))) | (go_at_call 18; (with_reducible refine (Hk2.out _ _ _ _ hFx hl).mono ?_); rintro e w13 ⟨u, rfl, hst⟩; have HBx := Hz hst.out.2))
     go_wp2
     go_meet
     case rel => exact Hz hst.out.1
    case rest =>
    have HI := Hz hcut.out
    clear hcut Hk1 Hk2 Q15
    go_wp2
    go_roundw
    case rel => exact ⟨j + 1, c2, _, _, _, _, _, _, by go_num, rfl, by omega, HI⟩
    case measure => simp [intOf]; omega
  ·have hd : decide ((j : Int) < (N : Int)) = false := decide_eq_false (by omega)
   have hd2 : decide (j < N) = false := decide_eq_false hlt
   have HF := Hz HI.out.ref.fr
   clear HI hlt hj
   go_wp2
   go_ret
   exact ⟨rfl, HF.out⟩
end
end Go.Proofs.YtbejmdlncnkaaaaGreat
