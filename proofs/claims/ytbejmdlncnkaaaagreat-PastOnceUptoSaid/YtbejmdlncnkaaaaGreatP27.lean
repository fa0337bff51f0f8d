/-
  The walk of the statement PastOnce.
-/
import Derived.Test.YtbejmdlncnkaaaaGreatP26
namespace Go.Proofs.YtbejmdlncnkaaaaGreat
open Go.RowKit

theorem LV.put {w W : World} {k1 : Nat} {X : PX} {B1 : List Nat} {k2 : Nat} {Y : PX} {B2 : List Nat} {bs : List (Nat × Value × Value × Tb)} (h : LV w W k1 X B1 k2 Y B2 bs) {A : Nat} {u v x y : Value} {t : Tb} (hA : W.heap[A]? = some (.cells #[u, v] 34 (0, 0))) (hn : ∀ q, q ∈ bs → q.1 ≠ A) (hw : w.heap.size ≤ A) (ht : SlTab W (.agg #[x, y]) t) :
    LV w ((W.setCell ⟨A, 0, none⟩ x).setCell ⟨A, 1, none⟩ y) k1 X B1 k2 Y B2 ((A, x, y, t) :: bs) := by
  have h1 := ((World.Fr.refl W [A]).setCell (a := ⟨A, 0, none⟩) (.inl (by simp)) x).setCell (a := ⟨A, 1, none⟩) (.inl (by simp)) y
  have hod := Odd.one hA (by decide)
  refine ⟨h.p.fr h1 hod (fun k hk hm => by simp at hm; subst hm; exact h.p.ne hA (by decide) (by decide) hk), h.s.fr h1 hod (fun k hk hm => by simp at hm; subst hm; exact h.s.ne hA (by decide) (by decide) hk), h.dj, h.b1, h.b2, h.fr.trans h1 (fun k hk => .inr (by simp at hk; subst hk; exact hw)), fun q hq => ?_⟩
  rcases List.mem_cons.1 hq with rfl | hq
  · exact ⟨heap_set_same (heap_set_same hA 0 x) 1 y, ht.fr h1 hod⟩
  · exact ⟨h1.heap (h.box q hq).1 (by simpa using hn q hq), (h.box q hq).2.fr h1 hod⟩
theorem len_one' {α : Type} {l : List α} (h : (l.length : Int) = 1) : ∃ t, l = [t] := by
  match l, h with
  | [t], _ => exact ⟨t, rfl⟩
  | [], h => simp at h
  | _ :: _ :: _, h => simp at h; omega
/-- between the points: both operators, alike -/
structure OnI (cf : V → V → Int) (w wr : World) (p1 : Nat) (X : PX) (B1 : List Nat) (p2 : Nat) (B2 : List Nat) (j : Nat) : Prop where
  lv : LV w wr p1 X B1 p2 X.two B2 []
  ok : POkP cf X 600
  fn : X.fn = 65
  parts : X.parts = 1
  left : X.left = []
  few : X.w.length ≤ j
theorem OnI.still {cf : V → V → Int} {w wr w' : World} {p1 : Nat} {X : PX} {B1 : List Nat} {p2 : Nat} {B2 : List Nat} {j : Nat} (h : OnI cf w wr p1 X B1 p2 B2 j) (hf : wr.Fr w' []) : OnI cf w w' p1 X B1 p2 B2 j := ⟨h.lv.still hf, h.ok, h.fn, h.parts, h.left, h.few⟩
theorem OnI.more {cf : V → V → Int} {w wr : World} {p1 : Nat} {X : PX} {B1 : List Nat} {p2 : Nat} {B2 : List Nat} {j : Nat} (h : OnI cf w wr p1 X B1 p2 B2 j) : OnI cf w wr p1 X B1 p2 B2 (j + 1) := ⟨h.lv, h.ok, h.fn, h.parts, h.left, Nat.le_succ_of_le h.few⟩

set_option maxRecDepth 100000 in
set_option maxHeartbeats 8000000 in
theorem once4 {cf : V → V → Int} (hK : Ctx V.wf cf) {w : World} {i : Iv} {v2 v3 : Value} {vars : List BA} {ss : List SD} (h2 : RdStr w v2 vars) (hv : vars.length ≤ 1048576) (h3 : RdSteps w v3 ss) (hl : ss.length ≤ 1048576) (hu : ∀ s, s ∈ ss → SDU s) :
    Calls Tryz.prog 4 #[ivV i, v2, v3] w fun e w' => e = .returned (.bool true) ∧ w.Fr w' [] := by
  obtain ⟨lo, hi, op⟩ := i
  obtain ⟨c1, c2, rfl, _, _⟩ := h2.rd.shape
  obtain ⟨d1, d2, rfl⟩ := h3.shape
  obtain ⟨NV, hNV⟩ : ∃ N, vars.length = N := ⟨_, rfl⟩
  obtain ⟨N, hN⟩ : ∃ N, ss.length = N := ⟨_, rfl⟩
  rw [hNV] at h2 ⊢
  rw [hN] at h3 ⊢
  have q1 := heap_alloc_at w (.cells #[.int .i64 lo, .int .i64 hi, .bool op] 23) _ rfl
  have f1 := (World.Fr.refl w []).alloc (.cells #[.int .i64 lo, .int .i64 hi, .bool op] 23)
  have HK := Lib.hid hK; have H2 := Lib.hid h2; have H3 := Lib.hid h3; have HV := Lib.hid hv; have HL := Lib.hid hl; have HU := Lib.hid hu; have HN := Lib.hid hN; have HNV := Lib.hid hNV
  have Q1 := Lib.hid q1; have F := Lib.hid f1
  clear hK h2 h3 hv hl hu hN hNV q1 f1
  go_enter Tryz.func4, Tryz.ntmps4
  go_upto_region 1 with (fail)
  generalize hW : World.alloc w _ = W at *
  clear hW
  generalize hb3 : w.heap.size = b3 at *
  clear hb3
  have k := Lib.hid (live14 HK.out W)
  go_wp2_with fail
  (with_reducible refine k.out.mono ?_)
  rintro e w1 ⟨rfl, fx⟩
  have Q1 := Lib.hid (fx.heap Q1.out (by simp)); have F := Lib.hid (F.out.trans fx (by simp))
  clear k fx
  have k := many15 (H3.out.still F.out) HL.out HU.out
  obtain ⟨RA, hRA⟩ : ∃ n, rowsAll ss = n := ⟨_, rfl⟩
  rw [hRA] at k
  have k := Lib.hid k
  have HRA := Lib.hid hRA
  clear hRA
  go_wp2_with fail
  (with_reducible refine k.out.mono ?_)
  rintro e w2 ⟨rfl, fx⟩
  have Q1 := Lib.hid (fx.heap Q1.out (by simp)); have F := Lib.hid (F.out.trans fx (by simp))
  clear k fx
  by_cases hmany : 600 < RA
  · have hd : decide ((600 : Int) < (RA : Int)) = true := decide_eq_true (by omega)
    have hd2 : decide (600 < RA) = true := decide_eq_true hmany
    clear hmany
    go_wp2
    go_ret
    exact ⟨rfl, F.out⟩
  have hd : decide ((600 : Int) < (RA : Int)) = false := decide_eq_false (by omega)
  have hd2 : decide (600 < RA) = false := decide_eq_false hmany
  have HRA : Hid (rowsAll ss ≤ 600) := Lib.hid (by have := HRA.out; omega)
  clear hmany
  obtain ⟨t0, t1, t2, tf⟩ := tri Q1.out
  have hz3 := lt_of_heap Q1.out
  have HSz := Lib.hid F.out.size
  have k := once20 HK.out (i := ⟨lo, hi, op⟩) (H2.out.fr F.out (by simp)) (by have := HV.out; have := HNV.out; omega)
  obtain ⟨R, hR⟩ : ∃ R, beginE ⟨lo, hi, op⟩ [] vars = R := ⟨_, rfl⟩
  rw [hR] at k
  have k := Lib.hid k
  have HR := Lib.hid hR
  clear hR
  go_wp2_with fail
  (with_reducible refine k.out.mono ?_)
  rintro e w3 ⟨⟨pv, rfl, hp⟩, fx⟩
  have Q1 := Lib.hid (fx.heap Q1.out (by simp)); have F := Lib.hid (F.out.trans fx (by simp))
  have HP := Lib.hid hp
  clear k fx hp t0 t1 t2 tf hz3 hd hd2
  obtain ⟨t0, t1, t2, tf⟩ := tri Q1.out
  have hz3 := lt_of_heap Q1.out
  have k := since21 HK.out (i := ⟨lo, hi, op⟩) (nt := true) (RdStr.none w3) (H2.out.fr F.out (by simp)) (by simp) (by have := HV.out; have := HNV.out; omega)
  rw [HR.out] at k
  have k := Lib.hid k
  go_wp2_with fail
  (with_reducible refine k.out.mono ?_)
  rintro e w4 ⟨⟨pw, rfl, hp⟩, fx⟩
  have F := Lib.hid (F.out.trans fx (by simp)); have FX := Lib.hid fx
  have HP2 := Lib.hid hp
  clear k fx hp t0 t1 t2 tf hz3 Q1
  by_cases hR0 : R = 0
  · subst hR0
    have HPa : Hid (∃ k vl vr, pv = .pointer (some ⟨k, 0, none⟩) ∧ w2.heap.size ≤ k ∧ PastAt w3 k (beginS ⟨lo, hi, op⟩ false [] vars 65 1) vl vr (.slice none 0 0)) := Lib.hid (HP.out.elim (fun h => absurd rfl h.1) (fun h => h.2))
    have HPb : Hid (∃ k vl vr, pw = .pointer (some ⟨k, 0, none⟩) ∧ w3.heap.size ≤ k ∧ PastAt w4 k (beginS ⟨lo, hi, op⟩ true [] vars 65 2) vl vr (.slice none 0 0)) := Lib.hid (HP2.out.elim (fun h => absurd rfl h.1) (fun h => h.2))
    clear HP HP2
    obtain ⟨p1, vl, vr, rfl, hk1, hpa⟩ := HPa.out
    obtain ⟨p2, vl2, vr2, rfl, hk2, hpb⟩ := HPb.out
    have hoa := OpAt.begun hpa
    have hob := OpAt.begun hpb
    have HI0 : Hid (OnI cf w w4 p1 (beginP ⟨lo, hi, op⟩ false [] vars 65 1) [p1] p2 [p2] 0) := Lib.hid (by
      have hlt := hoa.lt p1 (by simp)
      have h0 := HSz.out
      refine ⟨⟨hoa.still FX.out, hob, fun k hk hm => ?_, fun k hk => ?_, fun k hk => ?_, F.out, by simp⟩, beginP_ok HR.out (.inr ⟨rfl, rfl⟩) (.inl rfl), rfl, rfl, sortN, Nat.le_refl _⟩
      · simp at hk hm; omega
      · simp at hk; subst hk; exact Nat.le_trans h0 hk1
      · simp at hk; subst hk; omega)
    clear HPa HPb hpa hpb hk1 hk2 hoa hob FX
    by_cases hlong : 60 < N
    · have hd : decide ((60 : Int) < (N : Int)) = true := decide_eq_true (by omega)
      have hd2 : decide (60 < N) = true := decide_eq_true hlong
      clear hlong
      go_wp2
      go_ret
      exact ⟨rfl, F.out⟩
    have hd : decide ((60 : Int) < (N : Int)) = false := decide_eq_false (by omega)
    have hd2 : decide (60 < N) = false := decide_eq_false hlong
    have HN60 : Hid (N ≤ 60) := Lib.hid (by omega)
    clear hlong
    go_wp2
    go_loopw [55] (fun i wr => ∃ (j : Nat) (X : PX) (B1 B2 : List Nat), i = .int .i64 j ∧ j ≤ N ∧ Hid (OnI cf w wr p1 X B1 p2 B2 j)) (fun i _ => (N - intOf i).toNat)
    case atStart => exact ⟨0, _, _, _, rfl, Nat.zero_le _, HI0⟩
    case round =>
      obtain ⟨j, X, B1, B2, rfl, hj, HI⟩ := hrel
      clear HI0 hd hd2 F
      by_cases hlt : j < N
      · obtain ⟨s, hs⟩ : ∃ s, ss[j]? = some s := ⟨ss[j]'(by have := HN.out; omega), List.getElem?_eq_getElem _⟩
        obtain ⟨g, off, c, a, mm, hv, hg, k0, k1, k2, hrd⟩ := H3.out.at hs
        rw [HN.out] at hv
        cases hv
        have hfr := HI.out.lv.fr
        have k0 := cellFr hfr k0 (by simp)
        have k1 := cellFr hfr k1 (by simp)
        have k2 := cellFr hfr k2 (by simp)
        have hg := Nat.lt_of_lt_of_le hg hfr.size
        have hjI : (j : Int) < (N : Int) := by omega
        have hw1 : IntKind.i64.wrap ((j : Int) + 1) = (j : Int) + 1 := IntWalk.i64_in _ (by have := HN60.out; omega)
        have hnn : (0 : Int) ≤ (j : Int) := by omega
        have hus := HU.out s (List.mem_of_getElem? hs)
        have hrows : ∀ t, t ∈ s.tabs → t.rows.length ≤ 600 := fun t ht => Nat.le_trans (rowsOf_mem ht) (Nat.le_trans (rowsAll_mem (List.mem_of_getElem? hs)) HRA.out)
        have hf15 := (World.Fr.refl wr []).alloc (.cells #[.int .i64 s.time, .slice a s.tabs.length mm, .bool s.clone] 39)
        have q15 := heap_alloc_at wr (.cells #[.int .i64 s.time, .slice a s.tabs.length mm, .bool s.clone] 39) _ rfl
        have hi15 := HI.out.still hf15
        obtain ⟨NT, hNT⟩ : ∃ n, s.tabs.length = n := ⟨_, rfl⟩
        rw [hNT] at q15 k1 hi15
        have HI := Lib.hid hi15; have HNT := Lib.hid hNT; have Hrd := Lib.hid hrd; have Hrows := Lib.hid hrows; have HUs := Lib.hid hus
        clear hi15 hf15 hus hs hfr hrows hNT hrd
        go_upto_region 13 with (fail)
        generalize hWW : World.alloc wr _ = w5 at *
        clear hWW
        generalize wr.heap.size = b13 at *
        obtain ⟨m0, m1, m2, mf⟩ := tri q15
        have hz15 := lt_of_heap q15
        have Q15 := Lib.hid q15
        clear q15 k0 k1 k2 hg
        by_cases h1 : NT = 1
        · subst h1
          obtain ⟨t, hts⟩ := len_one' (l := s.tabs) (by rw [HNT.out]; rfl)
          have hst : stepP cf X.two s.time [noT, t] = ((stepP cf X s.time s.tabs).1, (stepP cf X s.time s.tabs).2.1, (stepP cf X s.time s.tabs).2.2.two) := by rw [hts]; exact step_both HK.out.ord (n := s.time) (t := t) HI.out.ok HI.out.fn HI.out.parts HI.out.left
          have hokX := HI.out.ok.step HK.out.ord (n := s.time) (ts := s.tabs) (fun h0 t' ht' => by
            obtain ⟨_, _, _, _, h5, _, _⟩ := wrongE_zero (S := X.ps) HI.out.ok.parts h0
            exact ⟨good_of HK.out.ord (h5 t' ht') (tabU_fits Hrd.out HUs.out.tab t' ht').ok, Hrows.out t' ht'⟩)
          have hfix := step_fix (cf := cf) (X := X) (n := s.time) (ts := s.tabs)
          have hlen := stepP_len (cf := cf) (X := X) (n := s.time) (ts := s.tabs)
          obtain ⟨g2, off2, c2x, x1, x2, x3, x4, hv, hg2, l1, l2, htab⟩ := Hrd.out.at (j := 0) (t := t) (by rw [hts]; rfl)
          rw [hts] at hv
          cases hv
          simp only [Nat.zero_mul, Nat.add_zero] at l1 l2
          have hgood : (stepP cf X s.time s.tabs).1 = 0 ∨ (stepP cf X s.time s.tabs).2.1 = noT := by
            unfold stepP
            split
            · exact .inl rfl
            · exact .inr rfl
          have hfitT : Small (stepP cf X s.time s.tabs).2.1 := by
            unfold stepP
            split
            · rename_i h0
              exact ((tellP_good HK.out.ord HI.out.ok (by decide) (by have := HI.out.few; have := HN60.out; omega) h0 (fun t' ht' => by
                obtain ⟨_, _, _, _, h5, _, _⟩ := wrongE_zero (S := X.ps) HI.out.ok.parts h0
                exact ⟨good_of HK.out.ord (h5 t' ht') (tabU_fits Hrd.out HUs.out.tab t' ht').ok, Hrows.out t' ht'⟩)).1.fits (by
                have := (tellP_good HK.out.ord HI.out.ok (by decide) (by have := HI.out.few; have := HN60.out; omega) h0 (fun t' ht' => by
                  obtain ⟨_, _, _, _, h5, _, _⟩ := wrongE_zero (S := X.ps) HI.out.ok.parts h0
                  exact ⟨good_of HK.out.ord (h5 t' ht') (tabU_fits Hrd.out HUs.out.tab t' ht').ok, Hrows.out t' ht'⟩)).2.2.1
                exact this)).small
            · exact noT_fits.small
          have hc := step18 HK.out (M := 600) (by decide) (n := s.time) (ts := s.tabs) HI.out.lv.p HI.out.ok (by have := HI.out.few; have := HN60.out; omega) (fun W hW => Hrd.out.still (HI.out.lv.fr.trans hW (fun k hk => .inr (HI.out.lv.b1 k hk)))) (fun hpos g3 off3 l3 c3 e hm => by have h1 := Hrd.out.below hpos e; have h2 := HI.out.lv.b1 g3 hm; omega) (by have := HUs.out.len; omega) (tabU_fits Hrd.out HUs.out.tab) (fun _ => Hrows.out)
          obtain ⟨T, hT⟩ : ∃ T, (stepP cf X s.time s.tabs).2.1 = T := ⟨_, rfl⟩
          obtain ⟨E, hE⟩ : ∃ T, (stepP cf X s.time s.tabs).1 = T := ⟨_, rfl⟩
          obtain ⟨X', hX'⟩ : ∃ T, (stepP cf X s.time s.tabs).2.2 = T := ⟨_, rfl⟩
          rw [hT, hE, hX'] at hc hst
          rw [hT] at hfitT
          rw [hX'] at hokX hfix hlen
          rw [HNT.out] at hc
          have Hc := Lib.hid hc; have HSt := Lib.hid hst; have HokX := Lib.hid hokX; have HFix := Lib.hid hfix; have HLen := Lib.hid hlen; have HTab := Lib.hid htab; have HFitT := Lib.hid hfitT; have HTs := Lib.hid hts; have L1 := Lib.hid l1; have L2 := Lib.hid l2; have HG2 := Lib.hid hg2
          clear hc hst hokX hfix hlen htab hfitT hts hgood hT hE hX' l1 l2 hg2
          go_wp2_with fail
          (with_reducible refine Hc.out.mono ?_)
          rintro e w6 ⟨u, B1', rfl, hn, ho, hb, hfb⟩
          have hsl := hn.sl
          obtain ⟨ua, ub, _, hu', _⟩ := hsl.ex
          subst hu'
          obtain ⟨u1, u2, u3, u4, rfl, rfl⟩ := hsl.shape
          have hlv := HI.out.lv.stepP ho hb hfb
          have hf16 := (World.Fr.refl w6 []).alloc (.cells #[.slice u1 T.vars.length u2, .slice u3 T.rows.length u4] 34)
          have q15 := hf16.heap (hfb.heap Q15.out (HI.out.lv.p.ne Q15.out (by decide) (by decide))) (by simp)
          have HLV := Lib.hid (hlv.push hsl); have Q15 := Lib.hid q15
          clear m0 m1 m2 mf hz15 hsl hn q15 hf16 ho hb hfb Hc hlv
          go_upto_region 15 with (fail)
          generalize hWW : World.alloc w6 _ = w7 at *
          clear hWW
          generalize w6.heap.size = b14 at *
          obtain ⟨m0, m1, m2, mf⟩ := tri Q15.out
          have hz15 := lt_of_heap Q15.out
          have hfr7 := HLV.out.fr
          have l1 := cellFr hfr7 L1.out (by simp)
          have l2 := cellFr hfr7 L2.out (by simp)
          have hg2 := Nat.lt_of_lt_of_le HG2.out hfr7.size
          have h01 : (0 : Int) < ((1 : Nat) : Int) := by omega
          have h01' : (0 : Nat) < 1 := by omega
          have hstep : ∀ (W : World) (G : Nat), LV w W p1 X' B1' p2 X.two B2 [(b14, .slice u1 T.vars.length u2, .slice u3 T.rows.length u4, T)] → W.heap[G]? = some (.cells #[.slice none 0 0, .slice none 0 0, .slice x1 t.vars.length x2, .slice x3 t.rows.length x4] 34 (0, 0)) → Calls Tryz.prog 18 #[.pointer (some ⟨p2, 0, none⟩), .int .i64 s.time, .slice (some ⟨G, 0, none⟩) 2 2] W fun e w' => ∃ y1 y2 y3 y4 B2', e = .returned (.tuple #[.agg #[.slice y1 T.vars.length y2, .slice y3 T.rows.length y4], .int .i64 E]) ∧ Hid (LV w w' p1 X' B1' p2 X'.two B2' [(b14, .slice u1 T.vars.length u2, .slice u3 T.rows.length u4, T)] ∧ SlTab w' (.agg #[.slice y1 T.vars.length y2, .slice y3 T.rows.length y4]) T ∧ ∀ (b : Nat) (cs : Array Value), W.heap[b]? = some (.cells cs 34 (0, 0)) → w'.heap[b]? = some (.cells cs 34 (0, 0))) := fun W G hlv9 q9 => by
            have hne9 := hlv9.s.ne q9 (by decide) (by decide)
            have hc := step18 HK.out (M := 600) (by decide) (v := .slice (some ⟨G, 0, none⟩) 2 2) (n := s.time) (ts := [noT, t]) hlv9.s (HI.out.ok.two HI.out.fn) (by have := HI.out.few; have := HN60.out; show X.w.length ≤ 1000; omega) (fun W' hW => tabs_pair (hW.heap q9 hne9) (RdTab.nul W') (HTab.out.still (hlv9.fr.trans hW (fun k hk => .inr (hlv9.b2 k hk))))) (fun _ g' off l c' e => by cases e; exact hne9) (by simp) (by
              have := tabU_fits Hrd.out HUs.out.tab t (by rw [HTs.out]; simp)
              simp only [List.mem_cons, List.not_mem_nil, or_false]; rintro t' (rfl | rfl)
              · exact noT_fits
              · exact this) (fun _ => by
              have := Hrows.out t (by rw [HTs.out]; simp)
              simp only [List.mem_cons, List.not_mem_nil, or_false]; rintro t' (rfl | rfl)
              · simp
              · exact this)
            rw [HSt.out] at hc
            refine hc.mono fun e w' ⟨u', B2', he, hn, ho, hb, hfb⟩ => ?_
            have hsl := hn.sl
            obtain ⟨ua, ub, _, hu', _⟩ := hsl.ex
            subst hu'
            obtain ⟨y1, y2, y3, y4, rfl, rfl⟩ := hsl.shape
            exact ⟨y1, y2, y3, y4, B2', he, Lib.hid ⟨hlv9.stepS ho hb hfb, hsl, fun b cs hb' => hfb.heap hb' (hlv9.s.ne hb' (by decide) (by decide))⟩⟩
          have Hstep := Lib.hid hstep
          have HS1 : LV w (w7.alloc (.cells #[.slice none 0 0, .slice none 0 0, .slice x1 t.vars.length x2, .slice x3 t.rows.length x4] 34)).drew p1 X' B1' p2 X.two B2 [(b14, .slice u1 T.vars.length u2, .slice u3 T.rows.length u4, T)] := HLV.out.still (((World.Fr.refl w7 []).alloc _).drew)
          have HS2 : LV w ((w7.alloc (.cells #[.slice none 0 0, .slice none 0 0] 34)).alloc (.cells #[.slice none 0 0, .slice none 0 0, .slice x1 t.vars.length x2, .slice x3 t.rows.length x4] 34)).drew p1 X' B1' p2 X.two B2 [(b14, .slice u1 T.vars.length u2, .slice u3 T.rows.length u4, T)] := HLV.out.still ((((World.Fr.refl w7 []).alloc _).alloc _).drew)
          have HS3 : LV w ((w7.alloc (.cells #[.slice none 0 0, .slice none 0 0, .slice x1 t.vars.length x2, .slice x3 t.rows.length x4] 34)).alloc (.cells #[.slice none 0 0, .slice none 0 0] 34)).drew p1 X' B1' p2 X.two B2 [(b14, .slice u1 T.vars.length u2, .slice u3 T.rows.length u4, T)] := HLV.out.still ((((World.Fr.refl w7 []).alloc _).alloc _).drew)
          have G1 : (w7.alloc (.cells #[.slice none 0 0, .slice none 0 0, .slice x1 t.vars.length x2, .slice x3 t.rows.length x4] 34)).drew.heap[w7.heap.size]? = some (.cells #[.slice none 0 0, .slice none 0 0, .slice x1 t.vars.length x2, .slice x3 t.rows.length x4] 34 (0, 0)) := heap_alloc_at w7 _ _ rfl
          have G2 : ((w7.alloc (.cells #[.slice none 0 0, .slice none 0 0] 34)).alloc (.cells #[.slice none 0 0, .slice none 0 0, .slice x1 t.vars.length x2, .slice x3 t.rows.length x4] 34)).drew.heap[w7.heap.size + 1]? = some (.cells #[.slice none 0 0, .slice none 0 0, .slice x1 t.vars.length x2, .slice x3 t.rows.length x4] 34 (0, 0)) := heap_alloc_at (w7.alloc (.cells #[.slice none 0 0, .slice none 0 0] 34)) _ _ (by simp)
          have G3 : ((w7.alloc (.cells #[.slice none 0 0, .slice none 0 0, .slice x1 t.vars.length x2, .slice x3 t.rows.length x4] 34)).alloc (.cells #[.slice none 0 0, .slice none 0 0] 34)).drew.heap[w7.heap.size]? = some (.cells #[.slice none 0 0, .slice none 0 0, .slice x1 t.vars.length x2, .slice x3 t.rows.length x4] 34 (0, 0)) := heap_alloc_some (heap_alloc_at w7 (.cells #[.slice none 0 0, .slice none 0 0, .slice x1 t.vars.length x2, .slice x3 t.rows.length x4] 34) _ rfl) (.cells #[.slice none 0 0, .slice none 0 0] 34)
          have A2 : ((w7.alloc (.cells #[.slice none 0 0, .slice none 0 0] 34)).alloc (.cells #[.slice none 0 0, .slice none 0 0, .slice x1 t.vars.length x2, .slice x3 t.rows.length x4] 34)).drew.heap[w7.heap.size]? = some (.cells #[.slice none 0 0, .slice none 0 0] 34 (0, 0)) := heap_alloc_some (heap_alloc_at w7 (.cells #[.slice none 0 0, .slice none 0 0] 34) _ rfl) (.cells #[.slice none 0 0, .slice none 0 0, .slice x1 t.vars.length x2, .slice x3 t.rows.length x4] 34)
          have A3 : ((w7.alloc (.cells #[.slice none 0 0, .slice none 0 0, .slice x1 t.vars.length x2, .slice x3 t.rows.length x4] 34)).alloc (.cells #[.slice none 0 0, .slice none 0 0] 34)).drew.heap[w7.heap.size + 1]? = some (.cells #[.slice none 0 0, .slice none 0 0] 34 (0, 0)) := heap_alloc_at (w7.alloc (.cells #[.slice none 0 0, .slice none 0 0, .slice x1 t.vars.length x2, .slice x3 t.rows.length x4] 34)) _ _ (by simp)
          have G1 := Lib.hid G1; have G2 := Lib.hid G2; have G3 := Lib.hid G3; have A2 := Lib.hid A2; have A3 := Lib.hid A3
          have HS1 := Lib.hid HS1; have HS2 := Lib.hid HS2; have HS3 := Lib.hid HS3
          have HZ := Lib.hid (show w.heap.size ≤ w7.heap.size ∧ b14 < w7.heap.size from ⟨hfr7.size, lt_of_heap (HLV.out.box (b14, .slice u1 T.vars.length u2, .slice u3 T.rows.length u4, T) (by simp)).1⟩)
          clear hstep hfr7
          go_cut [16, 17] (fun s16 s17 wx => s17 = .int .i64 E ∧ ∃ (b16 : Nat) (y1 : Option Addr) (y2 : Nat) (y3 : Option Addr) (y4 : Nat) (B2' : List Nat), s16 = .pointer (some ⟨b16, 0, none⟩) ∧ Hid (LV w wx p1 X' B1' p2 X'.two B2' [(b16, .slice y1 T.vars.length y2, .slice y3 T.rows.length y4, T), (b14, .slice u1 T.vars.length u2, .slice u3 T.rows.length u4, T)]))
          case first =>
            go_region_with (first | (go_at_call 18; (with_reducible refine (Hstep.out _ _ HS1.out G1.out).mono ?_); rintro e w10 ⟨y1, y2, y3, y4, B2', rfl, hd⟩) | (go_at_call 18; (with_reducible refine (Hstep.out _ _ HS2.out G2.out).mono ?_); rintro e w10 ⟨y1, y2, y3, y4, B2', rfl, hd⟩; have hbA := hd.out.2.2 w7.heap.size _ A2.out; obtain ⟨v0, v1, vf⟩ := two hbA; have zA := lt_of_heap hbA; have HbA := Lib.hid (And.intro hbA HZ.out); clear hbA) | (go_at_call 18; (with_reducible refine (Hstep.out _ _ HS3.out G3.out).mono ?_); rintro e w10 ⟨y1, y2, y3, y4, B2', rfl, hd⟩; have hbA := hd.out.2.2 (w7.heap.size + 1) _ A3.out; obtain ⟨v0, v1, vf⟩ := two hbA; have zA := lt_of_heap hbA; have HbA := Lib.hid (And.intro hbA (And.intro (Nat.le_succ_of_le HZ.out.1) (Nat.lt_succ_of_lt HZ.out.2))); clear hbA))
            all_goals
              go_wp2_with fail
              go_meet
              case rel => first | exact ⟨rfl, _, y1, y2, y3, y4, B2', rfl, Lib.hid (hd.out.1.put HbA.out.1 (by simp; have := HbA.out.2.2; omega) HbA.out.2.1 hd.out.2.1)⟩ | exact ⟨rfl, _, y1, y2, y3, y4, B2', rfl, Lib.hid (hd.out.1.push hd.out.2.1)⟩
          case rest =>
          obtain ⟨rfl, b16, y1, y2, y3, y4, B2', rfl, HLV⟩ := hcut
          clear Hstep HS1 HS2 HS3 G1 G2 G3 A2 A3 HZ m0 m1 m2 mf hz15 l1 l2 hg2 Q15
          have hEE : (E != E) = false := by simp
          obtain ⟨q16, hT16⟩ := HLV.out.box (b16, .slice y1 T.vars.length y2, .slice y3 T.rows.length y4, T) (by simp)
          obtain ⟨q14, hT14⟩ := HLV.out.box (b14, .slice u1 T.vars.length u2, .slice u3 T.rows.length u4, T) (by simp)
          have hsame := rsame17 hT14.rd hT16.rd HFitT.out
          rw [same_refl] at hsame
          have Hs := Lib.hid hsame
          obtain ⟨r0, r1, rf⟩ := two q14
          obtain ⟨p0, p1', pf⟩ := two q16
          have z14 := lt_of_heap q14
          have z16 := lt_of_heap q16
          clear hsame hT14 hT16 q14 q16
          go_wp2_with fail
          (with_reducible refine Hs.out.mono ?_)
          rintro e w12 ⟨rfl, fx⟩
          have HIn : Hid (OnI cf w w12 p1 X' B1' p2 B2' (j + 1)) := Lib.hid ⟨LV.sub (HLV.out.still fx) (by simp), HokX.out, HFix.out.2.2.2.2.1.trans HI.out.fn, HFix.out.2.2.2.2.2.trans HI.out.parts, HFix.out.2.2.1.trans HI.out.left, by have := HLen.out; have := HI.out.few; omega⟩
          clear r0 r1 rf p0 p1' pf z14 z16 fx Hs HLV HI
          go_wp2
          go_roundw
          case rel => exact ⟨j + 1, X', B1', B2', by go_num, by omega, HIn⟩
          case measure => simp [intOf]; omega
        · have hb : ((NT : Int) != 1) = true := by simp; omega
          have HIm := Lib.hid HI.out.more
          clear h1
          go_wp2
          go_roundw
          case rel => exact ⟨j + 1, X, B1, B2, by go_num, by omega, HIm⟩
          case measure => simp [intOf]; omega
      · have hd : decide ((j : Int) < (N : Int)) = false := decide_eq_false (by omega)
        have hd2 : decide (j < N) = false := decide_eq_false hlt
        have HF := Lib.hid HI.out.lv.fr
        clear HI hlt hj
        go_wp2
        go_ret
        exact ⟨rfl, HF.out⟩
  · have hb : (R == 0) = false := by simpa using hR0
    have hb2 : (R != 0) = true := by simpa using hR0
    obtain rfl : pv = .pointer none := (HP.out.elim (fun h => h.2) (fun h => absurd h.1 hR0))
    obtain rfl : pw = .pointer none := (HP2.out.elim (fun h => h.2) (fun h => absurd h.1 hR0))
    have hRR : (R != R) = false := by simp
    clear HP HP2 hR0 HR
    go_wp2
    go_ret
    exact ⟨rfl, F.out⟩
end Go.Proofs.YtbejmdlncnkaaaaGreat
