/-
  The walk of the statement FutureSoon.
-/
import Derived.Test.YtbejmdlncnkaaaaGreatF19
import Derived.Test.YtbejmdlncnkaaaaGreatP27
namespace Go.Proofs.YtbejmdlncnkaaaaGreat
open Go.RowKit

set_option maxRecDepth 100000 in
set_option maxHeartbeats 8000000 in
theorem soon7 {cf : V → V → Int} (hK : Ctx V.wf cf) (h12 : cf (vI 1) (vI 2) < 0) {w : World} {i : Iv} {v2 v3 : Value} {vars : List BA} {ss : List SD} (h2 : RdStr w v2 vars) (hv : vars.length ≤ 1048576) (h3 : RdSteps w v3 ss) (hl : ss.length ≤ 1048576) (hu : ∀ s, s ∈ ss → SDU s) :
    Calls Tryz.prog 7 #[ivV i, v2, v3] w fun e w' => e = .returned (.bool true) ∧ w.Fr w' [] := by
  obtain ⟨lo, hi, op⟩ := i
  obtain ⟨c1, c2, rfl, _, _⟩ := h2.rd.shape
  obtain ⟨d1, d2, rfl⟩ := h3.shape
  obtain ⟨NV, hNV⟩ : ∃ N, vars.length = N := ⟨_, rfl⟩
  obtain ⟨N, hN⟩ : ∃ N, ss.length = N := ⟨_, rfl⟩
  rw [hNV] at h2 ⊢
  rw [hN] at h3 ⊢
  have q1 := heap_alloc_at w (.cells #[.int .i64 lo, .int .i64 hi, .bool op] 23) _ rfl
  have f1 := (World.Fr.refl w []).alloc (.cells #[.int .i64 lo, .int .i64 hi, .bool op] 23)
  have HK := Lib.hid hK; have H12 := Lib.hid h12; have H2 := Lib.hid h2; have H3 := Lib.hid h3; have HV := Lib.hid hv; have HL := Lib.hid hl; have HU := Lib.hid hu; have HN := Lib.hid hN; have HNV := Lib.hid hNV
  have Q1 := Lib.hid q1; have F := Lib.hid f1
  clear hK h12 h2 h3 hv hl hu hN hNV q1 f1
  go_enter Tryz.func7, Tryz.ntmps7
  go_upto_region 1 with (fail)
  generalize hW : World.alloc w _ = W at *
  clear hW
  generalize hb3 : w.heap.size = b3 at *
  clear hb3
  have k := Lib.hid (live29 HK.out H12.out W)
  go_wp2_with fail
  (with_reducible refine k.out.mono ?_)
  rintro e w1 ⟨rfl, fx⟩
  have Q1 := Lib.hid (fx.heap Q1.out (by simp)); have F := Lib.hid (F.out.trans fx (by simp))
  clear k fx
  have k := many30 (H3.out.still F.out) HL.out HU.out
  obtain ⟨RA, hRA⟩ : ∃ n, rowsAll ss = n := ⟨_, rfl⟩
  rw [hRA] at k
  have k := Lib.hid k
  have HRA := Lib.hid hRA
  clear hRA
  go_wp2_with fail
  (with_reducible refine k.out.mono ?_)
  rintro e w2 ⟨rfl, fx⟩
  have Q1 := Lib.hid (fx.heap Q1.out (by simp)); have F := Lib.hid (F.out.trans fx (by simp))
  clear k fx
  by_cases hmany : 600 < RA
  · have hd : decide ((600 : Int) < (RA : Int)) = true := decide_eq_true (by omega)
    have hd2 : decide (600 < RA) = true := decide_eq_true hmany
    clear hmany
    go_wp2
    go_ret
    exact ⟨rfl, F.out⟩
  have hd : decide ((600 : Int) < (RA : Int)) = false := decide_eq_false (by omega)
  have hd2 : decide (600 < RA) = false := decide_eq_false hmany
  have HRA : Hid (rowsAll ss ≤ 600) := Lib.hid (by have := HRA.out; omega)
  clear hmany
  obtain ⟨t0, t1, t2, tf⟩ := tri Q1.out
  have hz3 := lt_of_heap Q1.out
  have HSz := Lib.hid F.out.size
  have k := soon31 HK.out (Q := anyB) (fun _ _ => trivial) (i := ⟨lo, hi, op⟩) (H2.out.fr F.out (by simp)) (by have := HV.out; have := HNV.out; omega)
  obtain ⟨R, hR⟩ : ∃ R, beginF ⟨lo, hi, op⟩ [] vars = R := ⟨_, rfl⟩
  rw [hR] at k
  have k := Lib.hid k
  have HR := Lib.hid hR
  clear hR
  go_wp2_with fail
  (with_reducible refine k.out.mono ?_)
  rintro e w3 ⟨⟨pv, rfl, hp⟩, fx⟩
  have Q1 := Lib.hid (fx.heap Q1.out (by simp)); have F := Lib.hid (F.out.trans fx (by simp))
  have HP := Lib.hid hp
  clear k fx hp t0 t1 t2 tf hz3 hd hd2
  obtain ⟨t0, t1, t2, tf⟩ := tri Q1.out
  have hz3 := lt_of_heap Q1.out
  have k := until32 HK.out (Q := anyB) (fun _ _ => trivial) (i := ⟨lo, hi, op⟩) (nt := true) (RdStr.none w3) (H2.out.fr F.out (by simp)) (by simp) (by have := HV.out; have := HNV.out; omega)
  rw [HR.out] at k
  have k := Lib.hid k
  go_wp2_with fail
  (with_reducible refine k.out.mono ?_)
  rintro e w4 ⟨⟨pw, rfl, hp⟩, fx⟩
  have F := Lib.hid (F.out.trans fx (by simp)); have FX := Lib.hid fx
  have HP2 := Lib.hid hp
  clear k fx hp t0 t1 t2 tf hz3 Q1
  by_cases hR0 : R = 0
  · subst hR0
    have HPa : Hid (∃ k vl vr, pv = .pointer (some ⟨k, 0, none⟩) ∧ w2.heap.size ≤ k ∧ FutAt anyB w3 k (fbeginS ⟨lo, hi, op⟩ false [] vars 1 false) vl vr (.slice none 0 0)) := Lib.hid (HP.out.elim (fun h => absurd rfl h.1) (fun h => h.2))
    have HPb : Hid (∃ k vl vr, pw = .pointer (some ⟨k, 0, none⟩) ∧ w3.heap.size ≤ k ∧ FutAt anyB w4 k (fbeginS ⟨lo, hi, op⟩ true [] vars 2 false) vl vr (.slice none 0 0)) := Lib.hid (HP2.out.elim (fun h => absurd rfl h.1) (fun h => h.2))
    clear HP HP2
    obtain ⟨p1, vl, vr, rfl, hk1, hpa⟩ := HPa.out
    obtain ⟨p2, vl2, vr2, rfl, hk2, hpb⟩ := HPb.out
    have hoa := FutOp.begun hpa
    have hob := FutOp.begun hpb
    have HI0 : Hid (SnI cf w w4 p1 (fbeginX ⟨lo, hi, op⟩ false [] vars 1 false) [p1] p2 [p2] 0) := Lib.hid (by
      have hlt := hoa.lt p1 (by simp)
      have h0 := HSz.out
      refine ⟨⟨hoa.still FX.out, hob, fun k hk hm => ?_, fun k hk => ?_, fun k hk => ?_, F.out⟩, beginF_ok HR.out (.inl rfl), half_begun _ _, by simp⟩
      · simp at hk hm; omega
      · simp at hk; subst hk; exact Nat.le_trans h0 hk1
      · simp at hk; subst hk; omega)
    clear HPa HPb hpa hpb hk1 hk2 hoa hob FX
    by_cases hlong : 50 < N
    · have hd : decide ((50 : Int) < (N : Int)) = true := decide_eq_true (by omega)
      have hd2 : decide (50 < N) = true := decide_eq_true hlong
      clear hlong
      go_wp2
      go_ret
      exact ⟨rfl, F.out⟩
    have hd : decide ((50 : Int) < (N : Int)) = false := decide_eq_false (by omega)
    have hd2 : decide (50 < N) = false := decide_eq_false hlong
    have HN60 : Hid (N ≤ 50) := Lib.hid (by omega)
    clear hlong
    go_wp2
    go_loopw [55] (fun i wr => ∃ (j : Nat) (X : FS) (B1 B2 : List Nat), i = .int .i64 j ∧ j ≤ N ∧ Hid (SnI cf w wr p1 X B1 p2 B2 j)) (fun i _ => (N - intOf i).toNat)
    case atStart => exact ⟨0, _, _, _, rfl, Nat.zero_le _, HI0⟩
    case round =>
      obtain ⟨j, X, B1, B2, rfl, hj, HI⟩ := hrel
      clear HI0 hd hd2 F
      by_cases hlt : j < N
      · obtain ⟨s, hs⟩ : ∃ s, ss[j]? = some s := ⟨ss[j]'(by have := HN.out; omega), List.getElem?_eq_getElem _⟩
        obtain ⟨g, off, c, a, mm, hv, hg, k0, k1, k2, hrd⟩ := H3.out.at hs
        rw [HN.out] at hv
        cases hv
        have hfr := HI.out.lv.fr
        have k0 := cellFr hfr k0 (by simp)
        have k1 := cellFr hfr k1 (by simp)
        have k2 := cellFr hfr k2 (by simp)
        have hg := Nat.lt_of_lt_of_le hg hfr.size
        have hjI : (j : Int) < (N : Int) := by omega
        have hw1 : IntKind.i64.wrap ((j : Int) + 1) = (j : Int) + 1 := IntWalk.i64_in _ (by have := HN60.out; omega)
        have hnn : (0 : Int) ≤ (j : Int) := by omega
        have hus := HU.out s (List.mem_of_getElem? hs)
        have hrows : ∀ t, t ∈ s.tabs → t.rows.length ≤ 600 := fun t ht => Nat.le_trans (rowsOf_mem ht) (Nat.le_trans (rowsAll_mem (List.mem_of_getElem? hs)) HRA.out)
        have hf15 := (World.Fr.refl wr []).alloc (.cells #[.int .i64 s.time, .slice a s.tabs.length mm, .bool s.clone] 61)
        have q15 := heap_alloc_at wr (.cells #[.int .i64 s.time, .slice a s.tabs.length mm, .bool s.clone] 61) _ rfl
        have hi15 := HI.out.still hf15
        obtain ⟨NT, hNT⟩ : ∃ n, s.tabs.length = n := ⟨_, rfl⟩
        rw [hNT] at q15 k1 hi15
        have HI := Lib.hid hi15; have HNT := Lib.hid hNT; have Hrd := Lib.hid hrd; have Hrows := Lib.hid hrows; have HUs := Lib.hid hus
        clear hi15 hf15 hus hs hfr hrows hNT hrd
        go_upto_region 13 with (fail)
        generalize hWW : World.alloc wr _ = w5 at *
        clear hWW
        generalize wr.heap.size = b13 at *
        obtain ⟨m0, m1, m2, mf⟩ := tri q15
        have hz15 := lt_of_heap q15
        have Q15 := Lib.hid q15
        clear q15 k0 k1 k2 hg
        by_cases h1 : NT = 1
        · subst h1
          obtain ⟨t, hts⟩ := len_one' (l := s.tabs) (by rw [HNT.out]; rfl)
          have hmn : X.told + X.pts.length + 1 ≤ 1000 := by have := HI.out.few; have := HN60.out; omega
          have hgood : wrongE cf X.ps s.time s.tabs = 0 → ∀ t, t ∈ s.tabs → Good cf t ∧ t.rows.length ≤ 600 := fun h0 t' ht' => by
            obtain ⟨_, _, _, _, h5, _, _⟩ := wrongE_zero (S := X.ps) HI.out.ok.parts h0
            exact ⟨good_of HK.out.ord (h5 t' ht') (tabU_fits Hrd.out HUs.out.tab t' ht').ok, Hrows.out t' ht'⟩
          have hgd1 : wrongE cf X.ps s.time [t] = 0 → Good cf t := fun h0 => (hgood (by rw [hts]; exact h0) t (by rw [hts]; simp)).1
          have hst : stepX cf (twoF X) s.time [noT, t] = ((stepX cf X s.time s.tabs).1, (stepX cf X s.time s.tabs).2.1, twoF (stepX cf X s.time s.tabs).2.2) := by rw [hts]; exact stepX_two HK.out.ord (n := s.time) (t := t) HI.out.half hgd1
          have hhalf : Half cf (stepX cf X s.time s.tabs).2.2 := by rw [hts]; exact stepX_half HI.out.half hgd1
          have hsum := stepX_sum (cf := cf) (X := X) (n := s.time) (ts := s.tabs)
          obtain ⟨hokX, htold, hlenX⟩ := stepX_good HK.out.ord (n := s.time) HI.out.ok hgood hmn
          obtain ⟨g2, off2, c2x, x1, x2, x3, x4, hv, hg2, l1, l2, htab⟩ := Hrd.out.at (j := 0) (t := t) (by rw [hts]; rfl)
          rw [hts] at hv
          cases hv
          simp only [Nat.zero_mul, Nat.add_zero] at l1 l2
          have hc := fstep33 HK.out (Q := anyB) (fun _ _ => trivial) (n := s.time) (ts := s.tabs) HI.out.lv.p (Hrd.out.still HI.out.lv.fr) HI.out.ok (by have := HUs.out.len; omega) (tabU_fits Hrd.out HUs.out.tab) hmn (fun _ => Hrows.out)
          have hfew : (stepX cf X s.time s.tabs).2.2.told + (stepX cf X s.time s.tabs).2.2.pts.length ≤ (j + 1 : Nat) := by rw [hsum]; have := HI.out.few; split <;> omega
          have hsm : ∀ x, x ∈ (stepX cf X s.time s.tabs).2.1 → Small x.2.2 := fun x hx => by
            obtain ⟨g1, _, g3⟩ := htold x hx
            exact (g1.fits (by omega)).small
          have hl1000 : (stepX cf X s.time s.tabs).2.1.length ≤ 1000 := by have := HI.out.few; have := HN60.out; have := HI.out.ok.told; omega
          obtain ⟨L, hL⟩ : ∃ T, (stepX cf X s.time s.tabs).2.1 = T := ⟨_, rfl⟩
          obtain ⟨E, hE⟩ : ∃ T, (stepX cf X s.time s.tabs).1 = T := ⟨_, rfl⟩
          obtain ⟨X', hX'⟩ : ∃ T, (stepX cf X s.time s.tabs).2.2 = T := ⟨_, rfl⟩
          rw [hL, hE, hX'] at hst
          rw [hE] at hc
          rw [hX'] at hokX hhalf hfew
          rw [hL] at hsm hl1000
          rw [HNT.out] at hc
          have Hc := Lib.hid hc; have HSt := Lib.hid hst; have HokX := Lib.hid hokX; have HHalf := Lib.hid hhalf; have HFew := Lib.hid hfew; have HTab := Lib.hid htab; have HSm := Lib.hid hsm; have HL1 := Lib.hid hl1000; have HTs := Lib.hid hts; have L1 := Lib.hid l1; have L2 := Lib.hid l2; have HG2 := Lib.hid hg2; have HX' := Lib.hid hX'; have HLL := Lib.hid hL
          clear hc hst hokX hhalf hfew htab hsm hl1000 hts hgood hgd1 hE hX' hL l1 l2 hg2 htold hlenX hsum hmn
          go_wp2_with fail
          (with_reducible refine Hc.out.mono ?_)
          rintro e w6 ⟨u, m, B1', vsA, rfl, hd⟩
          obtain ⟨a1, a2, rfl⟩ := hd.told.shape
          have heq := hd.eq
          rw [HLL.out] at heq
          have hop := hd.op
          rw [HX'.out] at hop
          have hlv := HI.out.lv.stepP (hop.imp (fun _ _ h => h.1)) (fun k hk => (hd.blk k hk).2) hd.fr
          have hva : VdAt anyB w6 (.slice a1 vsA.length a2) vsA := ⟨hd.told.sl, fun k hk => (hd.told.tab k hk).imp (fun _ _ _ => trivial)⟩
          have Q15 := Lib.hid (HI.out.lv.p.keep hd.fr Q15.out (by decide) (by decide))
          obtain ⟨LA, hLA⟩ : ∃ n, vsA.length = n := ⟨_, rfl⟩
          rw [hLA] at hva ⊢
          have HLV := Lib.hid hlv; have HVA := Lib.hid hva; have HEq := Lib.hid heq; have HLA := Lib.hid hLA
          clear m0 m1 m2 mf hz15 hlv hva heq hop hd Hc hLA
          obtain ⟨m0, m1, m2, mf⟩ := tri Q15.out
          have hz15 := lt_of_heap Q15.out
          have hfr7 := HLV.out.fr
          have l1 := cellFr hfr7 L1.out (by simp)
          have l2 := cellFr hfr7 L2.out (by simp)
          have hg2 := Nat.lt_of_lt_of_le HG2.out hfr7.size
          have h01 : (0 : Int) < ((1 : Nat) : Int) := by omega
          have h01' : (0 : Nat) < 1 := by omega
          go_upto_region 15 with (fail)
          have hstep : ∀ (W : World) (G : Nat), FV w W p1 X' B1' p2 (twoF X) B2 → VdAt anyB W (.slice a1 LA a2) vsA → W.heap[G]? = some (.cells #[.slice none 0 0, .slice none 0 0, .slice x1 t.vars.length x2, .slice x3 t.rows.length x4] 34 (0, 0)) → Calls Tryz.prog 33 #[.pointer (some ⟨p2, 0, none⟩), .int .i64 s.time, .slice (some ⟨G, 0, none⟩) 2 2] W fun e w' => ∃ b1 b2 B2', e = .returned (.tuple #[.slice b1 LA b2, .int .i64 E]) ∧ Hid (FV w w' p1 X' B1' p2 (twoF X') B2' ∧ VdAt anyB w' (.slice a1 LA a2) vsA ∧ ∃ vsB, VdAt anyB w' (.slice b1 LA b2) vsB ∧ vsA.map Vd.tt = vsB.map Vd.tt) := fun W G hlv9 hva9 q9 => by
            have hmn : (twoF X).told + (twoF X).pts.length + 1 ≤ 1000 := by have := HI.out.few; have := HN60.out; show X.told + X.pts.length + 1 ≤ 1000; omega
            have hc := fstep33 HK.out (Q := anyB) (fun _ _ => trivial) (v := .slice (some ⟨G, 0, none⟩) 2 2) (n := s.time) (ts := [noT, t]) hlv9.s (tabs_pair q9 (RdTab.nul W) (HTab.out.still hlv9.fr)) (HI.out.half.two HI.out.ok) (by simp) (by
              have := tabU_fits Hrd.out HUs.out.tab t (by rw [HTs.out]; simp)
              simp only [List.mem_cons, List.not_mem_nil, or_false]; rintro t' (rfl | rfl)
              · exact noT_fits
              · exact this) hmn (fun _ => by
              have := Hrows.out t (by rw [HTs.out]; simp)
              simp only [List.mem_cons, List.not_mem_nil, or_false]; rintro t' (rfl | rfl)
              · simp
              · exact this)
            rw [HSt.out] at hc
            refine hc.mono fun e w' ⟨u', m', B2', vsB, he, hd⟩ => ?_
            obtain ⟨b1, b2, rfl⟩ := hd.told.shape
            have h1 := hd.eq
            have h2 := hd.op
            rw [HSt.out] at h1 h2
            have h3 : vsA.map Vd.tt = vsB.map Vd.tt := HEq.out.trans h1.symm
            have hl : vsB.length = LA := by have := congrArg List.length h3; simp only [List.length_map] at this; rw [← this]; exact HLA.out
            have hb : VdAt anyB w' (.slice b1 LA b2) vsB := by rw [← hl]; exact ⟨hd.told.sl, fun k hk => (hd.told.tab k hk).imp (fun _ _ _ => trivial)⟩
            rw [hl] at he
            exact ⟨b1, b2, B2', he, Lib.hid ⟨hlv9.stepS (h2.imp (fun _ _ h => h.1)) (fun k hk => (hd.blk k hk).2) hd.fr, hva9.off hlv9.s hd.fr, vsB, hb, h3⟩⟩
          have Hstep := Lib.hid hstep
          have HS1 : FV w (w6.alloc (.cells #[.slice none 0 0, .slice none 0 0, .slice x1 t.vars.length x2, .slice x3 t.rows.length x4] 34)).drew p1 X' B1' p2 (twoF X) B2 := HLV.out.still (((World.Fr.refl w6 []).alloc _).drew)
          have HV1 : VdAt anyB (w6.alloc (.cells #[.slice none 0 0, .slice none 0 0, .slice x1 t.vars.length x2, .slice x3 t.rows.length x4] 34)).drew (.slice a1 LA a2) vsA := HVA.out.still (((World.Fr.refl w6 []).alloc _).drew)
          have G1 : (w6.alloc (.cells #[.slice none 0 0, .slice none 0 0, .slice x1 t.vars.length x2, .slice x3 t.rows.length x4] 34)).drew.heap[w6.heap.size]? = some (.cells #[.slice none 0 0, .slice none 0 0, .slice x1 t.vars.length x2, .slice x3 t.rows.length x4] 34 (0, 0)) := heap_alloc_at w6 _ _ rfl
          have G1 := Lib.hid G1; have HS1 := Lib.hid HS1; have HV1 := Lib.hid HV1
          clear hstep hfr7
          go_cut [16, 17] (fun s16 s17 wx => s17 = .int .i64 E ∧ ∃ (b1 : Option Addr) (b2 : Nat) (B2' : List Nat), s16 = .slice b1 LA b2 ∧ Hid (FV w wx p1 X' B1' p2 (twoF X') B2' ∧ VdAt anyB wx (.slice a1 LA a2) vsA ∧ ∃ vsB, VdAt anyB wx (.slice b1 LA b2) vsB ∧ vsA.map Vd.tt = vsB.map Vd.tt))
          case first =>
            go_region_with (first | (go_at_call 33; (with_reducible refine (Hstep.out _ _ HS1.out HV1.out G1.out).mono ?_); rintro e w10 ⟨b1, b2, B2', rfl, hd⟩))
            all_goals
              go_wp2_with fail
              go_meet
              case rel => exact ⟨rfl, b1, b2, B2', rfl, hd⟩
          case rest =>
          obtain ⟨rfl, b1, b2, B2', rfl, HLV⟩ := hcut
          clear Hstep HS1 HV1 G1 m0 m1 m2 mf hz15 l1 l2 hg2 Q15 HVA
          have hEE : (E != E) = false := by simp
          obtain ⟨hlv, hva, vsB, hvb, hab⟩ := HLV.out
          have Hs := Lib.hid (same34 hva hvb hab (fun k hk => HSm.out k.tt (by rw [← HEq.out]; exact List.mem_map_of_mem hk)) (by have := HL1.out; rw [← HEq.out] at this; simpa using this))
          have hw1p : ∀ W, wc.Fr W [] → Calls Tryz.prog 35 #[.pointer (some ⟨p1, 0, none⟩)] W fun e w' => e = .returned (.int .i64 X'.pts.length) ∧ W = w' := fun W hf => fwaits35 (hlv.p.still hf)
          have hw2p : ∀ W, wc.Fr W [] → Calls Tryz.prog 35 #[.pointer (some ⟨p2, 0, none⟩)] W fun e w' => e = .returned (.int .i64 X'.pts.length) ∧ W = w' := fun W hf => by have h := fwaits35 (hlv.s.still hf); exact h
          have HLV := Lib.hid hlv
          obtain ⟨PN, hPN⟩ : ∃ n, X'.pts.length = n := ⟨_, rfl⟩
          rw [hPN] at hw1p hw2p
          have HW1 := Lib.hid hw1p; have HW2 := Lib.hid hw2p
          clear hlv hva hvb hab hw1p hw2p hPN
          go_wp2_with fail
          (with_reducible refine Hs.out.mono ?_)
          rintro e w12 ⟨rfl, fx⟩
          have k1 := Lib.hid (HW1.out _ fx)
          have k2 := Lib.hid (HW2.out _ fx)
          go_wp2_with fail
          (with_reducible refine k1.out.mono ?_)
          rintro e w13 ⟨rfl, rfl⟩
          go_wp2_with fail
          (with_reducible refine k2.out.mono ?_)
          rintro e w14 ⟨rfl, rfl⟩
          have hPP : ((PN : Int) != (PN : Int)) = false := by simp
          have HIn : Hid (SnI cf w w12 p1 X' B1' p2 B2' (j + 1)) := Lib.hid ⟨HLV.out.still fx, HokX.out, HHalf.out, HFew.out⟩
          clear fx Hs HLV HI k1 k2 HW1 HW2
          go_wp2
          go_roundw
          case rel => exact ⟨j + 1, X', B1', B2', by go_num, by omega, HIn⟩
          case measure => simp [intOf]; omega
        · have hb : ((NT : Int) != 1) = true := by simp; omega
          have HIm := Lib.hid HI.out.more
          clear h1
          go_wp2
          go_roundw
          case rel => exact ⟨j + 1, X, B1, B2, by go_num, by omega, HIm⟩
          case measure => simp [intOf]; omega
      · have hd : decide ((j : Int) < (N : Int)) = false := decide_eq_false (by omega)
        have hd2 : decide (j < N) = false := decide_eq_false hlt
        have HF := Lib.hid HI.out.lv.fr
        clear HI hlt hj
        go_wp2
        go_ret
        exact ⟨rfl, HF.out⟩
  · have hb : (R == 0) = false := by simpa using hR0
    have hb2 : (R != 0) = true := by simpa using hR0
    obtain rfl : pv = .pointer none := (HP.out.elim (fun h => h.2) (fun h => absurd h.1 hR0))
    obtain rfl : pw = .pointer none := (HP2.out.elim (fun h => h.2) (fun h => absurd h.1 hR0))
    have hRR : (R != R) = false := by simp
    clear HP HP2 hR0 HR
    go_wp2
    go_ret
    exact ⟨rfl, F.out⟩
end Go.Proofs.YtbejmdlncnkaaaaGreat
