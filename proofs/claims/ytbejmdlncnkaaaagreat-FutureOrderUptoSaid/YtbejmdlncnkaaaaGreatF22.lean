/-
  The walk of the statement FutureOrder.
-/
import Derived.Test.YtbejmdlncnkaaaaGreatFuB
import Derived.Test.YtbejmdlncnkaaaaGreatF19
import Derived.Test.YtbejmdlncnkaaaaGreatFuD
import Derived.Test.YtbejmdlncnkaaaaGreatPaF
namespace Go.Proofs.YtbejmdlncnkaaaaGreat
open Go.RowKit

theorem info2 : (Tryz.prog.info? 2).map (fun i => (i.zero, i.size, i.bytes)) = some (some (.int .i64 0), 1, 8) := by kernel_rfl
/-- between the points -/
structure OrR (cf : V → V → Int) (w wr : World) (p b2 : Nat) (m : MkD) (v1 v2 vt : Value) (X : FS) (B : List Nat) (TS : List Int) (o j : Nat) : Prop where
  op : FutOp anyB wr p X B
  ok : FOk cf X
  ord : OrdI X TS o
  ts : wr.Sl 2 1 vt TS.length (tms TS)
  rng : ∀ t, t ∈ TS → 0 ≤ t ∧ t ≤ 1099511627776
  few : TS.length ≤ j
  newB : ∀ k, k ∈ B → w.heap.size ≤ k
  newT : ∀ k, k ∈ vt.blk → w.heap.size ≤ k
  fr : w.Fr wr []
  fix : X.i = m.i ∧ X.nx = m.x
  box : wr.heap[b2]? = some (.cells #[.int .i64 m.kind, .int .i64 m.i.lo, .int .i64 m.i.hi, .bool m.i.op, .bool m.nt, v1, v2] 68 (0, 0))
theorem OrR.still {cf : V → V → Int} {w wr w' : World} {p b2 : Nat} {m : MkD} {v1 v2 vt : Value} {X : FS} {B : List Nat} {TS : List Int} {o j : Nat} (h : OrR cf w wr p b2 m v1 v2 vt X B TS o j) (hf : wr.Fr w' []) : OrR cf w w' p b2 m v1 v2 vt X B TS o j :=
  ⟨h.op.still hf, h.ok, h.ord, h.ts.fr hf (by simp), h.rng, h.few, h.newB, h.newT, h.fr.trans hf (by simp), h.fix, hf.heap h.box (by simp)⟩
theorem OrR.more {cf : V → V → Int} {w wr : World} {p b2 : Nat} {m : MkD} {v1 v2 vt : Value} {X : FS} {B : List Nat} {TS : List Int} {o j : Nat} (h : OrR cf w wr p b2 m v1 v2 vt X B TS o j) : OrR cf w wr p b2 m v1 v2 vt X B TS o (j + 1) :=
  ⟨h.op, h.ok, h.ord, h.ts, h.rng, Nat.le_succ_of_le h.few, h.newB, h.newT, h.fr, h.fix, h.box⟩
theorem OrR.push {cf : V → V → Int} {w wr w' : World} {p b2 : Nat} {m : MkD} {v1 v2 vt vt' : Value} {X X' : FS} {B B' : List Nat} {TS : List Int} {o o' j : Nat} {n : Int} (h : OrR cf w wr p b2 m v1 v2 vt X B TS o j) (hop : FutOp anyB w' p X' B') (hok : FOk cf X') (hord : OrdI X' (TS ++ [n]) o') (hts : w'.Sl 2 1 vt' (TS.length + 1) (tms TS ++ [.int .i64 n])) (hn : 0 ≤ n ∧ n ≤ 1099511627776) (hB : ∀ k, k ∈ B' → w.heap.size ≤ k) (hT : ∀ k, k ∈ vt'.blk → w.heap.size ≤ k) (hf : w.Fr w' []) (hfix : X'.i = X.i ∧ X'.nx = X.nx) (hbox : w'.heap[b2]? = wr.heap[b2]?) : OrR cf w w' p b2 m v1 v2 vt' X' B' (TS ++ [n]) o' (j + 1) :=
  ⟨hop, hok, hord, by simpa [tms] using hts, fun t ht => by
    rcases List.mem_append.1 ht with ht | ht
    · exact h.rng t ht
    · simp at ht; subst ht; exact hn, by have := h.few; simp; omega, hB, hT, hf, ⟨hfix.1.trans h.fix.1, hfix.2.trans h.fix.2⟩, hbox.trans h.box⟩
theorem MkD.nx_eq (m : MkD) : m.x = ((m.kind != 14) && (m.kind != 16)) := by
  unfold MkD.x
  by_cases h16 : m.kind = 16
  · simp [h16]
  · by_cases h14 : m.kind = 14
    · simp [h14]
    · simp [h16, h14]
theorem MkD.p_eq (m : MkD) : m.p = 1 ∨ m.p = 2 := by unfold MkD.p; split <;> simp
set_option maxRecDepth 100000 in
set_option maxHeartbeats 16000000 in
theorem order8 {cf : V → V → Int} (hK : Ctx V.wf cf) (hRC : RCtx cf) (h12 : cf (vI 1) (vI 2) < 0) {w : World} {m : MkD} {v1 v2 v3 : Value} {ss : List SD} (h1 : RdStr w v1 m.left) (h2 : RdStr w v2 m.right) (hv1 : m.left.length ≤ 1048576) (hv2 : m.right.length ≤ 1048576) (h3 : RdSteps w v3 ss) (hl : ss.length ≤ 1048576) (hu : ∀ s, s ∈ ss → SDU s) :
    Calls Tryz.prog 8 #[m.v v1 v2, v3] w fun e w' => e = .returned (.bool true) ∧ w.Fr w' [] := by
  obtain ⟨kind, ⟨lo, hi, op⟩, nt, l, r⟩ := m
  simp only at h1 h2 hv1 hv2
  obtain ⟨a1, a2, rfl, _, _⟩ := h1.rd.shape
  obtain ⟨b1, b2, rfl, _, _⟩ := h2.rd.shape
  obtain ⟨d1, d2, rfl⟩ := h3.shape
  obtain ⟨NL, hNL⟩ : ∃ N, l.length = N := ⟨_, rfl⟩
  obtain ⟨NR, hNR⟩ : ∃ N, r.length = N := ⟨_, rfl⟩
  obtain ⟨N, hN⟩ : ∃ N, ss.length = N := ⟨_, rfl⟩
  rw [hNL] at h1
  rw [hNR] at h2
  rw [hN] at h3 ⊢
  have hbeg := fun (W : World) (hW : w.Fr W []) => begun36 hK hRC (w := W) (m := ⟨kind, ⟨lo, hi, op⟩, nt, l, r⟩) (v1 := .slice a1 NL a2) (v2 := .slice b1 NR b2) (h1.fr hW (by simp)) (h2.fr hW (by simp)) hv1 hv2
  rw [hNL, hNR]
  have q1 := heap_alloc_at w (.cells #[.int .i64 kind, .int .i64 lo, .int .i64 hi, .bool op, .bool nt, .slice a1 NL a2, .slice b1 NR b2] 68) _ rfl
  have f1 := (World.Fr.refl w []).alloc (.cells #[.int .i64 kind, .int .i64 lo, .int .i64 hi, .bool op, .bool nt, .slice a1 NL a2, .slice b1 NR b2] 68)
  have hp1 := MkD.p_eq ⟨kind, ⟨lo, hi, op⟩, nt, l, r⟩
  have hx1 := MkD.nx_eq ⟨kind, ⟨lo, hi, op⟩, nt, l, r⟩
  have HK := Lib.hid hK; have H12 := Lib.hid h12; have H3 := Lib.hid h3; have HL := Lib.hid hl; have HU := Lib.hid hu; have HN := Lib.hid hN; have HBeg := Lib.hid hbeg; have HP1 := Lib.hid hp1; have HX1 := Lib.hid hx1
  have Q1 := Lib.hid q1; have F := Lib.hid f1
  clear hK hRC h12 h1 h2 h3 hv1 hv2 hl hu hN hNL hNR q1 f1 hbeg hp1 hx1
  simp only [MkD.v]
  go_enter Tryz.func8, Tryz.ntmps8
  go_upto_region 1 with (fail)
  generalize hW : World.alloc w _ = W at *
  clear hW
  generalize hb3 : w.heap.size = b3 at *
  have Hb3 := Lib.hid hb3
  clear hb3
  have k := Lib.hid (live29 HK.out H12.out W)
  go_wp2_with fail
  (with_reducible refine k.out.mono ?_)
  rintro e w1 ⟨rfl, fx⟩
  have Q1 := Lib.hid (fx.heap Q1.out (by simp)); have F := Lib.hid (F.out.trans fx (by simp))
  clear k fx
  have k := many30 (H3.out.still F.out) HL.out HU.out
  obtain ⟨RA, hRA⟩ : ∃ n, rowsAll ss = n := ⟨_, rfl⟩
  rw [hRA] at k
  have k := Lib.hid k
  have HRA := Lib.hid hRA
  clear hRA
  go_wp2_with fail
  (with_reducible refine k.out.mono ?_)
  rintro e w2 ⟨rfl, fx⟩
  have Q1 := Lib.hid (fx.heap Q1.out (by simp)); have F := Lib.hid (F.out.trans fx (by simp))
  clear k fx
  by_cases hmany : 600 < RA
  · have hd : decide ((600 : Int) < (RA : Int)) = true := decide_eq_true (by omega)
    have hd2 : decide (600 < RA) = true := decide_eq_true hmany
    clear hmany
    go_wp2
    go_ret
    exact ⟨rfl, F.out⟩
  have hd : decide ((600 : Int) < (RA : Int)) = false := decide_eq_false (by omega)
  have hd2 : decide (600 < RA) = false := decide_eq_false hmany
  have HRA : Hid (rowsAll ss ≤ 600) := Lib.hid (by have := HRA.out; omega)
  clear hmany
  obtain ⟨t0, t1, t2, t3, t4, t5, t6, tf⟩ := sev Q1.out
  have hz3 := lt_of_heap Q1.out
  have HSz := Lib.hid F.out.size
  have k := Lib.hid (HBeg.out w2 F.out)
  simp only [MkD.v] at k
  go_wp2_with fail
  (with_reducible refine k.out.mono ?_)
  rintro e w3 ⟨pv, xv, rfl, hp, fx⟩
  have Q1 := Lib.hid (fx.heap Q1.out (by simp)); have F := Lib.hid (F.out.trans fx (by simp))
  have HP := Lib.hid hp
  clear k fx hp t0 t1 t2 t3 t4 t5 t6 tf hz3 hd hd2 HBeg
  rcases HP.out with ⟨_, rfl, rfl⟩ | ⟨h0, p, kx, xl, xr, rfl, rfl, hk1, _, hop, _, _, _⟩
  · clear HP
    go_wp2
    go_ret
    exact ⟨rfl, F.out⟩
  have HI0 : Hid (OrR cf w w3 p b3 ⟨kind, ⟨lo, hi, op⟩, nt, l, r⟩ (.slice a1 NL a2) (.slice b1 NR b2) (.slice none 0 0) (MkD.X ⟨kind, ⟨lo, hi, op⟩, nt, l, r⟩) [p] [] 0 0) := Lib.hid ⟨hop, beginF_ok h0 HP1.out, ordI_begun _ _ _ _ _ _, World.Sl.nil _ _ _, by simp, by simp, fun k hk => by simp at hk; subst hk; have := HSz.out; omega, by simp [Value.blk], F.out, ⟨rfl, rfl⟩, Q1.out⟩
  have HIV : Hid (fivB ⟨lo, hi, op⟩ = true) := Lib.hid (by
    unfold beginF at h0
    split at h0
    · assumption
    · cases h0)
  clear HP hop h0 hk1
  by_cases hlong : 50 < N
  · have hd : decide ((50 : Int) < (N : Int)) = true := decide_eq_true (by omega)
    have hd2 : decide (50 < N) = true := decide_eq_true hlong
    clear hlong
    go_wp2
    go_ret
    exact ⟨rfl, F.out⟩
  have hd : decide ((50 : Int) < (N : Int)) = false := decide_eq_false (by omega)
  have hd2 : decide (50 < N) = false := decide_eq_false hlong
  have HN60 : Hid (N ≤ 50) := Lib.hid (by omega)
  clear hlong Q1
  obtain ⟨i2, hi2, hv0, hv1, hv2⟩ := info_parts info2
  go_wp2
  go_loopw [47, 9, 10] (fun i vx tv wr => ∃ (j o : Nat) (X : FS) (B : List Nat) (TS : List Int) (vt : Value), i = .int .i64 j ∧ vt = vx ∧ tv = .int .i64 o ∧ j ≤ N ∧ Hid (OrR cf w wr p b3 ⟨kind, ⟨lo, hi, op⟩, nt, l, r⟩ (.slice a1 NL a2) (.slice b1 NR b2) vt X B TS o j)) (fun i _ _ _ => (N - intOf i).toNat)
  case atStart => exact ⟨0, 0, _, _, _, _, rfl, rfl, rfl, Nat.zero_le _, HI0⟩
  case round =>
    obtain ⟨j, o, X, B, TS, vt, rfl, hvt, rfl, hj, HI⟩ := hrel
    subst hvt
    clear HI0 hd hd2 F
    by_cases hlt : j < N
    · obtain ⟨s, hs⟩ : ∃ s, ss[j]? = some s := ⟨ss[j]'(by have := HN.out; omega), List.getElem?_eq_getElem _⟩
      obtain ⟨g, off, c, a, mm, hv, hg, k0, k1, k2, hrd⟩ := H3.out.at hs
      rw [HN.out] at hv
      cases hv
      have hfr := HI.out.fr
      have k0 := cellFr hfr k0 (by simp)
      have k1 := cellFr hfr k1 (by simp)
      have k2 := cellFr hfr k2 (by simp)
      have hg := Nat.lt_of_lt_of_le hg hfr.size
      have hjI : (j : Int) < (N : Int) := by omega
      have hw1 : IntKind.i64.wrap ((j : Int) + 1) = (j : Int) + 1 := IntWalk.i64_in _ (by have := HN60.out; omega)
      have hnn : (0 : Int) ≤ (j : Int) := by omega
      have hus := HU.out s (List.mem_of_getElem? hs)
      have hrows : ∀ t, t ∈ s.tabs → t.rows.length ≤ 600 := fun t ht => Nat.le_trans (rowsOf_mem ht) (Nat.le_trans (rowsAll_mem (List.mem_of_getElem? hs)) HRA.out)
      have hf15 := (World.Fr.refl wr []).alloc (.cells #[.int .i64 s.time, .slice a s.tabs.length mm, .bool s.clone] 61)
      have q15 := heap_alloc_at wr (.cells #[.int .i64 s.time, .slice a s.tabs.length mm, .bool s.clone] 61) _ rfl
      have hi15 := HI.out.still hf15
      obtain ⟨NT, hNT⟩ : ∃ n, s.tabs.length = n := ⟨_, rfl⟩
      rw [hNT] at q15 k1 hi15
      have hgd : wrongE cf X.ps s.time s.tabs = 0 → ∀ t, t ∈ s.tabs → Good cf t ∧ t.rows.length ≤ 600 := fun h0 t' ht' => by
        obtain ⟨_, _, _, _, h5, _, _⟩ := wrongE_zero (S := X.ps) HI.out.ok.parts h0
        exact ⟨good_of HK.out.ord (h5 t' ht') (tabU_fits hrd hus.tab t' ht').ok, hrows t' ht'⟩
      have hmn : X.told + X.pts.length + 1 ≤ 1000 := by have h1 := HI.out.ord.len; have h2 := HI.out.ord.told; have h3 := HI.out.few; have h4 := HI.out.ord.le; have := HN60.out; omega
      have hgood := stepX_good HK.out.ord (n := s.time) HI.out.ok hgd hmn
      have hfix := stepX_fix (cf := cf) (X := X) (n := s.time) (ts := s.tabs)
      have hord := stepX_ord (cf := cf) (n := s.time) (ts := s.tabs) HI.out.ord HI.out.ok.parts
      have hbad : wrongE cf X.ps s.time s.tabs ≠ 0 → stepX cf X s.time s.tabs = (wrongE cf X.ps s.time s.tabs, [], X) := fun h => by unfold stepX stepF; rw [if_neg h]
      have hE0 : (stepX cf X s.time s.tabs).1 = wrongE cf X.ps s.time s.tabs := rfl
      have hrng : wrongE cf X.ps s.time s.tabs = 0 → 0 ≤ s.time ∧ s.time ≤ 1099511627776 := fun h0 => by
        obtain ⟨h1, h2, _⟩ := wrongE_zero (S := X.ps) HI.out.ok.parts h0
        exact ⟨h1, h2⟩
      generalize hWW : World.alloc wr (.cells #[.int .i64 s.time, .slice a NT mm, .bool s.clone] 61) = w5 at hi15 q15
      have hc := fstep33 HK.out (Q := anyB) (fun _ _ => trivial) (n := s.time) (ts := s.tabs) hi15.op (hrd.still hi15.fr) hi15.ok (by have := hus.len; omega) (tabU_fits hrd hus.tab) hmn (fun _ => hrows)
      rw [hNT] at hc
      rw [← hWW] at hc q15 hi15
      clear hWW
      obtain ⟨L, hL⟩ : ∃ T, (stepX cf X s.time s.tabs).2.1 = T := ⟨_, rfl⟩
      obtain ⟨X', hX'⟩ : ∃ T, (stepX cf X s.time s.tabs).2.2 = T := ⟨_, rfl⟩
      obtain ⟨E, hE⟩ : ∃ T, wrongE cf X.ps s.time s.tabs = T := ⟨_, rfl⟩
      rw [hE0, hE] at hc
      rw [hE] at hord hbad hrng
      rw [hX'] at hord hgood hfix
      rw [hL] at hord hgood
      have Hc := Lib.hid hc; have HI := Lib.hid hi15; have HNT := Lib.hid hNT; have Hrd := Lib.hid hrd; have HGood := Lib.hid hgood; have HFix := Lib.hid hfix; have HOrd := Lib.hid hord; have HBad := Lib.hid hbad; have HRng := Lib.hid hrng; have HLL := Lib.hid hL; have HX' := Lib.hid hX'; have Hk12 := Lib.hid (show w.heap.size ≤ wr.heap.size from hfr.size)
      clear hi15 hf15 hus hs hfr hrows hNT hrd hgd hmn hgood hfix hord hbad hE0 hrng hc hL hX' hE
      go_upto_region 12 with (fail)
      generalize hWW : World.alloc wr _ = w5 at *
      clear hWW
      generalize wr.heap.size = b13 at *
      obtain ⟨m0, m1, m2, mf⟩ := tri q15
      have hz15 := lt_of_heap q15
      have Q15 := Lib.hid q15
      clear q15 k0 k1 k2 hg
      go_wp2_with fail
      (with_reducible refine Hc.out.mono ?_)
      rintro e w6 ⟨u, mq, B', vs, rfl, hd⟩
      obtain ⟨u1, u2, rfl⟩ := hd.told.shape
      have heq := hd.eq
      have hop := hd.op
      rw [HLL.out] at heq
      rw [HX'.out] at hop
      have hop := hop.imp (R := anyB) (fun _ _ _ => trivial)
      have hva : VdAt anyB w6 (.slice u1 vs.length u2) vs := ⟨hd.told.sl, fun k hk => (hd.told.tab k hk).imp (fun _ _ _ => trivial)⟩
      have hfr6 := HI.out.fr.trans hd.fr (fun k hk => .inr (HI.out.newB k hk))
      have hB' : ∀ k, k ∈ B' → w.heap.size ≤ k := fun k hk => (hd.blk k hk).2.elim (HI.out.newB k) (fun h => Nat.le_trans HI.out.fr.size h)
      have hbox6 := HI.out.op.keep hd.fr HI.out.box (by decide) (by decide)
      have Q15 := Lib.hid (HI.out.op.keep hd.fr Q15.out (by decide) (by decide))
      have hts6 := HI.out.ts.fr hd.fr (fun k hk hm => by
        rcases HI.out.ts.2 with ⟨rfl, _⟩ | ⟨g', off', cap', cur', rfl, hg', _⟩
        · simp [Value.blk] at hk
        · simp [Value.blk] at hk
          subst hk
          exact HI.out.op.ne hg' (by decide) (by decide) hm)
      have hsame : X' = X → OrR cf w w6 p b3 ⟨kind, ⟨lo, hi, op⟩, nt, l, r⟩ (.slice a1 NL a2) (.slice b1 NR b2) vt X B' TS o j := fun h => ⟨h ▸ hop, HI.out.ok, HI.out.ord, hts6, HI.out.rng, HI.out.few, hB', HI.out.newT, hfr6, HI.out.fix, hbox6⟩
      have HSame := Lib.hid hsame; have Heq := Lib.hid heq; have Hop := Lib.hid hop; have HVA := Lib.hid hva; have Hfr6 := Lib.hid hfr6; have HB' := Lib.hid hB'; have HBox6 := Lib.hid hbox6; have HTS6 := Lib.hid hts6
      obtain ⟨LV, hLV⟩ : ∃ n, vs.length = n := ⟨_, rfl⟩
      rw [hLV] at HVA ⊢
      have HLV := Lib.hid hLV
      clear hsame heq hop hva hfr6 hB' hbox6 hts6 hd Hc m0 m1 m2 mf hz15 hLV
      obtain ⟨m0, m1, m2, mf⟩ := tri Q15.out
      have hz15 := lt_of_heap Q15.out
      by_cases hE0 : E ≠ 0
      · have hb : (E != 0) = true := by simpa using hE0
        have hbad := HBad.out hE0
        have h1 : L = [] := by rw [← HLL.out, hbad]
        have h2 : X' = X := by rw [← HX'.out, hbad]
        have h3 : LV = 0 := by rw [← HLV.out]; have := congrArg List.length Heq.out; rw [h1] at this; simpa using this
        subst h3
        have HIm := Lib.hid (HSame.out h2).more
        clear hE0 hbad h1 h2
        go_wp2
        go_roundw
        case rel => exact ⟨j + 1, o, X, B', TS, vt, by go_num, rfl, rfl, by omega, HIm⟩
        case measure => simp [intOf]; omega
      have hE0 : E = 0 := Classical.not_not.1 hE0
      subst hE0
      obtain ⟨o', hord', ho', htime', hent⟩ := HOrd.out rfl
      have HOrd' := Lib.hid hord'; have Ho' := Lib.hid ho'; have HTime' := Lib.hid htime'; have HEnt := Lib.hid hent
      clear hord' ho' htime' hent HOrd HBad HSame
      have hvtl : ∃ va vc, vt = .slice va TS.length vc := by obtain ⟨va, vc, e, _⟩ := HTS6.out.shape; exact ⟨va, vc, e⟩
      obtain ⟨va, vc, rfl⟩ := hvtl
      have HNTS : Hid (TS.length ≤ 50 ∧ TS.length ≤ j ∧ o ≤ TS.length) := Lib.hid ⟨by have := HI.out.few; have := HN60.out; omega, HI.out.few, HI.out.ord.le⟩
      obtain ⟨NS, hNS⟩ : ∃ n, TS.length = n := ⟨_, rfl⟩
      have HNS := Lib.hid hNS
      rw [hNS] at HTS6 ⊢
      have HNTS' : Hid (NS ≤ 50 ∧ NS ≤ j ∧ o ≤ NS) := Lib.hid (by rw [← hNS]; exact HNTS.out)
      clear hNS HNTS
      go_upto_region 16 with (fail)
      go_wp2_with (at_builtin; refine wpList_append_one _ rfl (.tmp 65) (.tmp 68) 72 rfl 2 i2 (.int .i64 0) 1 8 Tryz.underlying72 hi2 hv0 hv1 hv2 rfl (.slice va NS vc) NS (tms TS) rfl (World.Sl.alloc HTS6.out _) w6.heap.size 1 [.int .i64 s.time] 2 rfl (heap_alloc_at _ _ _ rfl) rfl rfl ⟨by have := HNTS'.out; omega, by have := HNTS'.out; omega⟩ ?_)
      intro g3 off3 c3 w7 hsl7 hfr7 hat hlt7
      have hal := (World.Fr.refl w6 []).alloc (.cells #[.int .i64 s.time] 2)
      have hnt7 : ∀ k, k ∈ (Value.slice va NS vc).blk → w.heap.size ≤ k := fun k hk => HI.out.newT k (by rcases va with _ | ad; exact absurd hk (by simp [Value.blk]); simpa [Value.blk] using hk)
      have hodd7 : Odd (w6.alloc (.cells #[.int .i64 s.time] 2)) (Value.slice va NS vc).blk := fun k hk => by
        rcases HTS6.out.2 with ⟨he, _⟩ | ⟨g', off', cap', cur', he, hg', _⟩
        · cases he; simp [Value.blk] at hk
        · cases he
          simp [Value.blk] at hk
          subst hk
          exact ⟨_, _, heap_alloc_some hg' _, by decide, by decide, by decide⟩
      have hty7 : ∀ k, k ∈ (Value.slice va NS vc).blk → ∃ cs, (w6.alloc (.cells #[.int .i64 s.time] 2)).heap[k]? = some (.cells cs 2 (0, 0)) := fun k hk => by
        rcases HTS6.out.2 with ⟨he, _⟩ | ⟨g', off', cap', cur', he, hg', _⟩
        · cases he; simp [Value.blk] at hk
        · cases he
          simp [Value.blk] at hk
          subst hk
          exact ⟨_, heap_alloc_some hg' _⟩
      have hop7 := (Hop.out.still hal).fr hfr7 hodd7 (fun k hk hm => by obtain ⟨cs, hcs⟩ := hty7 k hm; exact (Hop.out.still hal).ne hcs (by decide) (by decide) hk)
      have hva7 := (HVA.out.still hal).fr hfr7 hodd7 (fun k hk hm => by
        obtain ⟨cs, hcs⟩ := hty7 k hm
        rcases (HVA.out.still hal).sl.2 with ⟨he, _⟩ | ⟨g', off', cap', cur', he, hg', _⟩
        · cases he; simp [Value.blk] at hk
        · cases he
          simp [Value.blk] at hk
          subst hk
          rw [hg'] at hcs
          cases hcs)
      have hkeep7 : ∀ (b : Nat) (cs : Array Value) (T : TypeId), w6.heap[b]? = some (.cells cs T (0, 0)) → T ≠ 2 → w7.heap[b]? = some (.cells cs T (0, 0)) := fun b cs T hb hT => hfr7.heap (heap_alloc_some hb _) (fun hm => by obtain ⟨cs', hcs⟩ := hty7 b hm; rw [heap_alloc_some hb _] at hcs; cases hcs; exact hT rfl)
      have hfrw7 := (Hfr6.out.trans hal (by simp)).trans hfr7 (fun k hk => .inr (hnt7 k hk))
      have hnt8 : ∀ k, k ∈ (Value.slice (some ⟨g3, off3, none⟩) (NS + 1) c3).blk → w.heap.size ≤ k := fun k hk => by
        simp [Value.blk] at hk
        subst hk
        rcases hat with h | h
        · exact hnt7 _ h
        · have h1 := Hfr6.out.size; omega
      have hn7 : OrR cf w w7 p b3 ⟨kind, ⟨lo, hi, op⟩, nt, l, r⟩ (.slice a1 NL a2) (.slice b1 NR b2) (.slice (some ⟨g3, off3, none⟩) (NS + 1) c3) X' B' (TS ++ [s.time]) o' (j + 1) :=
        HI.out.push hop7 HGood.out.1 HOrd'.out (by rw [HNS.out]; exact hsl7) (HRng.out (by trivial)) HB'.out hnt8 hfrw7 ⟨HFix.out.1, HFix.out.2.2.2.2.2⟩ (by rw [hkeep7 _ _ _ HBox6.out (by decide), HI.out.box])
      have Q15 := Lib.hid (hkeep7 _ _ _ Q15.out (by decide))
      have HI7 := Lib.hid hn7; have HVA := Lib.hid hva7; have HTE := Lib.hid (And.intro (show (TS ++ [s.time]).length = NS + 1 by simp [HNS.out]) (show (TS ++ [s.time])[NS]? = some s.time by rw [List.getElem?_append_right (by rw [HNS.out]; exact Nat.le_refl _)]; simp [HNS.out]))
      generalize hTS' : TS ++ [s.time] = TS' at *
      clear hTS' hop7 hva7 hkeep7 hfrw7 hnt8 hnt7 hodd7 hty7 hn7 hal hsl7 hfr7 hat HTS6 HBox6 Hfr6 HB' Hop HI m0 m1 m2 mf hz15 HOrd' hlt7
      obtain ⟨m0, m1, m2, mf⟩ := tri Q15.out
      have hz15 := lt_of_heap Q15.out
      have Q15b := Q15
      clear Q15
      generalize hNP : NS + 1 = NP at *
      have HNP := Lib.hid hNP
      clear hNP
      have HF0 := Lib.hid (World.Fr.refl w7 [])
      have Hoo : Hid (o' = o + LV) := Lib.hid (by rw [Ho'.out, ← HLV.out]; have := congrArg List.length Heq.out; simp at this; omega)
      go_wp2
      go_loopw [72, 10] (fun i tv wr => ∃ (q : Nat), i = .int .i64 q ∧ tv = .int .i64 ((o + q : Nat) : Int) ∧ q ≤ LV ∧ Hid (w7.Fr wr [])) (fun i _ _ => (LV - intOf i).toNat)
      case atStart => exact ⟨0, rfl, rfl, Nat.zero_le _, HF0⟩
      case round =>
        obtain ⟨q, rfl, rfl, hq, HF⟩ := hrel
        clear HF0
        by_cases hqn : q < LV
        · obtain ⟨k, hk⟩ : ∃ k, vs[q]? = some k := ⟨vs[q]'(by have := HLV.out; omega), List.getElem?_eq_getElem _⟩
          obtain ⟨g1, o1, c1, hv1, hc1, hg1, x0, x1, x2, x3, xf, xt⟩ := (HVA.out.still HF.out).at hk
          rw [HLV.out] at hv1
          cases hv1
          have hent := HEnt.out q k.tt (by rw [← Heq.out, List.getElem?_map, hk]; rfl)
          obtain ⟨kn, kt, ka, kb, ktb⟩ := k
          simp only at x0 x1 x2 x3 xt hent
          obtain ⟨hkn, hkt⟩ := hent
          obtain ⟨T, hT⟩ : ∃ T, o + q = T := ⟨_, rfl⟩
          rw [hT] at hkn hkt
          have hw3 : IntKind.i64.wrap (((o + q : Nat) : Int) + 1) = ((o + (q + 1) : Nat) : Int) := by rw [IntWalk.i64_in _ (by have := HNTS'.out; have := HNP.out; have := Hoo.out; have := HI7.out.ord.le; have := HTE.out.1; omega)]; omega
          rw [hT] at hw3
          have hTn : T < NP := by have := Hoo.out; have := HI7.out.ord.le; have := HTE.out.1; omega
          obtain ⟨g2, off2, c2, hv2, hg2, y0⟩ := tms_at (HI7.out.still HF.out).ts hkt
          rw [HTE.out.1] at hv2
          cases hv2
          obtain ⟨z1, z2, z3, z4, rfl, rfl⟩ := xt.shape
          have hTI : (T : Int) < (NP : Int) := by omega
          have hTd : decide ((NP : Int) ≤ (T : Int)) = false := decide_eq_false (by omega)
          have hTd2 : decide (NP ≤ T) = false := decide_eq_false (by omega)
          have hTn0 : (0 : Int) ≤ (T : Int) := by omega
          have hb1 : ((T : Int) != (T : Int)) = false := by simp
          have hb2 : (kt != kt) = false := by simp
          have hqI : (q : Int) < (LV : Int) := by omega
          have hqn0 : (0 : Int) ≤ (q : Int) := by omega
          have hwq : IntKind.i64.wrap ((q : Int) + 1) = (q : Int) + 1 := IntWalk.i64_in _ (by have := HNTS'.out; have := HNP.out; have := Hoo.out; have := HI7.out.ord.le; have := HTE.out.1; omega)
          subst hkn
          have hal := (World.Fr.refl wr []).alloc (.cells #[.int .i64 (T : Int), .int .i64 kt, .slice z1 ktb.vars.length z2, .slice z3 ktb.rows.length z4] 74)
          have q16 := heap_alloc_at wr (.cells #[.int .i64 (T : Int), .int .i64 kt, .slice z1 ktb.vars.length z2, .slice z3 ktb.rows.length z4] 74) _ rfl
          have y0 := cellFr hal y0 (by simp)
          have hg2 := Nat.lt_of_lt_of_le hg2 hal.size
          have HF2 := Lib.hid (HF.out.trans hal (by simp))
          rw [hT]
          have HTq := Lib.hid hT
          clear hk xt hkt hal hT hTn
          go_upto_region 20 with (fail)
          generalize hWW : World.alloc wr _ = w8 at *
          clear hWW
          generalize wr.heap.size = b16 at *
          obtain ⟨n0, n1, n2, n3, nf⟩ := four' q16
          have hz16 := lt_of_heap q16
          clear q16 x0 x1 x2 x3 xf hg1
          go_quiet (fail)
          go_wp2
          go_roundw
          case rel => exact ⟨q + 1, by go_num, rfl, by omega, Lib.hid (HF2.out.of_drewN _)⟩
          case measure => simp [intOf]; omega
        · have hdq : decide ((q : Int) < (LV : Int)) = false := decide_eq_false (by omega)
          have hdq2 : decide (q < LV) = false := decide_eq_false hqn
          obtain rfl : q = LV := by omega
          rw [show o + q = o' by rw [Hoo.out]]
          have HI8 := Lib.hid (HI7.out.still HF.out)
          have Q15 := Lib.hid (HF.out.heap Q15b.out (by simp))
          clear hqn hq HF HI7 m0 m1 m2 mf hz15 HVA HEnt Heq HLV Hoo Q15b
          obtain ⟨m0, m1, m2, mf⟩ := tri Q15.out
          have hz15 := lt_of_heap Q15.out
          obtain ⟨t0, t1, t2, t3, t4, t5, t6, tf⟩ := sev HI8.out.box
          have hz3 := lt_of_heap HI8.out.box
          simp only at t0 t1 t2 t3 t4 t5 t6
          have hole : o' ≤ NP := by have := HI8.out.ord.le; have := HTE.out.1; omega
          have hNSS := HNTS'.out; have hNPP := HNP.out
          have hw5 : IntKind.i64.wrap ((NP : Int) - (o' : Int)) = ((NP - o' : Nat) : Int) := by rw [IntWalk.i64_in _ (by omega)]; omega
          have hwt : ∀ W, wr.Fr W [] → Calls Tryz.prog 35 #[.pointer (some ⟨p, 0, none⟩)] W fun e w' => e = .returned (.int .i64 ((NP - o' : Nat) : Int)) ∧ w' = W := fun W hW => by
            have := fwaits35 (HI8.out.op.still hW)
            rw [HI8.out.ord.len, HTE.out.1] at this
            exact this.mono fun e w' ⟨h1, h2⟩ => ⟨h1, h2.symm⟩
          obtain ⟨WT, hWT⟩ : ∃ n, NP - o' = n := ⟨_, rfl⟩
          rw [hWT] at hw5 hwt
          have hbw : ((WT : Int) != (WT : Int)) = false := by simp
          have hx := HX1.out
          have Hwt := Lib.hid hwt
          have HWT := Lib.hid hWT
          have Hhole := Lib.hid (And.intro hole (And.intro hNSS hNPP))
          have hpos : ((0 : Int) < (WT : Int)) ∨ ¬ ((0 : Int) < (WT : Int)) := Classical.em _
          have hpos2 : ((0 : Int) < (o' : Int)) ∨ ¬ ((0 : Int) < (o' : Int)) := Classical.em _
          have hivv := fivB_iv HIV.out
          clear hWT hwt hole hNSS hNPP
          cases h14 : (kind != 14) with
          | false =>
            have hx0 : X'.nx = false := by rw [HI8.out.fix.2, hx]; simp [h14]
            have hww := HI8.out.ord.wait hx0
            have hpp := HI8.out.ord.past hx0
            have hri := HI8.out.rng
            have htm := HTime'.out
            have hii := HI8.out.fix.1
            have hst := HRng.out (by trivial)
            simp only at hii
            have Hx := Lib.hid hx0
            clear hx hx0
            rcases hpos with hpos | hpos
            · have hd1 : decide ((0 : Int) < (WT : Int)) = true := decide_eq_true hpos
              have hd1' : decide (0 < WT) = true := decide_eq_true (by omega)
              obtain ⟨t, ht⟩ : ∃ t, TS'[o']? = some t := ⟨TS'[o']'(by have := HWT.out; have := HTE.out.1; omega), List.getElem?_eq_getElem _⟩
              obtain ⟨g2, off2, c2, hv2, hg2, y0⟩ := tms_at HI8.out.ts ht
              rw [HTE.out.1] at hv2
              cases hv2
              have h1 := hww t ht
              have h2 := hri t (List.mem_of_getElem? ht)
              rw [hii, htm] at h1
              simp only at h1
              have hws : IntKind.i64.wrap (s.time - t) = s.time - t := IntWalk.i64_in _ (by omega)
              have hd3 : decide (hi < s.time - t) = false := decide_eq_false h1
              have hio : (o' : Int) < (NP : Int) := by have := HWT.out; omega
              have hin : (0 : Int) ≤ (o' : Int) := by omega
              rcases hpos2 with hpos2 | hpos2
              · have hd2 : decide ((0 : Int) < (o' : Int)) = true := decide_eq_true hpos2
                have hd2' : decide (0 < o') = true := decide_eq_true (by omega)
                obtain ⟨om, hom⟩ : ∃ k, o' - 1 = k := ⟨_, rfl⟩
                obtain ⟨t', ht'⟩ : ∃ t, TS'[om]? = some t := ⟨TS'[om]'(by have := Hhole.out.1; have := HTE.out.1; omega), List.getElem?_eq_getElem _⟩
                obtain ⟨g5, off5, c5, hv5, hg5, y5⟩ := tms_at HI8.out.ts ht'
                rw [HTE.out.1] at hv5
                cases hv5
                have h3 := hpp (by omega) t' (by rw [hom]; exact ht')
                have h4 := hri t' (List.mem_of_getElem? ht')
                rw [hii, htm] at h3
                simp only at h3
                have hws2 : IntKind.i64.wrap (s.time - t') = s.time - t' := IntWalk.i64_in _ (by omega)
                have hwo : IntKind.i64.wrap ((o' : Int) - 1) = (om : Int) := by rw [IntWalk.i64_in _ (by have := Hhole.out; omega)]; omega
                have hio2 : (om : Int) < (NP : Int) := by have := Hhole.out.1; omega
                have hin2 : (0 : Int) ≤ (om : Int) := by omega
                have hd4 : decide (s.time - t' ≤ hi) = false := decide_eq_false (by omega)
                clear ht h1 h2 ht' h3 h4 hom hpos hpos2 hww hpp hri htm hii hst
                go_upto_region 26 with (fail)
                go_quiet (first | (go_at_call 35; exact Calls.quiet_of_same (Hwt.out _ ((World.Fr.refl wr []).of_drewN _))) | (go_at_call 35; exact Calls.quiet_of_same (Hwt.out _ (World.Fr.refl _ _))))
                go_wp2
                go_roundw
                case rel => exact ⟨j + 1, o', X', B', TS', _, by go_num, rfl, rfl, by omega, Lib.hid (HI8.out.still ((World.Fr.refl wr []).of_drewN _))⟩
                case measure => simp [intOf]; omega
              · have hd2 : decide ((0 : Int) < (o' : Int)) = false := decide_eq_false hpos2
                have hd2' : decide (0 < o') = false := decide_eq_false (by omega)
                clear ht h1 h2 hpos hpos2 hww hpp hri htm hii hst
                go_upto_region 26 with (fail)
                go_quiet (first | (go_at_call 35; exact Calls.quiet_of_same (Hwt.out _ ((World.Fr.refl wr []).of_drewN _))) | (go_at_call 35; exact Calls.quiet_of_same (Hwt.out _ (World.Fr.refl _ _))))
                go_wp2
                go_roundw
                case rel => exact ⟨j + 1, o', X', B', TS', _, by go_num, rfl, rfl, by omega, Lib.hid (HI8.out.still ((World.Fr.refl wr []).of_drewN _))⟩
                case measure => simp [intOf]; omega
            · have hd1 : decide ((0 : Int) < (WT : Int)) = false := decide_eq_false hpos
              have hd1' : decide (0 < WT) = false := decide_eq_false (by omega)
              rcases hpos2 with hpos2 | hpos2
              · have hd2 : decide ((0 : Int) < (o' : Int)) = true := decide_eq_true hpos2
                have hd2' : decide (0 < o') = true := decide_eq_true (by omega)
                obtain ⟨om, hom⟩ : ∃ k, o' - 1 = k := ⟨_, rfl⟩
                obtain ⟨t', ht'⟩ : ∃ t, TS'[om]? = some t := ⟨TS'[om]'(by have := Hhole.out.1; have := HTE.out.1; omega), List.getElem?_eq_getElem _⟩
                obtain ⟨g5, off5, c5, hv5, hg5, y5⟩ := tms_at HI8.out.ts ht'
                rw [HTE.out.1] at hv5
                cases hv5
                have h3 := hpp (by omega) t' (by rw [hom]; exact ht')
                have h4 := hri t' (List.mem_of_getElem? ht')
                rw [hii, htm] at h3
                simp only at h3
                have hws2 : IntKind.i64.wrap (s.time - t') = s.time - t' := IntWalk.i64_in _ (by omega)
                have hwo : IntKind.i64.wrap ((o' : Int) - 1) = (om : Int) := by rw [IntWalk.i64_in _ (by have := Hhole.out; omega)]; omega
                have hio2 : (om : Int) < (NP : Int) := by have := Hhole.out.1; omega
                have hin2 : (0 : Int) ≤ (om : Int) := by omega
                have hd4 : decide (s.time - t' ≤ hi) = false := decide_eq_false (by omega)
                clear  ht' h3 h4 hom hpos hpos2 hww hpp hri htm hii hst
                go_upto_region 26 with (fail)
                go_quiet (first | (go_at_call 35; exact Calls.quiet_of_same (Hwt.out _ ((World.Fr.refl wr []).of_drewN _))) | (go_at_call 35; exact Calls.quiet_of_same (Hwt.out _ (World.Fr.refl _ _))))
                go_wp2
                go_roundw
                case rel => exact ⟨j + 1, o', X', B', TS', _, by go_num, rfl, rfl, by omega, Lib.hid (HI8.out.still ((World.Fr.refl wr []).of_drewN _))⟩
                case measure => simp [intOf]; omega
              · exfalso
                have := HWT.out; have := HNP.out; omega
          | true =>
            cases h16 : (kind != 16) with
            | false =>
              have hx0 : X'.nx = false := by rw [HI8.out.fix.2, hx]; simp [h14, h16]
              have hww := HI8.out.ord.wait hx0
              have hpp := HI8.out.ord.past hx0
              have hri := HI8.out.rng
              have htm := HTime'.out
              have hii := HI8.out.fix.1
              have hst := HRng.out (by trivial)
              simp only at hii
              have Hx := Lib.hid hx0
              clear hx hx0
              rcases hpos with hpos | hpos
              · have hd1 : decide ((0 : Int) < (WT : Int)) = true := decide_eq_true hpos
                have hd1' : decide (0 < WT) = true := decide_eq_true (by omega)
                obtain ⟨t, ht⟩ : ∃ t, TS'[o']? = some t := ⟨TS'[o']'(by have := HWT.out; have := HTE.out.1; omega), List.getElem?_eq_getElem _⟩
                obtain ⟨g2, off2, c2, hv2, hg2, y0⟩ := tms_at HI8.out.ts ht
                rw [HTE.out.1] at hv2
                cases hv2
                have h1 := hww t ht
                have h2 := hri t (List.mem_of_getElem? ht)
                rw [hii, htm] at h1
                simp only at h1
                have hws : IntKind.i64.wrap (s.time - t) = s.time - t := IntWalk.i64_in _ (by omega)
                have hd3 : decide (hi < s.time - t) = false := decide_eq_false h1
                have hio : (o' : Int) < (NP : Int) := by have := HWT.out; omega
                have hin : (0 : Int) ≤ (o' : Int) := by omega
                rcases hpos2 with hpos2 | hpos2
                · have hd2 : decide ((0 : Int) < (o' : Int)) = true := decide_eq_true hpos2
                  have hd2' : decide (0 < o') = true := decide_eq_true (by omega)
                  obtain ⟨om, hom⟩ : ∃ k, o' - 1 = k := ⟨_, rfl⟩
                  obtain ⟨t', ht'⟩ : ∃ t, TS'[om]? = some t := ⟨TS'[om]'(by have := Hhole.out.1; have := HTE.out.1; omega), List.getElem?_eq_getElem _⟩
                  obtain ⟨g5, off5, c5, hv5, hg5, y5⟩ := tms_at HI8.out.ts ht'
                  rw [HTE.out.1] at hv5
                  cases hv5
                  have h3 := hpp (by omega) t' (by rw [hom]; exact ht')
                  have h4 := hri t' (List.mem_of_getElem? ht')
                  rw [hii, htm] at h3
                  simp only at h3
                  have hws2 : IntKind.i64.wrap (s.time - t') = s.time - t' := IntWalk.i64_in _ (by omega)
                  have hwo : IntKind.i64.wrap ((o' : Int) - 1) = (om : Int) := by rw [IntWalk.i64_in _ (by have := Hhole.out; omega)]; omega
                  have hio2 : (om : Int) < (NP : Int) := by have := Hhole.out.1; omega
                  have hin2 : (0 : Int) ≤ (om : Int) := by omega
                  have hd4 : decide (s.time - t' ≤ hi) = false := decide_eq_false (by omega)
                  clear ht h1 h2 ht' h3 h4 hom hpos hpos2 hww hpp hri htm hii hst
                  go_upto_region 26 with (fail)
                  go_quiet (first | (go_at_call 35; exact Calls.quiet_of_same (Hwt.out _ ((World.Fr.refl wr []).of_drewN _))) | (go_at_call 35; exact Calls.quiet_of_same (Hwt.out _ (World.Fr.refl _ _))))
                  go_wp2
                  go_roundw
                  case rel => exact ⟨j + 1, o', X', B', TS', _, by go_num, rfl, rfl, by omega, Lib.hid (HI8.out.still ((World.Fr.refl wr []).of_drewN _))⟩
                  case measure => simp [intOf]; omega
                · have hd2 : decide ((0 : Int) < (o' : Int)) = false := decide_eq_false hpos2
                  have hd2' : decide (0 < o') = false := decide_eq_false (by omega)
                  clear ht h1 h2 hpos hpos2 hww hpp hri htm hii hst
                  go_upto_region 26 with (fail)
                  go_quiet (first | (go_at_call 35; exact Calls.quiet_of_same (Hwt.out _ ((World.Fr.refl wr []).of_drewN _))) | (go_at_call 35; exact Calls.quiet_of_same (Hwt.out _ (World.Fr.refl _ _))))
                  go_wp2
                  go_roundw
                  case rel => exact ⟨j + 1, o', X', B', TS', _, by go_num, rfl, rfl, by omega, Lib.hid (HI8.out.still ((World.Fr.refl wr []).of_drewN _))⟩
                  case measure => simp [intOf]; omega
              · have hd1 : decide ((0 : Int) < (WT : Int)) = false := decide_eq_false hpos
                have hd1' : decide (0 < WT) = false := decide_eq_false (by omega)
                rcases hpos2 with hpos2 | hpos2
                · have hd2 : decide ((0 : Int) < (o' : Int)) = true := decide_eq_true hpos2
                  have hd2' : decide (0 < o') = true := decide_eq_true (by omega)
                  obtain ⟨om, hom⟩ : ∃ k, o' - 1 = k := ⟨_, rfl⟩
                  obtain ⟨t', ht'⟩ : ∃ t, TS'[om]? = some t := ⟨TS'[om]'(by have := Hhole.out.1; have := HTE.out.1; omega), List.getElem?_eq_getElem _⟩
                  obtain ⟨g5, off5, c5, hv5, hg5, y5⟩ := tms_at HI8.out.ts ht'
                  rw [HTE.out.1] at hv5
                  cases hv5
                  have h3 := hpp (by omega) t' (by rw [hom]; exact ht')
                  have h4 := hri t' (List.mem_of_getElem? ht')
                  rw [hii, htm] at h3
                  simp only at h3
                  have hws2 : IntKind.i64.wrap (s.time - t') = s.time - t' := IntWalk.i64_in _ (by omega)
                  have hwo : IntKind.i64.wrap ((o' : Int) - 1) = (om : Int) := by rw [IntWalk.i64_in _ (by have := Hhole.out; omega)]; omega
                  have hio2 : (om : Int) < (NP : Int) := by have := Hhole.out.1; omega
                  have hin2 : (0 : Int) ≤ (om : Int) := by omega
                  have hd4 : decide (s.time - t' ≤ hi) = false := decide_eq_false (by omega)
                  clear  ht' h3 h4 hom hpos hpos2 hww hpp hri htm hii hst
                  go_upto_region 26 with (fail)
                  go_quiet (first | (go_at_call 35; exact Calls.quiet_of_same (Hwt.out _ ((World.Fr.refl wr []).of_drewN _))) | (go_at_call 35; exact Calls.quiet_of_same (Hwt.out _ (World.Fr.refl _ _))))
                  go_wp2
                  go_roundw
                  case rel => exact ⟨j + 1, o', X', B', TS', _, by go_num, rfl, rfl, by omega, Lib.hid (HI8.out.still ((World.Fr.refl wr []).of_drewN _))⟩
                  case measure => simp [intOf]; omega
                · exfalso
                  have := HWT.out; have := HNP.out; omega
            | true =>
              have hx1 : X'.nx = true := by rw [HI8.out.fix.2, hx]; simp [h14, h16]
              have hn1 := HI8.out.ord.next hx1 (by have := HTE.out.1; have := HNP.out; omega)
              have h1 : WT = 1 := by rw [HI8.out.ord.len, HTE.out.1] at hn1; rw [← HWT.out]; exact hn1
              have hb1 : ((WT : Int) != 1) = false := by simp [h1]
              clear hx hx1 hn1 h1 hpos hpos2
              go_upto_region 26 with (fail)
              go_quiet (first | (go_at_call 35; exact Calls.quiet_of_same (Hwt.out _ ((World.Fr.refl wr []).of_drewN _))) | (go_at_call 35; exact Calls.quiet_of_same (Hwt.out _ (World.Fr.refl _ _))))
              go_wp2
              go_roundw
              case rel => exact ⟨j + 1, o', X', B', TS', _, by go_num, rfl, rfl, by omega, Lib.hid (HI8.out.still ((World.Fr.refl wr []).of_drewN _))⟩
              case measure => simp [intOf]; omega
    · have hd : decide ((j : Int) < (N : Int)) = false := decide_eq_false (by omega)
      have hd2 : decide (j < N) = false := decide_eq_false hlt
      have HF := Lib.hid HI.out.fr
      clear HI hlt hj
      go_wp2
      go_ret
      exact ⟨rfl, HF.out⟩
end Go.Proofs.YtbejmdlncnkaaaaGreat
