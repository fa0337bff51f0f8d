/-
  The walk of the statement PastGrows.
-/
import Derived.Test.YtbejmdlncnkaaaaGreatP28
import Derived.Test.YtbejmdlncnkaaaaGreatPaE
import Derived.Test.YtbejmdlncnkaaaaGreatRmB
import Derived.Test.YtbejmdlncnkaaaaGreatSe1
namespace Go.Proofs.YtbejmdlncnkaaaaGreat
open Go.RowKit

theorem LV.put2 {w W : World} {k1 : Nat} {X : PX} {B1 : List Nat} {k2 : Nat} {Y : PX} {B2 : List Nat} {bs : List (Nat × Value × Value × Tb)} (h : LV w W k1 X B1 k2 Y B2 bs) {A : Nat} {u v x y : Value} {t : Tb} (hA : W.heap[A]? = some (.cells #[u, v] 34 (0, 0))) (hn : ∀ q, q ∈ bs → q.1 ≠ A) (hw : w.heap.size ≤ A) (ht : SlTab W (.agg #[x, y]) t) :
    LV w ((W.setCell ⟨A, 0, none⟩ x).setCell ⟨A, 1, none⟩ y) k1 X B1 k2 Y B2 ((A, x, y, t) :: bs) := by
  have h1 := ((World.Fr.refl W [A]).setCell (a := ⟨A, 0, none⟩) (.inl (by simp)) x).setCell (a := ⟨A, 1, none⟩) (.inl (by simp)) y
  have hod := Odd.one hA (by decide)
  refine ⟨h.p.fr h1 hod (fun k hk hm => by simp at hm; subst hm; exact h.p.ne hA (by decide) (by decide) hk), h.s.fr h1 hod (fun k hk hm => by simp at hm; subst hm; exact h.s.ne hA (by decide) (by decide) hk), h.dj, h.b1, h.b2, h.fr.trans h1 (fun k hk => .inr (by simp at hk; subst hk; exact hw)), fun q hq => ?_⟩
  rcases List.mem_cons.1 hq with rfl | hq
  · exact ⟨heap_set_same (heap_set_same hA 0 x) 1 y, ht.fr h1 hod⟩
  · exact ⟨h1.heap (h.box q hq).1 (by simpa using hn q hq), (h.box q hq).2.fr h1 hod⟩
/-- .. and the point's own box -/
structure LQ (w W : World) (k1 : Nat) (X : PX) (B1 : List Nat) (k2 : Nat) (Y : PX) (B2 : List Nat) (bs : List (Nat × Value × Value × Tb)) (b19 : Nat) (cs : Array Value) : Prop where
  lv : LV w W k1 X B1 k2 Y B2 bs
  q : W.heap[b19]? = some (.cells cs 39 (0, 0))
section
variable {w W W' : World} {k1 : Nat} {X X' : PX} {B1 B1' : List Nat} {k2 : Nat} {Y Y' : PX} {B2 B2' : List Nat} {bs bs' : List (Nat × Value × Value × Tb)} {b19 : Nat} {cs : Array Value} (h : LQ w W k1 X B1 k2 Y B2 bs b19 cs)
include h
theorem LQ.still (hf : W.Fr W' []) : LQ w W' k1 X B1 k2 Y B2 bs b19 cs := ⟨h.lv.still hf, hf.heap h.q (by simp)⟩
theorem LQ.push {x y : Value} {t : Tb} (ht : SlTab W (.agg #[x, y]) t) : LQ w (W.alloc (.cells #[x, y] 34)) k1 X B1 k2 Y B2 ((W.heap.size, x, y, t) :: bs) b19 cs := ⟨h.lv.push ht, heap_alloc_some h.q _⟩
theorem LQ.sub (hs : ∀ q, q ∈ bs' → q ∈ bs) : LQ w W k1 X B1 k2 Y B2 bs' b19 cs := ⟨h.lv.sub hs, h.q⟩
theorem LQ.stepP (ho : OpAt W' k1 X' B1') (hb : ∀ k, k ∈ B1' → k ∈ B1 ∨ W.heap.size ≤ k) (hf : W.Fr W' B1) : LQ w W' k1 X' B1' k2 Y B2 bs b19 cs := ⟨h.lv.stepP ho hb hf, hf.heap h.q (h.lv.p.ne h.q (by decide) (by decide))⟩
theorem LQ.stepS (ho : OpAt W' k2 Y' B2') (hb : ∀ k, k ∈ B2' → k ∈ B2 ∨ W.heap.size ≤ k) (hf : W.Fr W' B2) : LQ w W' k1 X B1 k2 Y' B2' bs b19 cs := ⟨h.lv.stepS ho hb hf, hf.heap h.q (h.lv.s.ne h.q (by decide) (by decide))⟩
theorem LQ.put {A : Nat} {u v x y : Value} {t : Tb} (hA : W.heap[A]? = some (.cells #[u, v] 34 (0, 0))) (hn : ∀ q, q ∈ bs → q.1 ≠ A) (hw : w.heap.size ≤ A) (ht : SlTab W (.agg #[x, y]) t) :
    LQ w ((W.setCell ⟨A, 0, none⟩ x).setCell ⟨A, 1, none⟩ y) k1 X B1 k2 Y B2 ((A, x, y, t) :: bs) b19 cs := by
  have hne : b19 ≠ A := fun e => by
    have := h.q
    rw [e, hA] at this
    cases this
  exact ⟨h.lv.put2 hA hn hw ht, heap_set_other (heap_set_other h.q ⟨A, 0, none⟩ hne x) ⟨A, 1, none⟩ hne y⟩
theorem LQ.box (b : Nat) (x y : Value) (t : Tb) (hm : (b, x, y, t) ∈ bs) : W.heap[b]? = some (.cells #[x, y] 34 (0, 0)) ∧ SlTab W (.agg #[x, y]) t := h.lv.box _ hm
end
/-- between the points -/
structure GrI (cf : V → V → Int) (w wr : World) (p1 : Nat) (X : PX) (B1 : List Nat) (p2 : Nat) (Y : PX) (B2 : List Nat) (R : List BA) (b15 b17 : Nat) (va vb ha hb : Value) (was had : Tb) (j : Nat) : Prop where
  lv : LV w wr p1 X B1 p2 Y B2 [(b15, va, vb, was), (b17, ha, hb, had)]
  okX : POkP cf X 600
  okY : POkP cf Y 600
  fixX : X.i = ever ∧ X.fn = 65 ∧ X.parts = 1 ∧ X.right = R
  fixY : Y.i = ever ∧ Y.fn = 65 ∧ Y.parts = 2 ∧ Y.right = R
  was : Was cf X was
  had : Was cf Y had
  fewX : X.w.length ≤ j
  fewY : Y.w.length ≤ j
  hz : w.heap.size ≤ b15 ∧ b15 < b17
theorem GrI.still {cf : V → V → Int} {w wr w' : World} {p1 : Nat} {X : PX} {B1 : List Nat} {p2 : Nat} {Y : PX} {B2 : List Nat} {R : List BA} {b15 b17 : Nat} {va vb ha hb : Value} {was had : Tb} {j : Nat} (h : GrI cf w wr p1 X B1 p2 Y B2 R b15 b17 va vb ha hb was had j) (hf : wr.Fr w' []) : GrI cf w w' p1 X B1 p2 Y B2 R b15 b17 va vb ha hb was had j :=
  ⟨h.lv.still hf, h.okX, h.okY, h.fixX, h.fixY, h.was, h.had, h.fewX, h.fewY, h.hz⟩
theorem GrI.more {cf : V → V → Int} {w wr : World} {p1 : Nat} {X : PX} {B1 : List Nat} {p2 : Nat} {Y : PX} {B2 : List Nat} {R : List BA} {b15 b17 : Nat} {va vb ha hb : Value} {was had : Tb} {j : Nat} (h : GrI cf w wr p1 X B1 p2 Y B2 R b15 b17 va vb ha hb was had j) : GrI cf w wr p1 X B1 p2 Y B2 R b15 b17 va vb ha hb was had (j + 1) :=
  ⟨h.lv, h.okX, h.okY, h.fixX, h.fixY, h.was, h.had, Nat.le_succ_of_le h.fewX, Nat.le_succ_of_le h.fewY, h.hz⟩
theorem RdTabs.room {w : World} {a : Option Addr} {n c : Nat} {ts : List Tb} (h : RdTabs w (.slice a n c) ts) : n ≤ c := by
  obtain ⟨xs, h1, h2, h3⟩ := h.ex
  obtain ⟨a', c', e, hle, _⟩ := h2.shape
  cases e
  exact hle
theorem step_not' {cf : V → V → Int} {X : PX} {n : Int} {ts : List Tb} (he : (stepP cf X n ts).1 ≠ 0) : (stepP cf X n ts).2.2 = X := by
  unfold stepP at he ⊢
  split
  · rename_i h; rw [if_pos h] at he; exact absurd rfl he
  · rfl
theorem len_two {α : Type} {l : List α} (h : (l.length : Int) = 2) : ∃ t u, l = [t, u] := by
  match l, h with
  | [t, u], _ => exact ⟨t, u, rfl⟩
  | [], h => simp at h
  | [_], h => simp at h
  | _ :: _ :: _ :: _, h => simp at h; omega

set_option maxRecDepth 100000 in
set_option maxHeartbeats 8000000 in
theorem grows5 {cf : V → V → Int} (hK : Ctx V.wf cf) (hRK : RChkOk V.wf) (hRC : RCmpOk V.wf cf) {w : World} {nt : Bool} {v1 v2 v3 : Value} {left right : List BA} {ss : List SD} (h1 : RdStr w v1 left) (h2 : RdStr w v2 right) (hv1 : left.length ≤ 1048576) (hv2 : right.length ≤ 1048576) (h3 : RdSteps w v3 ss) (hl : ss.length ≤ 1048576) (hu : ∀ s, s ∈ ss → SDU s) :
    Calls Tryz.prog 5 #[.bool nt, v1, v2, v3] w fun e w' => e = .returned (.bool true) ∧ w.Fr w' [] := by
  obtain ⟨a1, a2, rfl, _, _⟩ := h1.rd.shape
  obtain ⟨c1, c2, rfl, _, _⟩ := h2.rd.shape
  obtain ⟨d1, d2, rfl⟩ := h3.shape
  obtain ⟨NL, hNL⟩ : ∃ N, left.length = N := ⟨_, rfl⟩
  obtain ⟨NV, hNV⟩ : ∃ N, right.length = N := ⟨_, rfl⟩
  obtain ⟨N, hN⟩ : ∃ N, ss.length = N := ⟨_, rfl⟩
  rw [hNL] at h1 ⊢
  rw [hNV] at h2 ⊢
  rw [hN] at h3 ⊢
  have HK := Lib.hid hK; have HRK := Lib.hid hRK; have HRC := Lib.hid hRC; have H1 := Lib.hid h1; have H2 := Lib.hid h2; have H3 := Lib.hid h3; have HV := Lib.hid (show NL ≤ 1048576 ∧ NV ≤ 1048576 from ⟨by omega, by omega⟩); have HL := Lib.hid hl; have HU := Lib.hid hu; have HN := Lib.hid hN; have HNV := Lib.hid (And.intro hNL hNV)
  have F := Lib.hid (World.Fr.refl w [])
  clear hK hRK hRC h1 h2 h3 hv1 hv2 hl hu hN hNV hNL
  go_enter Tryz.func5, Tryz.ntmps5
  have k := Lib.hid (live14 HK.out w)
  go_wp2_with fail
  (with_reducible refine k.out.mono ?_)
  rintro e w1 ⟨rfl, fx⟩
  have F := Lib.hid (F.out.trans fx (by simp))
  clear k fx
  have k := many15 (H3.out.still F.out) HL.out HU.out
  obtain ⟨RA, hRA⟩ : ∃ n, rowsAll ss = n := ⟨_, rfl⟩
  rw [hRA] at k
  have k := Lib.hid k
  have HRA := Lib.hid hRA
  clear hRA
  go_wp2_with fail
  (with_reducible refine k.out.mono ?_)
  rintro e w2 ⟨rfl, fx⟩
  have F := Lib.hid (F.out.trans fx (by simp))
  clear k fx
  by_cases hmany : 600 < RA
  · have hd : decide ((600 : Int) < (RA : Int)) = true := decide_eq_true (by omega)
    have hd2 : decide (600 < RA) = true := decide_eq_true hmany
    clear hmany
    go_wp2
    go_ret
    exact ⟨rfl, F.out⟩
  have hd : decide ((600 : Int) < (RA : Int)) = false := decide_eq_false (by omega)
  have hd2 : decide (600 < RA) = false := decide_eq_false hmany
  have HRA : Hid (rowsAll ss ≤ 600) := Lib.hid (by have := HRA.out; omega)
  clear hmany
  have q10 := heap_alloc_at w2 (.cells #[.int .i64 0, .int .i64 0, .bool true] 23) _ rfl
  have f10 := (World.Fr.refl w2 []).alloc (.cells #[.int .i64 0, .int .i64 0, .bool true] 23)
  have F := Lib.hid (F.out.trans f10 (by simp))
  go_upto_region 5 with (fail)
  generalize hWW : World.alloc w2 _ = w2' at *
  clear hWW f10
  generalize w2.heap.size = b10 at *
  have Q10 := Lib.hid q10
  obtain ⟨t0, t1, t2, tf⟩ := tri Q10.out
  have hz3 := lt_of_heap Q10.out
  have HSz := Lib.hid F.out.size
  have k := once20 HK.out (i := ever) (H2.out.fr F.out (by simp)) (by have := HV.out; have := HNV.out; omega)
  obtain ⟨R1, hR1⟩ : ∃ R, beginE ever [] right = R := ⟨_, rfl⟩
  rw [hR1] at k
  have k := Lib.hid k
  have HR1 := Lib.hid hR1
  clear hR1 q10
  go_wp2_with fail
  (with_reducible refine k.out.mono ?_)
  rintro e w3 ⟨⟨pv, rfl, hp⟩, fx⟩
  have Q10 := Lib.hid (fx.heap Q10.out (by simp)); have F := Lib.hid (F.out.trans fx (by simp))
  have HP := Lib.hid hp
  clear k fx hp t0 t1 t2 tf hz3 hd hd2
  obtain ⟨t0, t1, t2, tf⟩ := tri Q10.out
  have hz3 := lt_of_heap Q10.out
  have k := since21 HK.out (i := ever) (nt := nt) (H1.out.fr F.out (by simp)) (H2.out.fr F.out (by simp)) (by have := HV.out; have := HNV.out; omega) (by have := HV.out; have := HNV.out; omega)
  obtain ⟨R2, hR2⟩ : ∃ R, beginE ever left right = R := ⟨_, rfl⟩
  rw [hR2] at k
  have k := Lib.hid k
  have HR2 := Lib.hid hR2
  clear hR2
  go_wp2_with fail
  (with_reducible refine k.out.mono ?_)
  rintro e w4 ⟨⟨pw, rfl, hp⟩, fx⟩
  have F := Lib.hid (F.out.trans fx (by simp)); have FX := Lib.hid fx
  have HP2 := Lib.hid hp
  clear k fx hp t0 t1 t2 tf hz3 Q10
  by_cases hR10 : R1 = 0
  · subst hR10
    have HPa : Hid (∃ k vl vr, pv = .pointer (some ⟨k, 0, none⟩) ∧ w2'.heap.size ≤ k ∧ PastAt w3 k (beginS ever false [] right 65 1) vl vr (.slice none 0 0)) := Lib.hid (HP.out.elim (fun h => absurd rfl h.1) (fun h => h.2))
    obtain ⟨p1, vl, vr, rfl, hk1, hpa⟩ := HPa.out
    have HOa := Lib.hid (OpAt.begun hpa); have HK1 := Lib.hid hk1
    clear HP HPa hk1 hpa
    by_cases hR20 : R2 = 0
    · subst hR20
      have HPb : Hid (∃ k vl vr, pw = .pointer (some ⟨k, 0, none⟩) ∧ w3.heap.size ≤ k ∧ PastAt w4 k (beginS ever nt left right 65 2) vl vr (.slice none 0 0)) := Lib.hid (HP2.out.elim (fun h => absurd rfl h.1) (fun h => h.2))
      obtain ⟨p2, vl2, vr2, rfl, hk2, hpb⟩ := HPb.out
      have hob := OpAt.begun hpb
      have hoa := HOa.out
      have HL0 : Hid (LV w w4 p1 (beginP ever false [] right 65 1) [p1] p2 (beginP ever nt left right 65 2) [p2] []) := Lib.hid (by
        have hlt := hoa.lt p1 (by simp)
        have h0 := HSz.out
        refine ⟨hoa.still FX.out, hob, fun k hk hm => ?_, fun k hk => ?_, fun k hk => ?_, F.out, by simp⟩
        · simp at hk hm; omega
        · simp at hk; subst hk; exact Nat.le_trans h0 HK1.out
        · simp at hk; subst hk; have := HK1.out; omega)
      clear HP2 HPb hpb hk2 hob hoa HOa FX HK1
      by_cases hlong : 60 < N
      · have hd : decide ((60 : Int) < (N : Int)) = true := decide_eq_true (by omega)
        have hd2 : decide (60 < N) = true := decide_eq_true hlong
        clear hlong
        go_wp2
        go_ret
        exact ⟨rfl, F.out⟩
      have hd : decide ((60 : Int) < (N : Int)) = false := decide_eq_false (by omega)
      have hd2 : decide (60 < N) = false := decide_eq_false hlong
      have HN60 : Hid (N ≤ 60) := Lib.hid (by omega)
      clear hlong
      have hbz := beginE_zero HR1.out
      have k := rempty34 HRK.out HRC.out HK.out.ord (H2.out.fr F.out (by simp)) (by have := HV.out; have := HNV.out; omega)
      rw [ofT_ok hbz.2.2.1] at k
      have K := Lib.hid k
      clear k hbz
      go_wp2_with fail
      (with_reducible refine K.out.mono ?_)
      rintro e w5 ⟨u, rfl, ho⟩
      obtain ⟨s1, s2, s3, s4, rfl⟩ := ho.shape
      simp only [List.length_nil] at ho ⊢
      clear K hd hd2
      have hlv := ((HL0.out.still ho.fr).push ho.sl)
      have hlv2 := hlv.push (hlv.box (w5.heap.size, .slice s1 (sortS right).length s2, .slice s3 0 s4, ⟨sortS right, []⟩) (by simp)).2
      have hsz : (w5.alloc (.cells #[.slice s1 (sortS right).length s2, .slice s3 0 s4] 34)).heap.size = w5.heap.size + 1 := by simp
      rw [hsz] at hlv2
      have hq15 := (hlv.box (w5.heap.size, .slice s1 (sortS right).length s2, .slice s3 0 s4, ⟨sortS right, []⟩) (by simp)).1
      have hws : w.heap.size ≤ w5.heap.size := (F.out.trans ho.fr (by simp)).size
      have hokX : POkP cf (beginP ever false [] right 65 1) 600 := beginP_ok HR1.out (.inr ⟨rfl, rfl⟩) (.inl rfl)
      have hokY : POkP cf (beginP ever nt left right 65 2) 600 := beginP_ok HR2.out (.inr ⟨rfl, rfl⟩) (.inr rfl)
      have HI0 : Hid (GrI cf w ((w5.alloc (.cells #[.slice s1 (sortS right).length s2, .slice s3 0 s4] 34)).alloc (.cells #[.slice s1 (sortS right).length s2, .slice s3 0 s4] 34)) p1 (beginP ever false [] right 65 1) [p1] p2 (beginP ever nt left right 65 2) [p2] (sortS right) w5.heap.size (w5.heap.size + 1) (.slice s1 (sortS right).length s2) (.slice s3 0 s4) (.slice s1 (sortS right).length s2) (.slice s3 0 s4) ⟨sortS right, []⟩ ⟨sortS right, []⟩ 0) := Lib.hid
        ⟨LV.sub hlv2 (by simp), hokX, hokY, ⟨rfl, rfl, rfl, rfl⟩, ⟨rfl, rfl, rfl, rfl⟩, was_begin hokX rfl, was_begin hokY rfl, Nat.le_refl _, Nat.le_refl _, ⟨hws, by omega⟩⟩
      obtain ⟨r0, r1, rf⟩ := two hq15
      have hz15 := lt_of_heap hq15
      clear hlv hlv2 hsz hq15 hws hokX hokY ho HL0 F HSz
      go_upto_region 11 with (fail)
      generalize hWW : World.alloc (World.alloc w5 _) _ = W5 at *
      clear hWW r0 r1 rf hz15
      generalize hRR : sortS right = RR at *
      clear hRR
      generalize hb15 : w5.heap.size = b15 at *
      generalize hb17 : b15 + 1 = b17 at *
      clear hb15 hb17
      go_wp2
      go_loopw [84] (fun i wr => ∃ (j : Nat) (X : PX) (B1 : List Nat) (Y : PX) (B2 : List Nat) (va vb ha hb : Value) (was had : Tb), i = .int .i64 j ∧ j ≤ N ∧ Hid (GrI cf w wr p1 X B1 p2 Y B2 RR b15 b17 va vb ha hb was had j)) (fun i _ => (N - intOf i).toNat)
      case atStart => exact ⟨0, _, _, _, _, _, _, _, _, _, _, rfl, Nat.zero_le _, HI0⟩
      case round =>
        obtain ⟨j, X, B1, Y, B2, va, vb, ha, hb, was, had, rfl, hj, HI⟩ := hrel
        clear HI0
        by_cases hlt : j < N
        · obtain ⟨s, hs⟩ : ∃ s, ss[j]? = some s := ⟨ss[j]'(by have := HN.out; omega), List.getElem?_eq_getElem _⟩
          obtain ⟨g, off, c, a, mm, hv, hg, k0, k1, k2, hrd⟩ := H3.out.at hs
          rw [HN.out] at hv
          cases hv
          have hfr := HI.out.lv.fr
          have k0 := cellFr hfr k0 (by simp)
          have k1 := cellFr hfr k1 (by simp)
          have k2 := cellFr hfr k2 (by simp)
          have hg := Nat.lt_of_lt_of_le hg hfr.size
          have hjI : (j : Int) < (N : Int) := by omega
          have hw1 : IntKind.i64.wrap ((j : Int) + 1) = (j : Int) + 1 := IntWalk.i64_in _ (by have := HN60.out; omega)
          have hnn : (0 : Int) ≤ (j : Int) := by omega
          have hus := HU.out s (List.mem_of_getElem? hs)
          have hrows : ∀ t, t ∈ s.tabs → t.rows.length ≤ 600 := fun t ht => Nat.le_trans (rowsOf_mem ht) (Nat.le_trans (rowsAll_mem (List.mem_of_getElem? hs)) HRA.out)
          have hf15 := (World.Fr.refl wr []).alloc (.cells #[.int .i64 s.time, .slice a s.tabs.length mm, .bool s.clone] 39)
          have q19 := heap_alloc_at wr (.cells #[.int .i64 s.time, .slice a s.tabs.length mm, .bool s.clone] 39) _ rfl
          have HLT := Lib.hid (lt_of_heap (HI.out.lv.box (b17, ha, hb, had) (by simp)).1)
          have hi15 := HI.out.still hf15
          obtain ⟨NT, hNT⟩ : ∃ n, s.tabs.length = n := ⟨_, rfl⟩
          rw [hNT] at q19 k1 hi15
          have HI := Lib.hid hi15; have HNT := Lib.hid hNT; have Hrd := Lib.hid hrd; have Hrows := Lib.hid hrows; have HUs := Lib.hid hus
          clear hi15 hf15 hus hs hfr hrows hNT hrd
          go_upto_region 14 with (fail)
          generalize hWW : World.alloc wr _ = w5 at *
          clear hWW
          generalize wr.heap.size = b19 at *
          obtain ⟨m0, m1, m2, mf⟩ := tri q19
          have hz19 := lt_of_heap q19
          have Q19 := Lib.hid q19
          clear q19 k0 k1 k2 hg
          by_cases h1 : NT = 2
          · subst h1
            obtain ⟨t, u, hts⟩ := len_two (l := s.tabs) (by rw [HNT.out]; rfl)
            obtain ⟨g2, off2, c2x, x1, x2, x3, x4, hv, hg2, l1, l2, htab⟩ := Hrd.out.at (j := 1) (t := u) (by rw [hts]; rfl)
            rw [hts] at hv
            cases hv
            simp only [Nat.one_mul] at l1 l2
            have hrd2 : RdTabs w (.slice (some ⟨g2, off2, none⟩) 2 mm) [t, u] := by
              have := Hrd.out
              rw [hts] at this
              exact this
            have hroom := hrd2.room
            have htail : RdTabs w (.slice (some ⟨g2, off2 + 2, none⟩) 1 (mm - 1)) [u] := hrd2.tail
            obtain ⟨q1, q2, q3, q4, e1, e2⟩ := (HI.out.lv.box (b15, va, vb, was) (by simp)).2.shape
            obtain ⟨o1, o2, o3, o4, e3, e4⟩ := (HI.out.lv.box (b17, ha, hb, had) (by simp)).2.shape
            simp only at e1 e2 e3 e4
            subst e1 e2 e3 e4
            have hgdX : ∀ t', t' ∈ [u] → tcheck cf t' = 0 → Good cf t' ∧ t'.rows.length ≤ 600 := fun t' ht' h0 => by
              simp at ht'
              subst ht'
              exact ⟨good_of HK.out.ord h0 (tabU_fits Hrd.out HUs.out.tab t' (by rw [hts]; simp)).ok, Hrows.out t' (by rw [hts]; simp)⟩
            have hgdY : ∀ t', t' ∈ [t, u] → tcheck cf t' = 0 → Good cf t' ∧ t'.rows.length ≤ 600 := fun t' ht' h0 => ⟨good_of HK.out.ord h0 (tabU_fits Hrd.out HUs.out.tab t' (by rw [hts]; exact ht')).ok, Hrows.out t' (by rw [hts]; exact ht')⟩
            have hfu := tabU_fits Hrd.out HUs.out.tab u (by rw [hts]; simp)
            have hft := tabU_fits Hrd.out HUs.out.tab t (by rw [hts]; simp)
            have hru := Hrows.out u (by rw [hts]; simp)
            have hrt := Hrows.out t (by rw [hts]; simp)
            have hfewX : X.w.length ≤ 1000 := by have := HI.out.fewX; have := HN60.out; omega
            have hfewY : Y.w.length ≤ 1000 := by have := HI.out.fewY; have := HN60.out; omega
            obtain ⟨T, hT⟩ : ∃ T, (stepP cf X s.time [u]).2.1 = T := ⟨_, rfl⟩
            obtain ⟨E, hE⟩ : ∃ T, (stepP cf X s.time [u]).1 = T := ⟨_, rfl⟩
            obtain ⟨X', hX'⟩ : ∃ T, (stepP cf X s.time [u]).2.2 = T := ⟨_, rfl⟩
            have HLQ : Hid (LQ w w5 p1 X B1 p2 Y B2 [(b15, .slice q1 was.vars.length q2, .slice q3 was.rows.length q4, was), (b17, .slice o1 had.vars.length o2, .slice o3 had.rows.length o4, had)] b19 #[.int .i64 s.time, .slice (some ⟨g2, off2, none⟩) 2 mm, .bool s.clone]) := Lib.hid ⟨HI.out.lv, Q19.out⟩
            have hstep : ∀ (W : World), LQ w W p1 X B1 p2 Y B2 [(b15, .slice q1 was.vars.length q2, .slice q3 was.rows.length q4, was), (b17, .slice o1 had.vars.length o2, .slice o3 had.rows.length o4, had)] b19 #[.int .i64 s.time, .slice (some ⟨g2, off2, none⟩) 2 mm, .bool s.clone] → Calls Tryz.prog 18 #[.pointer (some ⟨p1, 0, none⟩), .int .i64 s.time, .slice (some ⟨g2, off2 + 2, none⟩) 1 (mm - 1)] W fun e w' => ∃ y1 y2 y3 y4 B1', e = .returned (.tuple #[.agg #[.slice y1 T.vars.length y2, .slice y3 T.rows.length y4], .int .i64 E]) ∧ Hid (LQ w w' p1 X' B1' p2 Y B2 [(b15, .slice q1 was.vars.length q2, .slice q3 was.rows.length q4, was), (b17, .slice o1 had.vars.length o2, .slice o3 had.rows.length o4, had)] b19 #[.int .i64 s.time, .slice (some ⟨g2, off2, none⟩) 2 mm, .bool s.clone] ∧ SlTab w' (.agg #[.slice y1 T.vars.length y2, .slice y3 T.rows.length y4]) T ∧ ∀ (b : Nat) (cs : Array Value), W.heap[b]? = some (.cells cs 34 (0, 0)) → w'.heap[b]? = some (.cells cs 34 (0, 0))) := fun W hlv => by
              have hc := step18 HK.out (M := 600) (by decide) (n := s.time) (ts := [u]) hlv.lv.p HI.out.okX hfewX (fun W' hW => htail.still (hlv.lv.fr.trans hW (fun k hk => .inr (hlv.lv.b1 k hk)))) (fun _ g3 off3 l3 c3 e hm => by cases e; have := hlv.lv.b1 g2 hm; omega) (by simp) (by simp only [List.mem_cons, List.not_mem_nil, or_false]; rintro t' rfl; exact hfu) (fun _ => by simp only [List.mem_cons, List.not_mem_nil, or_false]; rintro t' rfl; exact hru)
              rw [hT, hE, hX'] at hc
              refine hc.mono fun e w' ⟨u', B1', he, hn, ho, hb, hfb⟩ => ?_
              have hsl := hn.sl
              obtain ⟨ua, ub, _, hu', _⟩ := hsl.ex
              subst hu'
              obtain ⟨y1, y2, y3, y4, rfl, rfl⟩ := hsl.shape
              exact ⟨y1, y2, y3, y4, B1', he, Lib.hid ⟨hlv.stepP ho hb hfb, hsl, fun b cs hb' => hfb.heap hb' (hlv.lv.p.ne hb' (by decide) (by decide))⟩⟩
            have HS1 := Lib.hid (HLQ.out.still ((World.Fr.refl w5 []).drew))
            have HS2 := Lib.hid (HLQ.out.still (((World.Fr.refl w5 []).alloc (.cells #[.slice none 0 0, .slice none 0 0] 34)).drew))
            have A2 : (w5.alloc (.cells #[.slice none 0 0, .slice none 0 0] 34)).drew.heap[w5.heap.size]? = some (.cells #[.slice none 0 0, .slice none 0 0] 34 (0, 0)) := heap_alloc_at w5 _ _ rfl
            have A2 := Lib.hid A2
            have HB := Lib.hid (show w.heap.size ≤ b15 ∧ b15 < b17 ∧ b17 < b19 from ⟨HI.out.hz.1, HI.out.hz.2, HLT.out⟩)
            have HZ := Lib.hid (show w.heap.size ≤ w5.heap.size ∧ b15 < w5.heap.size ∧ b17 < w5.heap.size from ⟨HI.out.lv.fr.size, by have := HB.out; have := lt_of_heap Q19.out; omega, by have := HB.out; have := lt_of_heap Q19.out; omega⟩)
            have Hstep := Lib.hid hstep; have HT := Lib.hid hT; have HE := Lib.hid hE; have HX := Lib.hid hX'; have HgX := Lib.hid hgdX; have HgY := Lib.hid hgdY; have HfU := Lib.hid (And.intro hfu hft); have HrU := Lib.hid (And.intro hru hrt); have HfewX := Lib.hid (And.intro hfewX hfewY); have HTs := Lib.hid hts; have L1 := Lib.hid l1; have L2 := Lib.hid l2; have HG2 := Lib.hid hg2; have HTab := Lib.hid htab; have Hrd2 := Lib.hid hrd2
            clear hstep hT hE hX' hgdX hgdY hfu hft hru hrt hfewX hfewY hts l1 l2 hg2 htab htail hrd2
            have hc1 : ¬ mm = 1 := by omega
            have hc2 : 1 ≤ mm := by omega
            clear hroom
            go_upto_region 15 with (fail)
            go_cut [20, 21] (fun s20 s21 wx => s21 = .int .i64 E ∧ ∃ (b20 : Nat) (y1 : Option Addr) (y2 : Nat) (y3 : Option Addr) (y4 : Nat) (B1' : List Nat), s20 = .pointer (some ⟨b20, 0, none⟩) ∧ Hid (LQ w wx p1 X' B1' p2 Y B2 ((b20, .slice y1 T.vars.length y2, .slice y3 T.rows.length y4, T) :: [(b15, .slice q1 was.vars.length q2, .slice q3 was.rows.length q4, was), (b17, .slice o1 had.vars.length o2, .slice o3 had.rows.length o4, had)]) b19 #[.int .i64 s.time, .slice (some ⟨g2, off2, none⟩) 2 mm, .bool s.clone] ∧ b20 ≠ b15 ∧ b20 ≠ b17))
            case first =>
              go_region_with (first | (go_at_call 18; (with_reducible refine (Hstep.out _ HS1.out).mono ?_); rintro e w10 ⟨y1, y2, y3, y4, B1', rfl, hd⟩; have HZ2 := Lib.hid (show b15 < w10.heap.size ∧ b17 < w10.heap.size from ⟨lt_of_heap (hd.out.1.lv.box _ (List.mem_cons_self ..)).1, lt_of_heap (hd.out.1.lv.box _ (List.mem_cons_of_mem _ (List.mem_cons_self ..))).1⟩)) | (go_at_call 18; (with_reducible refine (Hstep.out _ HS2.out).mono ?_); rintro e w10 ⟨y1, y2, y3, y4, B1', rfl, hd⟩; have hbA := hd.out.2.2 w5.heap.size _ A2.out; obtain ⟨v0, v1, vf⟩ := two hbA; have zA := lt_of_heap hbA; have HbA := Lib.hid (And.intro hbA HZ.out); clear hbA))
              all_goals
                go_wp2_with fail
                go_meet
                case rel => first | exact ⟨rfl, _, y1, y2, y3, y4, B1', rfl, Lib.hid ⟨hd.out.1.put HbA.out.1 (by simp; have := HbA.out.2; omega) HbA.out.2.1 hd.out.2.1, by have := HbA.out.2; omega, by have := HbA.out.2; omega⟩⟩ | exact ⟨rfl, _, y1, y2, y3, y4, B1', rfl, Lib.hid ⟨hd.out.1.push hd.out.2.1, by have := HZ2.out; omega, by have := HZ2.out; omega⟩⟩
            case rest =>
            obtain ⟨rfl, b20, y1, y2, y3, y4, B1', rfl, HLV⟩ := hcut
            clear Hstep HS1 HS2 A2 HZ m0 m1 m2 mf hz19 Q19
            have HokX' : Hid (POkP cf X' 600 ∧ X'.w.length ≤ j + 1 ∧ X'.i = ever ∧ X'.fn = 65 ∧ X'.parts = 1 ∧ X'.right = RR) := Lib.hid (by
              have h1 := HI.out.okX.step HK.out.ord (n := s.time) (ts := [u]) (fun h0 t' ht' => by
                obtain ⟨_, _, _, _, h5, _, _⟩ := wrongE_zero (S := X.ps) HI.out.okX.parts h0
                exact HgX.out t' ht' (h5 t' ht'))
              have h2 := stepP_len (cf := cf) (X := X) (n := s.time) (ts := [u])
              have h3 := step_fix (cf := cf) (X := X) (n := s.time) (ts := [u])
              rw [HX.out] at h1 h2 h3
              have h4 := HI.out.fewX
              have h5 := HI.out.fixX
              exact ⟨h1, by omega, h3.1.trans h5.1, h3.2.2.2.2.1.trans h5.2.1, h3.2.2.2.2.2.trans h5.2.2.1, h3.2.2.2.1.trans h5.2.2.2⟩)
            by_cases hE0 : E = 0
            · have he : (stepP cf X s.time [u]).1 = 0 := by rw [HE.out]; exact hE0
              have hwas := told_was HK.out.ord HI.out.okX HI.out.fixX.2.1 HI.out.fixX.1 HfewX.out.1 HgX.out he
              have hgr := once_grows HK.out.ord HI.out.okX HI.out.fixX.2.1 HI.out.fixX.1 HfewX.out.1 HgX.out HI.out.fixX.2.2.1 HI.out.was he
              rw [HT.out, HX.out] at hwas
              rw [HT.out] at hgr
              obtain ⟨qT, hT20⟩ := HLV.out.1.box b20 _ _ _ (List.mem_cons_self ..)
              obtain ⟨qW, hT15⟩ := HLV.out.1.box b15 _ _ _ (List.mem_cons_of_mem _ (List.mem_cons_self ..))
              have hun := runion43 HRK.out HRC.out HK.out.ord hT20.rd hT15.rd hwas.fits HI.out.was.fits (by have := hwas.few; have := HI.out.was.few; omega)
              rw [hgr] at hun
              obtain ⟨nU, hnU⟩ : ∃ n, (unionT cf T was).1 = n := ⟨_, rfl⟩
              rw [hnU] at hun
              obtain ⟨y0c, y1c, yf⟩ := two qT
              obtain ⟨w0c, w1c, wf⟩ := two qW
              have zT := lt_of_heap qT
              have zW := lt_of_heap qW
              have hb1 : (E != 0) = false := by simp [hE0]
              have Hun := Lib.hid hun; have HWas := Lib.hid hwas
              clear hun hwas hgr hnU qT qW hT20 hT15 he hE0
              go_wp2_with fail
              (with_reducible refine Hun.out.mono ?_)
              rintro e w11 ⟨v, rfl, ho⟩
              obtain ⟨z1, z2, z3, z4, rfl⟩ := ho.shape
              have HLV2 := Lib.hid (And.intro ((HLV.out.1.still ho.fr).push ho.sl) HLV.out.2)
              clear ho Hun y0c y1c yf w0c w1c wf zT zW
              go_upto_region 18 with (fail)
              generalize hWW : World.alloc w11 _ = w12 at *
              clear hWW
              generalize w11.heap.size = b22 at *
              obtain ⟨qT, hT20⟩ := HLV2.out.1.box b20 _ _ _ (List.mem_cons_of_mem _ (List.mem_cons_self ..))
              obtain ⟨qU, hT22⟩ := HLV2.out.1.box b22 _ _ _ (List.mem_cons_self ..)
              have hsame := rsame17 hT22.rd hT20.rd HWas.out.fits.small
              rw [same_refl] at hsame
              have Hs := Lib.hid hsame
              obtain ⟨y0c, y1c, yf⟩ := two qT
              obtain ⟨u0c, u1c, uf⟩ := two qU
              have zT := lt_of_heap qT
              have zU := lt_of_heap qU
              clear hsame qT qU hT20 hT22
              go_wp2_with fail
              (with_reducible refine Hs.out.mono ?_)
              rintro e w13 ⟨rfl, fx⟩
              have HLV3 : Hid (LQ w w13 p1 X' B1' p2 Y B2 [(b20, .slice y1 T.vars.length y2, .slice y3 T.rows.length y4, T), (b15, .slice q1 was.vars.length q2, .slice q3 was.rows.length q4, was), (b17, .slice o1 had.vars.length o2, .slice o3 had.rows.length o4, had)] b19 #[.int .i64 s.time, .slice (some ⟨g2, off2, none⟩) 2 mm, .bool s.clone]) := Lib.hid (LQ.sub (HLV2.out.1.still fx) (fun q hq => List.mem_cons_of_mem _ hq))
              clear HLV2 fx Hs y0c y1c yf u0c u1c uf zT zU
              obtain ⟨qT, hT20⟩ := HLV3.out.box b20 _ _ _ (List.mem_cons_self ..)
              obtain ⟨qW, hT15⟩ := HLV3.out.box b15 _ _ _ (List.mem_cons_of_mem _ (List.mem_cons_self ..))
              have HLV4 := Lib.hid (LQ.put (LQ.sub HLV3.out (bs' := [(b20, .slice y1 T.vars.length y2, .slice y3 T.rows.length y4, T), (b17, .slice o1 had.vars.length o2, .slice o3 had.rows.length o4, had)]) (fun q hq => by
                rcases List.mem_cons.1 hq with rfl | hq
                · exact List.mem_cons_self ..
                · exact List.mem_cons_of_mem _ (List.mem_cons_of_mem _ hq))) qW (by
                have hne := HLV.out.2.1; have := HB.out
                intro q hq
                rcases List.mem_cons.1 hq with rfl | hq
                · exact hne
                · simp at hq; subst hq; simp; omega) HB.out.1 hT20)
              obtain ⟨y0c, y1c, yf⟩ := two qT
              obtain ⟨w0c, w1c, wf⟩ := two qW
              have zT := lt_of_heap qT
              have zW := lt_of_heap qW
              clear qT qW hT20 hT15 HLV3
              go_upto_region 21 with (fail)
              generalize hWW : World.setCell (World.setCell w13 _ _) _ _ = w14 at *
              clear hWW y0c y1c yf w0c w1c wf zT zW
              obtain ⟨T2, hT2⟩ : ∃ T, (stepP cf Y s.time [t, u]).2.1 = T := ⟨_, rfl⟩
              obtain ⟨E2, hE2⟩ : ∃ T, (stepP cf Y s.time [t, u]).1 = T := ⟨_, rfl⟩
              obtain ⟨Y', hY'⟩ : ∃ T, (stepP cf Y s.time [t, u]).2.2 = T := ⟨_, rfl⟩
              have hc := step18 HK.out (M := 600) (by decide) (v := .slice (some ⟨g2, off2, none⟩) 2 mm) (n := s.time) (ts := [t, u]) HLV4.out.lv.s HI.out.okY HfewX.out.2 (fun W' hW => Hrd2.out.still (HLV4.out.lv.fr.trans hW (fun k hk => .inr (HLV4.out.lv.b2 k hk)))) (fun _ g3 off3 l3 c3 e hm => by cases e; have h1 := HLV4.out.lv.b2 g2 hm; have h2 := HG2.out; omega) (by simp) (by
                have hfU := HfU.out
                simp only [List.mem_cons, List.not_mem_nil, or_false]; rintro t' (rfl | rfl)
                · exact hfU.2
                · exact hfU.1) (fun _ => by
                have hrU := HrU.out
                simp only [List.mem_cons, List.not_mem_nil, or_false]; rintro t' (rfl | rfl)
                · exact hrU.2
                · exact hrU.1)
              rw [hT2, hE2, hY'] at hc
              obtain ⟨m0, m1, m2, mf⟩ := tri HLV4.out.q
              have hz19 := lt_of_heap HLV4.out.q
              have Hc := Lib.hid hc; have HT2 := Lib.hid hT2; have HE2 := Lib.hid hE2; have HY := Lib.hid hY'
              clear hc hT2 hE2 hY'
              go_wp2_with fail
              (with_reducible refine Hc.out.mono ?_)
              rintro e w15 ⟨u', B2', rfl, hn, ho, hb, hfb⟩
              have hsl := hn.sl
              obtain ⟨ua, ub, _, hu', _⟩ := hsl.ex
              subst hu'
              obtain ⟨r1, r2, r3, r4, rfl, rfl⟩ := hsl.shape
              have HLV5 := Lib.hid ((HLV4.out.stepS ho hb hfb).push hsl)
              clear hsl hn ho hb hfb Hc HLV4 m0 m1 m2 mf hz19
              go_upto_region 22 with (fail)
              generalize hWW : World.alloc w15 _ = w16 at *
              clear hWW
              generalize w15.heap.size = b24 at *
              by_cases hE20 : E2 = 0
              · have he : (stepP cf Y s.time [t, u]).1 = 0 := by rw [HE2.out]; exact hE20
                have hhad := told_was HK.out.ord HI.out.okY HI.out.fixY.2.1 HI.out.fixY.1 HfewX.out.2 HgY.out he
                have hga := since_gains HK.out.ord HI.out.okY HI.out.fixY.2.1 HI.out.fixY.1 HfewX.out.2 HgY.out HI.out.fixY.2.2.1 HI.out.had he
                have hokY' : POkP cf Y' 600 ∧ Y'.w.length ≤ j + 1 ∧ Y'.i = ever ∧ Y'.fn = 65 ∧ Y'.parts = 2 ∧ Y'.right = RR := by
                  have h1 := HI.out.okY.step HK.out.ord (n := s.time) (ts := [t, u]) (fun h0 t' ht' => by
                    obtain ⟨_, _, _, _, h5, _, _⟩ := wrongE_zero (S := Y.ps) HI.out.okY.parts h0
                    exact HgY.out t' ht' (h5 t' ht'))
                  have h2 := stepP_len (cf := cf) (X := Y) (n := s.time) (ts := [t, u])
                  have h3 := step_fix (cf := cf) (X := Y) (n := s.time) (ts := [t, u])
                  rw [HY.out] at h1 h2 h3
                  have h4 := HI.out.fewY
                  have h5 := HI.out.fixY
                  exact ⟨h1, by omega, h3.1.trans h5.1, h3.2.2.2.2.1.trans h5.2.1, h3.2.2.2.2.2.trans h5.2.2.1, h3.2.2.2.1.trans h5.2.2.2⟩
                rw [HT2.out, HY.out] at hhad
                rw [HT2.out] at hga
                have hlast : lastT [t, u] = u := rfl
                rw [hlast] at hga
                obtain ⟨G, hG⟩ : ∃ g, (minusT cf T2 had).2 = g := ⟨_, rfl⟩
                obtain ⟨q24, hT24⟩ := HLV5.out.box b24 _ _ _ (List.mem_cons_self ..)
                obtain ⟨q17, hT17⟩ := HLV5.out.box b17 (.slice o1 had.vars.length o2) (.slice o3 had.rows.length o4) had (by simp)
                have hmi := rminus45 HRK.out HRC.out HK.out.ord hT24.rd hT17.rd hhad.fits HI.out.had.fits
                rw [hG] at hga hmi
                obtain ⟨nM, hnM⟩ : ∃ n, (minusT cf T2 had).1 = n := ⟨_, rfl⟩
                rw [hnM] at hmi
                obtain ⟨y0c, y1c, yf⟩ := two q24
                obtain ⟨w0c, w1c, wf⟩ := two q17
                have zT := lt_of_heap q24
                have zW := lt_of_heap q17
                have hb1 : (E2 != 0) = false := by simp [hE20]
                have Hmi := Lib.hid hmi; have HHad := Lib.hid hhad; have HGa := Lib.hid hga; have HokY' := Lib.hid hokY'
                clear hmi hhad hga hG hnM q24 q17 hT24 hT17 he hE20 hokY' hlast
                go_wp2_with fail
                (with_reducible refine Hmi.out.mono ?_)
                rintro e w17 ⟨v, rfl, ho⟩
                obtain ⟨z1, z2, z3, z4, rfl⟩ := ho.shape
                have HLV6 := Lib.hid ((HLV5.out.still ho.fr).push ho.sl)
                clear ho Hmi y0c y1c yf w0c w1c wf zT zW HLV5
                go_upto_region 24 with (fail)
                generalize hWW : World.alloc w17 _ = w18 at *
                clear hWW
                generalize w17.heap.size = b26 at *
                have HLV6 : Hid (LQ w w18 p1 X' B1' p2 Y' B2' [(b26, .slice z1 G.vars.length z2, .slice z3 G.rows.length z4, G), (b24, .slice r1 T2.vars.length r2, .slice r3 T2.rows.length r4, T2), (b15, .slice y1 T.vars.length y2, .slice y3 T.rows.length y4, T), (b20, .slice y1 T.vars.length y2, .slice y3 T.rows.length y4, T), (b17, .slice o1 had.vars.length o2, .slice o3 had.rows.length o4, had)] b19 #[.int .i64 s.time, .slice (some ⟨g2, off2, none⟩) 2 mm, .bool s.clone]) := Lib.hid (LQ.sub HLV6.out (by simp))
                have hun : ∀ (W : World), LQ w W p1 X' B1' p2 Y' B2' [(b26, .slice z1 G.vars.length z2, .slice z3 G.rows.length z4, G), (b24, .slice r1 T2.vars.length r2, .slice r3 T2.rows.length r4, T2), (b15, .slice y1 T.vars.length y2, .slice y3 T.rows.length y4, T), (b20, .slice y1 T.vars.length y2, .slice y3 T.rows.length y4, T), (b17, .slice o1 had.vars.length o2, .slice o3 had.rows.length o4, had)] b19 #[.int .i64 s.time, .slice (some ⟨g2, off2, none⟩) 2 mm, .bool s.clone] → Calls Tryz.prog 22 #[.agg #[.slice z1 G.vars.length z2, .slice z3 G.rows.length z4], .agg #[.slice x1 u.vars.length x2, .slice x3 u.rows.length x4]] W fun e w' => ∃ f1 f2 f3 f4 nn, e = .returned (.tuple #[.agg #[.slice f1 u.vars.length f2, .slice f3 u.rows.length f4], .int .i64 nn]) ∧ Hid (LQ w w' p1 X' B1' p2 Y' B2' [(b26, .slice z1 G.vars.length z2, .slice z3 G.rows.length z4, G), (b24, .slice r1 T2.vars.length r2, .slice r3 T2.rows.length r4, T2), (b15, .slice y1 T.vars.length y2, .slice y3 T.rows.length y4, T), (b20, .slice y1 T.vars.length y2, .slice y3 T.rows.length y4, T), (b17, .slice o1 had.vars.length o2, .slice o3 had.rows.length o4, had)] b19 #[.int .i64 s.time, .slice (some ⟨g2, off2, none⟩) 2 mm, .bool s.clone] ∧ SlTab w' (.agg #[.slice f1 u.vars.length f2, .slice f3 u.rows.length f4]) u ∧ ∀ (b : Nat) (cs : Array Value), W.heap[b]? = some (.cells cs 34 (0, 0)) → w'.heap[b]? = some (.cells cs 34 (0, 0))) := fun W hlv => by
                  have hc := runion43 HRK.out HRC.out HK.out.ord (hlv.box b26 _ _ _ (List.mem_cons_self ..)).2.rd (HTab.out.still hlv.lv.fr) (HGa.out.1.fits (by have := HGa.out.2.1; omega)) HfU.out.1 (by have := HGa.out.2.1; have := HrU.out.1; omega)
                  rw [HGa.out.2.2] at hc
                  refine hc.mono fun e w' ⟨v, he, ho⟩ => ?_
                  obtain ⟨f1, f2, f3, f4, rfl⟩ := ho.shape
                  exact ⟨f1, f2, f3, f4, _, he, Lib.hid ⟨hlv.still ho.fr, ho.sl, fun b cs hb' => ho.fr.heap hb' (by simp)⟩⟩
                have HS1 := Lib.hid (HLV6.out.still ((World.Fr.refl w18 []).drew))
                have HS2 := Lib.hid (HLV6.out.still (((World.Fr.refl w18 []).alloc (.cells #[.slice none 0 0, .slice none 0 0] 34)).drew))
                have A2 : (w18.alloc (.cells #[.slice none 0 0, .slice none 0 0] 34)).drew.heap[w18.heap.size]? = some (.cells #[.slice none 0 0, .slice none 0 0] 34 (0, 0)) := heap_alloc_at w18 _ _ rfl
                have A2 := Lib.hid A2
                have HZ := Lib.hid (show w.heap.size ≤ w18.heap.size ∧ b15 < w18.heap.size ∧ b17 < w18.heap.size ∧ b20 < w18.heap.size ∧ b24 < w18.heap.size ∧ b26 < w18.heap.size from ⟨HLV6.out.lv.fr.size, lt_of_heap (HLV6.out.box b15 (.slice y1 T.vars.length y2) (.slice y3 T.rows.length y4) T (by simp)).1, lt_of_heap (HLV6.out.box b17 (.slice o1 had.vars.length o2) (.slice o3 had.rows.length o4) had (by simp)).1, lt_of_heap (HLV6.out.box b20 (.slice y1 T.vars.length y2) (.slice y3 T.rows.length y4) T (by simp)).1, lt_of_heap (HLV6.out.box b24 (.slice r1 T2.vars.length r2) (.slice r3 T2.rows.length r4) T2 (by simp)).1, lt_of_heap (HLV6.out.box b26 _ _ _ (List.mem_cons_self ..)).1⟩)
                have Hun := Lib.hid hun
                clear hun
                obtain ⟨m0, m1, m2, mf⟩ := tri HLV6.out.q
                have hz19 := lt_of_heap HLV6.out.q
                have l1 := cellFr HLV6.out.lv.fr L1.out (by simp)
                have l2 := cellFr HLV6.out.lv.fr L2.out (by simp)
                have hg2 := Nat.lt_of_lt_of_le HG2.out HLV6.out.lv.fr.size
                obtain ⟨g0c, g1c, gf⟩ := two (HLV6.out.box b26 _ _ _ (List.mem_cons_self ..)).1
                have zG := HZ.out.2.2.2.2.2
                have h12 : (1 : Int) < ((2 : Nat) : Int) := by omega
                have h12' : (1 : Nat) < 2 := by omega
                go_cut [28, 29] (fun s28 s29 wx => ∃ nn, s29 = .int .i64 nn ∧ ∃ (b28 : Nat) (f1 : Option Addr) (f2 : Nat) (f3 : Option Addr) (f4 : Nat), s28 = .pointer (some ⟨b28, 0, none⟩) ∧ Hid (LQ w wx p1 X' B1' p2 Y' B2' ((b28, .slice f1 u.vars.length f2, .slice f3 u.rows.length f4, u) :: [(b26, .slice z1 G.vars.length z2, .slice z3 G.rows.length z4, G), (b24, .slice r1 T2.vars.length r2, .slice r3 T2.rows.length r4, T2), (b15, .slice y1 T.vars.length y2, .slice y3 T.rows.length y4, T), (b20, .slice y1 T.vars.length y2, .slice y3 T.rows.length y4, T), (b17, .slice o1 had.vars.length o2, .slice o3 had.rows.length o4, had)]) b19 #[.int .i64 s.time, .slice (some ⟨g2, off2, none⟩) 2 mm, .bool s.clone]))
                case first =>
                  go_region_with (first | (go_at_call 22; (with_reducible refine (Hun.out _ HS1.out).mono ?_); rintro e w19 ⟨f1, f2, f3, f4, nn, rfl, hd⟩) | (go_at_call 22; (with_reducible refine (Hun.out _ HS2.out).mono ?_); rintro e w19 ⟨f1, f2, f3, f4, nn, rfl, hd⟩; have hbA := hd.out.2.2 w18.heap.size _ A2.out; obtain ⟨v0, v1, vf⟩ := two hbA; have zA := lt_of_heap hbA; have HbA := Lib.hid (And.intro hbA HZ.out); clear hbA))
                  all_goals
                    go_wp2_with fail
                    go_meet
                    case rel => first | exact ⟨_, rfl, _, f1, f2, f3, f4, rfl, Lib.hid (hd.out.1.put HbA.out.1 (by simp; have := HbA.out.2; omega) HbA.out.2.1 hd.out.2.1)⟩ | exact ⟨_, rfl, _, f1, f2, f3, f4, rfl, Lib.hid (hd.out.1.push hd.out.2.1)⟩
                case rest =>
                obtain ⟨nn, rfl, b28, f1, f2, f3, f4, rfl, HLV7⟩ := hcut
                clear Hun HS1 HS2 A2 HZ m0 m1 m2 mf hz19 l1 l2 hg2 g0c g1c gf zG HLV6
                obtain ⟨q28, hT28⟩ := HLV7.out.box b28 _ _ _ (List.mem_cons_self ..)
                obtain ⟨m0, m1, m2, mf⟩ := tri HLV7.out.q
                have hz19 := lt_of_heap HLV7.out.q
                have l1 := cellFr HLV7.out.lv.fr L1.out (by simp)
                have l2 := cellFr HLV7.out.lv.fr L2.out (by simp)
                have hg2 := Nat.lt_of_lt_of_le HG2.out HLV7.out.lv.fr.size
                obtain ⟨g0c, g1c, gf⟩ := two q28
                have zG := lt_of_heap q28
                go_upto_region 25 with (fail)
                go_still_tail 5, (by kernel_rfl)
                change wpList _ _ _ _ _ wc.drew
                have hfd : wc.Fr wc.drew [] := (World.Fr.refl wc []).drew
                have hsame := rsame17 (hT28.rd.still hfd) (HTab.out.still (HLV7.out.lv.fr.trans hfd (by simp))) HfU.out.1.small
                rw [same_refl] at hsame
                have Hs := Lib.hid hsame
                have HLV8 := Lib.hid (HLV7.out.still hfd)
                clear hsame hT28 q28 m0 m1 m2 mf hz19 l1 l2 hg2 g0c g1c gf zG hfd HLV7
                generalize wc.drew = w20 at *
                go_wp2_with fail
                (with_reducible refine Hs.out.mono ?_)
                rintro e w21 ⟨rfl, fx⟩
                have HLV9 := Lib.hid (HLV8.out.still fx)
                clear HLV8 fx Hs
                obtain ⟨q24, hT24⟩ := HLV9.out.box b24 (.slice r1 T2.vars.length r2) (.slice r3 T2.rows.length r4) T2 (by simp)
                obtain ⟨q17, hT17⟩ := HLV9.out.box b17 (.slice o1 had.vars.length o2) (.slice o3 had.rows.length o4) had (by simp)
                have hfin := LQ.put (LQ.sub HLV9.out (bs' := [(b15, .slice y1 T.vars.length y2, .slice y3 T.rows.length y4, T)]) (by simp)) q17 (by have := HB.out; intro q hq; simp at hq; subst hq; simp; omega) (by have := HB.out; omega) hT24
                have HIn : Hid (GrI cf w ((w21.setCell ⟨b17, 0, none⟩ (.slice r1 T2.vars.length r2)).setCell ⟨b17, 1, none⟩ (.slice r3 T2.rows.length r4)) p1 X' B1' p2 Y' B2' RR b15 b17 (.slice y1 T.vars.length y2) (.slice y3 T.rows.length y4) (.slice r1 T2.vars.length r2) (.slice r3 T2.rows.length r4) T T2 (j + 1)) := Lib.hid
                  ⟨LV.sub hfin.lv (fun q hq => by simp at hq ⊢; rcases hq with h | h <;> simp [h]), HokX'.out.1, HokY'.out.1, HokX'.out.2.2, HokY'.out.2.2, HWas.out, HHad.out, HokX'.out.2.1, HokY'.out.2.1, ⟨HB.out.1, HB.out.2.1⟩⟩
                obtain ⟨y0c, y1c, yf⟩ := two q24
                obtain ⟨w0c, w1c, wf⟩ := two q17
                have zT := lt_of_heap q24
                have zW := lt_of_heap q17
                clear q24 q17 hT24 hT17 hfin HLV9 HLV HI HokX' HokY' HWas HHad
                go_wp2
                go_roundw
                case rel => exact ⟨j + 1, X', B1', Y', B2', _, _, _, _, T, T2, by go_num, by omega, HIn⟩
                case measure => simp [intOf]; omega
              · have hb1 : (E2 != 0) = true := by simpa using hE20
                have HF := Lib.hid HLV5.out.lv.fr
                clear hE20 HLV5
                go_wp2
                go_ret
                exact ⟨rfl, HF.out⟩
            · have hb1 : (E != 0) = true := by simpa using hE0
              have hxx : X' = X := by rw [← HX.out]; exact step_not' (by rw [HE.out]; exact hE0)
              have HIn : Hid (GrI cf w wc p1 X' B1' p2 Y B2 RR b15 b17 (.slice q1 was.vars.length q2) (.slice q3 was.rows.length q4) (.slice o1 had.vars.length o2) (.slice o3 had.rows.length o4) was had (j + 1)) := Lib.hid ⟨LV.sub HLV.out.1.lv (fun q hq => List.mem_cons_of_mem _ hq), HokX'.out.1, HI.out.okY, HokX'.out.2.2, HI.out.fixY, by rw [hxx]; exact HI.out.was, HI.out.had, HokX'.out.2.1, Nat.le_succ_of_le HI.out.fewY, HI.out.hz⟩
              clear hE0 hxx HLV HI HokX'
              go_wp2
              go_roundw
              case rel => exact ⟨j + 1, X', B1', Y, B2, _, _, _, _, was, had, by go_num, by omega, HIn⟩
              case measure => simp [intOf]; omega
          · have hb2 : ((NT : Int) != 2) = true := by simp; omega
            have HIm := Lib.hid HI.out.more
            clear h1
            go_wp2
            go_roundw
            case rel => exact ⟨j + 1, X, B1, Y, B2, va, vb, ha, hb, was, had, by go_num, by omega, HIm⟩
            case measure => simp [intOf]; omega
        · have hd : decide ((j : Int) < (N : Int)) = false := decide_eq_false (by omega)
          have hd2 : decide (j < N) = false := decide_eq_false hlt
          have HF := Lib.hid HI.out.lv.fr
          clear HI hlt hj
          go_wp2
          go_ret
          exact ⟨rfl, HF.out⟩
    · have hb : (R2 == 0) = false := by simpa using hR20
      have hb2 : (R2 != 0) = true := by simpa using hR20
      obtain rfl : pw = .pointer none := (HP2.out.elim (fun h => h.2) (fun h => absurd h.1 hR20))
      clear HP2 hR20 HR2
      go_wp2
      go_ret
      exact ⟨rfl, F.out⟩
  · have hb : (R1 == 0) = false := by simpa using hR10
    have hb2 : (R1 != 0) = true := by simpa using hR10
    obtain rfl : pv = .pointer none := (HP.out.elim (fun h => h.2) (fun h => absurd h.1 hR10))
    clear HP hR10 HR1
    by_cases hR20 : R2 = 0
    · subst hR20
      obtain ⟨p2, vl2, vr2, rfl, hk2, hpb⟩ := (HP2.out.elim (fun h => absurd rfl h.1) (fun h => h.2) : ∃ k vl vr, pw = .pointer (some ⟨k, 0, none⟩) ∧ w3.heap.size ≤ k ∧ PastAt w4 k (beginS ever nt left right 65 2) vl vr (.slice none 0 0))
      clear HP2 hk2 hpb
      go_wp2
      go_ret
      exact ⟨rfl, F.out⟩
    · have hb : (R2 == 0) = false := by simpa using hR20
      have hb2 : (R2 != 0) = true := by simpa using hR20
      obtain rfl : pw = .pointer none := (HP2.out.elim (fun h => h.2) (fun h => absurd h.1 hR20))
      clear HP2 hR20 HR2
      go_wp2
      go_ret
      exact ⟨rfl, F.out⟩
end Go.Proofs.YtbejmdlncnkaaaaGreat
