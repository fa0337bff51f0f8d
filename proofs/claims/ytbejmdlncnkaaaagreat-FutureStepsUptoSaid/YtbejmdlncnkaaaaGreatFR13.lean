/-
  The reference of the future: a point more.
-/
import Derived.Test.YtbejmdlncnkaaaaGreatFuH
set_option maxRecDepth 100000
set_option maxHeartbeats 16000000
set_option linter.unusedSimpArgs false
namespace Go.Proofs.YtbejmdlncnkaaaaGreat
open Go.RowKit
theorem rstep38 {cf : V -> V -> Int} (hRC : RCtx cf) {w0 w : World} {p : Nat} {S : RF} {vl vr vt vL vR v : Value} {ts : List Tb} {n : Int} (h : RefF w0 w p S vl vr vt vL vR) (hO : RfOk S) (hF : FOk cf S.X) (ht : RdTabs w0 v ts) (hts : ts.length <= 1048576) (hf : ∀ t, t ∈ ts -> Fits V.wf t) (hmany : S.T.length + 1 <= 1000) (hrows : wrongE cf S.X.ps n ts = 0 -> ∀ t, t ∈ ts -> t.rows.length <= 600) :
  Calls Tryz.prog 38 #[.pointer (some ⟨p, 0, none⟩), .int .i64 n, v] w fun e w' => ∃ u vs S' vt' vL' vR', e = .returned (.tuple #[u, .int .i64 (stepX cf S.X n ts).1]) /\ ROut cf w0 w w' p S vl vr vt vL vR n ts u vs S' vt' vL' vR' := by
 obtain ⟨v1, v2, rfl⟩ := ht.shape
 obtain ⟨a1, a2, rfl, _, _⟩ := h.nl.sl.shape
 obtain ⟨b1, b2, rfl, _, _⟩ := h.nr.sl.shape
 obtain ⟨e0, e1, e2, e3, e4, e5, e6, e7, e8, e9, e10, ef⟩ := eleven h.box
 have hz := lt_of_heap h.box
 have hl73 := fun (W : World) (hW : w.Fr W []) => last73 (h.ts.fr hW (by simp)) hO.many
 obtain ⟨t1, t2, hvt, _, _⟩ := h.ts.shape
 obtain ⟨_, hlsl⟩ := h.l.sl
 obtain ⟨_, hrsl⟩ := h.r.sl
 obtain ⟨l1, l2, hvL, hlc, _⟩ := hlsl.shape
 obtain ⟨r1, r2, hvR, hrc, _⟩ := hrsl.shape
 clear hlsl hrsl
 subst hvt hvL hvR
 have H := Hz h; have HRC := Hz hRC; have HO := Hz hO; have HF := Hz hF; have HT := Hz ht; have Hts := Hz hts; have Hf := Hz hf; have Hm := Hz hmany; have Hr := Hz hrows; have H73 := Hz hl73
 clear h hRC hO hF ht hts hf hmany hrows hl73
 go_enter Tryz.func38, Tryz.ntmps38
 have hw72 : ∀ (W : World) (vv : Value) (vs : List (List BA)), w.Fr W [] -> RdNs W vv vs -> vs = (if S.kind = 16 then [S.left, S.right] else [S.right]) -> Calls Tryz.prog 72 #[.int .i64 (lastI S.T), .int .i64 n, .slice v1 ts.length v2, vv] W fun e w' => e = .returned (.int .i64 (wrongE cf S.X.ps n ts)) /\ W.Fr w' [] := fun W vv vs hW hvv hvs => by
  have hc := wrong72 (cf := cf) HRC.out (w := W) (last := lastI S.T) (n := n) (HT.out.still (H.out.fr.trans hW (by simp))) hvv (by have := Hts.out; omega) (by rw [hvs]; split <;> simp) (fun l hl => by
   have h8 := HF.out.le8
   rw [hvs] at hl
   split at hl
   ·simp at hl
    rcases hl with rfl | rfl
    ·exact h8.1
    ·exact h8.2
   ·simp at hl
    subst hl
    exact h8.2) Hf.out
  have he : rwrong cf (lastI S.T) n ts vs = wrongE cf S.X.ps n ts := by
   rw [hvs]
   by_cases hk : S.kind = 16
   ·rw [if_pos hk]
    exact rwrong_two (S := S.X.ps) (by show (if S.kind = 16 then (2 : Int) else 1) = 2; rw [if_pos hk])
   ·rw [if_neg hk]
    exact rwrong_one (S := S.X.ps) (by show (if S.kind = 16 then (2 : Int) else 1) = 1; rw [if_neg hk])
  rw [he] at hc
  exact hc
 have HW72 := Hz hw72
 clear hw72
 have q8 := heap_alloc_at w (.cells #[.slice b1 S.right.length b2] 24) _ rfl
 have f8 := (World.Fr.refl w []).alloc (.cells #[.slice b1 S.right.length b2] 24)
 have Q8 := Hz q8; have F8 := Hz f8
 clear q8 f8
 go_upto_region 2 with (fail)
 generalize hW : World.alloc w _ = w8 at *
 clear hW
 generalize w.heap.size = b8 at *
 have hbx := F8.out.heap H.out.box (by simp)
 clear e0 e1 e2 e3 e4 e5 e6 e7 e8 e9 e10 ef hz
 obtain ⟨e0, e1, e2, e3, e4, e5, e6, e7, e8, e9, e10, ef⟩ := eleven hbx
 have hz := lt_of_heap hbx
 clear hbx
 go_upto_if 21 with (fail)
 go_cut [8] (fun s8 wx => ∃ vv, vv = s8 /\ Hid (w.Fr wx [] /\ ∃ vs, RdNs wx vv vs /\ vs = (if S.kind = 16 then [S.left, S.right] else [S.right])))
 case first =>
  by_cases hk : S.kind = 16
  ·have hkb : (S.kind == 16) = true := by simp [hk]
   have Hk := Hz hk
   clear hk
   have f9 := ((World.Fr.refl w8 []).alloc (.cells #[.slice a1 S.left.length a2, .slice b1 S.right.length b2] 24))
   have q9 := heap_alloc_at w8 (.cells #[.slice a1 S.left.length a2, .slice b1 S.right.length b2] 24) _ rfl
   have hfin : w.Fr (w8.alloc (.cells #[.slice a1 S.left.length a2, .slice b1 S.right.length b2] 24)) [] /\ ∃ vs, RdNs (w8.alloc (.cells #[.slice a1 S.left.length a2, .slice b1 S.right.length b2] 24)) (.slice (some ⟨w8.heap.size, 0, none⟩) 2 2) vs /\ vs = (if S.kind = 16 then [S.left, S.right] else [S.right]) :=
    ⟨F8.out.trans f9 (by simp), _, rdns_two q9 (H.out.nl.rd.fr (F8.out.trans f9 (by simp)) (by simp)) (H.out.nr.rd.fr (F8.out.trans f9 (by simp)) (by simp)), by rw [if_pos Hk.out]⟩
   have Hfin := Hz hfin
   clear f9 q9 hfin
   go_upto_region 3 with (fail)
   go_region_with (fail)
   all_goals
    go_wp2_with fail
    go_meet
    case rel => exact ⟨_, rfl, Hz ⟨Hfin.out.1.drew, by obtain ⟨vs, h1, h2⟩ := Hfin.out.2; exact ⟨vs, h1.still ((World.Fr.refl _ []).drew), h2⟩⟩⟩
  ·have hkb : (S.kind == 16) = false := by simpa using hk
   have Hk := Hz hk
   clear hk
   go_wp2_with fail
   go_meet
   case rel => exact ⟨_, rfl, Hz ⟨F8.out, [S.right], rdns_one Q8.out (H.out.nr.rd.fr F8.out (by simp)), by rw [if_neg Hk.out]⟩⟩
 case rest =>
 obtain ⟨vv, hvv, hcut⟩ := hcut
 subst hvv
 obtain ⟨hfr, vs, hns, hvs⟩ := hcut.out
 clear hcut e0 e1 e2 e3 e4 e5 e6 e7 e8 e9 e10 ef hz Q8 F8
 have hbx := hfr.heap H.out.box (by simp)
 obtain ⟨e0, e1, e2, e3, e4, e5, e6, e7, e8, e9, e10, ef⟩ := eleven hbx
 have hz := lt_of_heap hbx
 have k1 := Hz (H73.out wc hfr)
 have k2 := HW72.out wc vv vs hfr hns hvs
 have hE1 : (stepX cf S.X n ts).1 = wrongE cf S.X.ps n ts := rfl
 have hbad : wrongE cf S.X.ps n ts ≠ 0 -> stepX cf S.X n ts = (wrongE cf S.X.ps n ts, [], S.X) := fun h => by unfold stepX stepF; rw [if_neg h]
 obtain ⟨E, hE⟩ : ∃ E, wrongE cf S.X.ps n ts = E := ⟨_, rfl⟩
 rw [hE] at k2 hbad
 have k2 := Hz k2; have HE := Hz hE; have HBad := Hz hbad; have FR := Hz hfr
 clear hE hbad hfr hns hvs hbx
 go_wp2_with fail
 (with_reducible refine k1.out.mono ?_)
 rintro e w9 ⟨rfl, rfl⟩
 go_wp2_with fail
 (with_reducible refine k2.out.mono ?_)
 rintro e w10 ⟨rfl, fx⟩
 have FR := Hz (FR.out.trans fx (by simp))
 clear k1 k2 fx e0 e1 e2 e3 e4 e5 e6 e7 e8 e9 e10 ef hz
 by_cases hE0 : E ≠ 0
 ·have hb : (E != 0) = true := by simpa using hE0
  have hb2 : (E == 0) = false := by simpa using hE0
  have hbd := HBad.out hE0
  have hout : ROut cf w0 w w10 p S (.slice a1 S.left.length a2) (.slice b1 S.right.length b2) (.slice t1 S.T.length t2) (.slice l1 S.L.length l2) (.slice r1 S.R.length r2) n ts (.slice none 0 0) [] S (.slice t1 S.T.length t2) (.slice l1 S.L.length l2) (.slice r1 S.R.length r2) :=
   ⟨H.out.still FR.out, HO.out, VdR.nil _ _, by rw [hbd]; rfl, FR.out.mono (by simp), by omega, by simp [Value.blk], fun k hk => .inl hk⟩
  have Hout := Hz hout; have HBd := Hz hbd
  clear hbd hout hE0 hE1
  go_wp2
  refine bodyPost_ret (v := .tuple #[.slice none 0 0, .int .i64 E]) (by simp [results, Tryz.results38, go_sem]) rfl ⟨_, _, _, _, _, _, by rw [HBd.out], Hout.out⟩
 have hE0 : E = 0 := Classical.not_not.1 hE0
 subst hE0
 have h10 := H.out.still FR.out
 obtain ⟨e0, e1, e2, e3, e4, e5, e6, e7, e8, e9, e10, ef⟩ := eleven h10.box
 have hz := lt_of_heap h10.box
 go_upto_region 7 with (fail)
 obtain ⟨hpl, hchk⟩ := zero_h0 HF.out HE.out
 have hpar := HF.out.parts
 obtain ⟨ta, hta⟩ : ∃ t, ts[0]? = some t := ⟨ts[0]'(by omega), List.getElem?_eq_getElem _⟩
 obtain ⟨M, hM⟩ : ∃ M, ts.length - 1 = M := ⟨_, rfl⟩
 obtain ⟨tb, htb⟩ : ∃ t, ts[M]? = some t := ⟨ts[M]'(by omega), List.getElem?_eq_getElem _⟩
 have hwM : IntKind.i64.wrap ((ts.length : Int) - 1) = (M : Int) := by rw [IntWalk.i64_in _ (by omega)]; omega
 have hMI : (M : Int) < (ts.length : Int) := by omega
 have hM0 : (0 : Int) <= (M : Int) := by omega
 have h0I : (0 : Int) < (ts.length : Int) := by omega
 have h0N : 0 < ts.length := by omega
 have hMN : M < ts.length := by omega
 obtain ⟨g, off, c, x1, x2, x3, x4, hv, hg, ka, kb, hra⟩ := HT.out.at hta
 cases hv
 obtain ⟨g', off', c', y1, y2, y3, y4, hv, _, kc, kd, hrb⟩ := HT.out.at htb
 cases hv
 simp only [Nat.zero_mul, Nat.add_zero] at ka kb
 have HTA := Hz hta; have HTB := Hz htb; have HRa := Hz hra; have HRb := Hz hrb; have HM := Hz hM
 have Hg := Hz hg; have Ka := Hz ka; have Kb := Hz kb; have Kc := Hz kc; have Kd := Hz kd
 have HPar := Hz (And.intro hpl hpar)
 clear hta htb hra hrb hpl hchk hpar hM hg ka kb kc kd
 obtain ⟨i2, hi2, hv0, hv1, hv2⟩ := info_parts info2
 obtain ⟨ig, hig, hg0, hg1, hg2⟩ := info_parts info34
 have hroom : (S.T.length + 1) * 8 <= 140737488355328 /\ S.T.length + 1 <= 9223372036854775807 := by have := Hm.out; omega
 have H10 := Hz h10
 have hbx10 := Hz h10.box
 clear h10
 go_cut [2] (fun s2 wx => s2 = .slice (some ⟨g, off, none⟩) ts.length v2 /\ ∃ vt', Hid (w10.Fr wx (p :: (Value.slice t1 S.T.length t2).blk) /\ (∀ k, k ∈ vt'.blk -> k ∈ (Value.slice t1 S.T.length t2).blk ∨ w10.heap.size <= k) /\ RefF w0 wx p { S with T := S.T ++ [n] } (.slice a1 S.left.length a2) (.slice b1 S.right.length b2) vt' (.slice l1 S.L.length l2) (.slice r1 S.R.length r2)))
 case first =>
  have hmk : ∀ W, w10.Fr W (Value.slice t1 S.T.length S.T.length).blk -> (W.cell? ⟨p, 7, none⟩ = some (.slice t1 S.T.length t2) /\ Hid (w10.Fr W (Value.slice t1 S.T.length S.T.length).blk)) := fun W hW => ⟨cellFr hW e7 (Sl.off_box (World.Sl.cut H10.out.ts) hbx10.out (by decide)), Hz hW⟩
  have Hmk := Hz hmk
  clear hmk
  have HFx : Hid (w10.Fr w10 (Value.slice t1 S.T.length S.T.length).blk) := Hz (World.Fr.refl _ _)
  refine wp_region_E (S := (fun w' => w'.cell? ⟨p, 7, none⟩ = some (.slice t1 S.T.length t2) /\ Hid (w10.Fr w' (Value.slice t1 S.T.length S.T.length).blk))) 21 (by kernel_rfl) ?sa (fun hHa0 => ?_)
  case sa => ((try dsimp only); (first | exact Hmk.out _ HFx.out | exact Hmk.out _ HFx.out.drew | exact Hmk.out _ (HFx.out.alloc _) | exact Hmk.out _ ((HFx.out.alloc _).drew)))
  refine wpAnyE_take (i := 0) (oi := _) (v := ?vax1) (f := 22) rfl (by kernel_rfl) (by kernel_rfl) (by kernel_rfl) (by kernel_rfl) (by kernel_rfl) (fun _ _ _ h => h) (Or.inl ⟨by rfl, ?yax1⟩) (by assumption) ?zax1
  case yax1 => (intro w hSw; (try dsimp only at hSw); go_simp; (try with_reducible rfl))
  (try simp only [Act.put, sA, sB, sC])
  refine wpAnyE_take (i := 1) (oi := _) (v := ?vax2) (f := 22) rfl (by kernel_rfl) (by kernel_rfl) (by kernel_rfl) (by kernel_rfl) (by kernel_rfl) (fun _ _ _ h => h) (Or.inl ⟨by rfl, ?yax2⟩) (by assumption) ?zax2
  case yax2 => (intro w hSw; (try dsimp only at hSw); go_simp; (try with_reducible rfl))
  (try simp only [Act.put, sA, sB, sC])
  refine wpAnyE_take (i := 2) (oi := _) (v := ?vax3) (f := 22) rfl (by kernel_rfl) (by kernel_rfl) (by kernel_rfl) (by kernel_rfl) (by kernel_rfl) (fun _ _ _ h => h) (Or.inl ⟨by rfl, ?yax3⟩) (by assumption) ?zax3
  case yax3 => (intro w hSw; (try dsimp only at hSw); go_simp; (try with_reducible rfl))
  (try simp only [Act.put, sA, sB, sC])
  refine wpAnyE_take (i := 3) (oi := _) (v := ?vax4) (f := 22) rfl (by kernel_rfl) (by kernel_rfl) (by kernel_rfl) (by kernel_rfl) (by kernel_rfl) (fun _ _ _ h => h) (Or.inl ⟨by rfl, ?yax4⟩) (by assumption) ?zax4
  case yax4 => (intro w hSw; (try dsimp only at hSw); go_simp; (try with_reducible rfl))
  (try simp only [Act.put, sA, sB, sC])
  refine wpAnyE_take (i := 4) (oi := _) (v := ?vax5) (f := 22) rfl (by kernel_rfl) (by kernel_rfl) (by kernel_rfl) (by kernel_rfl) (by kernel_rfl) (fun _ _ _ h => h) (Or.inl ⟨by rfl, ?yax5⟩) (by assumption) ?zax5
  case yax5 => (intro w hSw; (try dsimp only at hSw); go_simp; (try with_reducible rfl))
  (try simp only [Act.put, sA, sB, sC])
  refine wpAnyE_take (i := 5) (oi := _) (v := ?vax6) (f := 22) rfl (by kernel_rfl) (by kernel_rfl) (by kernel_rfl) (by kernel_rfl) (by kernel_rfl) (fun _ _ _ h => h) (Or.inl ⟨by rfl, ?yax6⟩) (by assumption) ?zax6
  case yax6 => (intro w hSw; (try dsimp only at hSw); go_simp; (try with_reducible rfl))
  (try simp only [Act.put, sA, sB, sC])
  refine wpAnyE_take (i := 6) (oi := _) (v := ?vax7) (f := 22) rfl (by kernel_rfl) (by kernel_rfl) (by kernel_rfl) (by kernel_rfl) (by kernel_rfl) (fun _ _ _ h => h) (Or.inl ⟨by rfl, ?yax7⟩) (by assumption) ?zax7
  case yax7 => (intro w hSw; (try dsimp only at hSw); go_simp; (try with_reducible rfl))
  (try simp only [Act.put, sA, sB, sC])
  refine wpAnyE_take (i := 7) (oi := _) (v := ?vax8) (f := 22) rfl (by kernel_rfl) (by kernel_rfl) (by kernel_rfl) (by kernel_rfl) (by kernel_rfl) (fun _ _ _ h => h) (Or.inl ⟨by rfl, ?yax8⟩) (by assumption) ?zax8
  case yax8 => (intro w hSw; (try dsimp only at hSw); go_simp; (try with_reducible rfl))
  (try simp only [Act.put, sA, sB, sC])
  refine wpAnyE_take (i := 8) (oi := _) (v := ?vax9) (f := 22) rfl (by kernel_rfl) (by kernel_rfl) (by kernel_rfl) (by kernel_rfl) (by kernel_rfl) (fun _ _ _ h => h) (Or.inl ⟨by rfl, ?yax9⟩) (by assumption) ?zax9
  case yax9 => (intro w hSw; (try dsimp only at hSw); go_simp; (try with_reducible rfl))
  (try simp only [Act.put, sA, sB, sC])
  refine wpAnyE_take (i := 9) (oi := _) (v := ?vax10) (f := 22) rfl (by kernel_rfl) (by kernel_rfl) (by kernel_rfl) (by kernel_rfl) (by kernel_rfl) (fun _ _ _ h => h) (Or.inl ⟨by rfl, ?yax10⟩) (by assumption) ?zax10
  case yax10 => (intro w hSw; (try dsimp only at hSw); go_simp; (try with_reducible rfl))
  (try simp only [Act.put, sA, sB, sC])
  refine wpAnyE_take (i := 10) (oi := _) (v := ?vax11) (f := 22) rfl (by kernel_rfl) (by kernel_rfl) (by kernel_rfl) (by kernel_rfl) (by kernel_rfl) (fun _ _ _ h => h) (Or.inl ⟨by rfl, ?yax11⟩) (by assumption) ?zax11
  case yax11 => (intro w hSw; (try dsimp only at hSw); go_simp; (try with_reducible rfl))
  (try simp only [Act.put, sA, sB, sC])
  refine wpAnyE_take (i := 11) (oi := _) (v := ?vax12) (f := 22) rfl (by kernel_rfl) (by kernel_rfl) (by kernel_rfl) (by kernel_rfl) (by kernel_rfl) (fun _ _ _ h => h) (Or.inl ⟨by rfl, ?yax12⟩) (by assumption) ?zax12
  case yax12 => (intro w hSw; (try dsimp only at hSw); go_simp; (try with_reducible rfl))
  (try simp only [Act.put, sA, sB, sC])
  refine wpAnyE_take (i := 12) (oi := _) (v := ?vax13) (f := 22) rfl (by kernel_rfl) (by kernel_rfl) (by kernel_rfl) (by kernel_rfl) (by kernel_rfl) (fun _ _ _ h => h) (Or.inl ⟨by rfl, ?yax13⟩) (by assumption) ?zax13
  case yax13 => (intro w hSw; (try dsimp only at hSw); go_simp; (try with_reducible rfl))
  (try simp only [Act.put, sA, sB, sC])
  refine wpAnyE_take (i := 13) (oi := _) (v := ?vax14) (f := 22) rfl (by kernel_rfl) (by kernel_rfl) (by kernel_rfl) (by kernel_rfl) (by kernel_rfl) (fun _ _ _ h => h) (Or.inl ⟨by rfl, ?yax14⟩) (by assumption) ?zax14
  case yax14 => (intro w hSw; (try dsimp only at hSw); go_simp; (try with_reducible rfl))
  (try simp only [Act.put, sA, sB, sC])
  refine wpAnyE_take (i := 14) (oi := _) (v := ?vax15) (f := 22) rfl (by kernel_rfl) (by kernel_rfl) (by kernel_rfl) (by kernel_rfl) (by kernel_rfl) (fun _ _ _ h => h) (Or.inl ⟨by rfl, ?yax15⟩) (by assumption) ?zax15
  case yax15 => (intro w hSw; (try dsimp only at hSw); go_simp; (try with_reducible rfl))
  (try simp only [Act.put, sA, sB, sC])
  refine wpAnyE_take (i := 15) (oi := _) (v := ?vax16) (f := 22) rfl (by kernel_rfl) (by kernel_rfl) (by kernel_rfl) (by kernel_rfl) (by kernel_rfl) (fun _ _ _ h => h) (Or.inl ⟨by rfl, ?yax16⟩) (by assumption) ?zax16
  case yax16 => (intro w hSw; (try dsimp only at hSw); go_simp; (try with_reducible rfl))
  (try simp only [Act.put, sA, sB, sC])
  refine wpAnyE_take (i := 16) (oi := _) (v := ?vax17) (f := 22) rfl (by kernel_rfl) (by kernel_rfl) (by kernel_rfl) (by kernel_rfl) (by kernel_rfl) (fun _ _ _ h => h) (Or.inl ⟨by rfl, ?yax17⟩) (by assumption) ?zax17
  case yax17 => (intro w hSw; (try dsimp only at hSw); go_simp; (try with_reducible rfl))
  (try simp only [Act.put, sA, sB, sC])
  refine wpAnyE_step (i := 17) (o := _) (by kernel_rfl) rfl (fun K hK => ?_)
  go_simp
  refine hK.out _ _ (fun _ => ?sax18) (fun hHax18q => ?_)
  case sax18 => ((try dsimp only); (first | exact Hmk.out _ HFx.out | exact Hmk.out _ HFx.out.drew | exact Hmk.out _ (HFx.out.alloc _) | exact Hmk.out _ ((HFx.out.alloc _).drew)))
  have hHax18 := hHax18q (by decide)
  clear hK K hHa0 hHax18q
  (try simp only [Act.put, sA, sB, sC])
  refine wpAnyE_step (i := 18) (o := _) (by kernel_rfl) rfl (fun K hK => ?_)
  (refine step_append_one _ rfl (.tmp 58) (.tmp 60) 72 rfl 2 i2 (.int .i64 0) 1 8 Tryz.underlying72 hi2 hv0 hv1 hv2 rfl (.slice t1 S.T.length S.T.length) S.T.length (tms S.T) (by simp [Act.eval]) ((World.Sl.cut H10.out.ts).fr (((World.Fr.refl w10 []).alloc (.cells #[.int .i64 n] 2)).drew) (by simp)) w10.heap.size 1 [.int .i64 n] 2 (by simp [Act.eval]) (heap_alloc_at w10 _ _ rfl) rfl rfl hroom ?_; intro g3 off3 c3 w11 hsl hfr hat hlt5; have hal := ((World.Fr.refl w10 []).alloc (.cells #[.int .i64 n] 2)).drew; have hfb := (hal.mono (L' := (Value.slice t1 S.T.length S.T.length).blk) (by simp)).trans hfr (fun k hk => .inl hk); have hb11 := hfb.heap hbx10.out (Sl.off_box (World.Sl.cut H10.out.ts) hbx10.out (by decide)); obtain ⟨d0, d1, d2, d3, d4, d5, d6, d7, d8, d9, d10, df⟩ := eleven hb11; have hz11 := lt_of_heap hb11; have HSl := Hz hsl; have HFb := Hz hfb; have HAt := Hz hat; have HFx := Hz hfb; clear hsl hfr hat hal hfb hb11)
  refine hK.out _ _ (fun _ => ?sax19) (fun hHax19q => ?_)
  case sax19 => ((try dsimp only); (first | exact Hmk.out _ HFx.out | exact Hmk.out _ HFx.out.drew | exact Hmk.out _ (HFx.out.alloc _) | exact Hmk.out _ ((HFx.out.alloc _).drew)))
  have hHax19 := hHax19q (by decide)
  clear hK K hHax18 hHax19q
  (try simp only [Act.put, sA, sB, sC])
  refine wpAnyE_take (i := 19) (oi := _) (v := ?vax20) (f := 22) rfl (by kernel_rfl) (by kernel_rfl) (by kernel_rfl) (by kernel_rfl) (by kernel_rfl) (fun _ _ _ h => h) (Or.inl ⟨by rfl, ?yax20⟩) (by assumption) ?zax20
  case yax20 => (intro w hSw; (try dsimp only at hSw); go_simp; (try with_reducible rfl))
  (try simp only [Act.put, sA, sB, sC])
  refine wpAnyE_take (i := 20) (oi := _) (v := ?vax21) (f := 22) rfl (by kernel_rfl) (by kernel_rfl) (by kernel_rfl) (by kernel_rfl) (by kernel_rfl) (fun _ _ _ h => h) (Or.inl ⟨by rfl, ?yax21⟩) (by assumption) ?zax21
  case yax21 => (intro w hSw; (try dsimp only at hSw); go_simp; (try with_reducible rfl))
  (try simp only [Act.put, sA, sB, sC])
  refine wpAnyE_step (i := 21) (o := _) (by kernel_rfl) rfl (fun K hK => ?_)
  go_simp
  refine hK.out _ _ (fun hne => absurd rfl hne) (fun _ => ?_)
  clear hK K hHax19
  (try simp only [Act.put, sA, sB, sC])
  refine wpAnyE_done (by kernel_rfl) ?_ _
  have hbl : (Value.slice t1 S.T.length t2).blk = (Value.slice t1 S.T.length S.T.length).blk := by cases t1 <;> rfl
  have hn8 : ∀ k, k ∈ (Value.slice (some ⟨g3, off3, none⟩) (S.T.length + 1) c3).blk -> k ∈ (Value.slice t1 S.T.length t2).blk ∨ w10.heap.size <= k := fun k hk => by
   simp [Value.blk] at hk
   subst hk
   rw [hbl]
   rcases HAt.out with h | h
   ·exact .inl h
   ·exact .inr (by have := ((World.Fr.refl w10 []).alloc (.cells #[.int .i64 n] 2)).size; simp at h; omega)
  have hnew := H10.out.setT (vt' := .slice (some ⟨g3, off3, none⟩) (S.T.length + 1) c3) (n := n) (by rw [hbl]; exact HFb.out) HSl.out hn8
  have hfr9 : w10.Fr (w11.setCell ⟨p, 7, none⟩ (.slice (some ⟨g3, off3, none⟩) (S.T.length + 1) c3)) (p :: (Value.slice t1 S.T.length t2).blk) := ((HFb.out.mono (fun k hk => List.mem_cons_of_mem _ (by rw [hbl]; exact hk))).setCell (.inl (List.mem_cons_self ..)) _)
  have HNew := Hz (And.intro hfr9 (And.intro hn8 hnew))
  clear hnew hbl hfr9 hn8
  go_wp2_with fail
  go_meet
  case rel => exact ⟨rfl, _, HNew⟩
 case rest =>
 obtain ⟨rfl, vt', HA⟩ := hcut
 obtain ⟨wA, hwA⟩ : ∃ x, x = wc := ⟨_, rfl⟩
 subst hwA
 clear e0 e1 e2 e3 e4 e5 e6 e7 e8 e9 e10 ef hz hroom i2 hi2 hv0 hv1 hv2
 obtain ⟨vt1, vt2, hvt', _, _⟩ := HA.out.2.2.ts.shape
 have hroom : (S.L.length + 1) * 48 <= 140737488355328 /\ S.L.length + 1 <= 9223372036854775807 := by have := Hm.out; have := HO.out.ll; omega
 have hbxA := Hz HA.out.2.2.box
 obtain ⟨e0, e1, e2, e3, e4, e5, e6, e7, e8, e9, e10, ef⟩ := eleven hbxA.out
 have hz := lt_of_heap hbxA.out
 obtain ⟨hdL, hL1, hL2, hL3⟩ := HA.out.2.2.l.ex
 have HL1 := Hz hL1; have HL23 := Hz (And.intro hL2 hL3)
 clear hL1 hL2 hL3 hvt'
 have ka := cellFr HA.out.2.2.fr Ka.out (by simp)
 have kb := cellFr HA.out.2.2.fr Kb.out (by simp)
 have hg := Nat.lt_of_lt_of_le Hg.out HA.out.2.2.fr.size
 go_upto_region 8 with (fail)
 go_cut [2] (fun s2 wx => s2 = .slice (some ⟨g, off, none⟩) ts.length v2 /\ ∃ vL', Hid (wA.Fr wx (p :: (Value.slice l1 S.L.length l2).blk) /\ (∀ k, k ∈ vL'.blk -> k ∈ (Value.slice l1 S.L.length l2).blk ∨ wA.heap.size <= k) /\ RefF w0 wx p { S with T := S.T ++ [n], L := S.L ++ [ta] } (.slice a1 S.left.length a2) (.slice b1 S.right.length b2) vt' vL' (.slice r1 S.R.length r2)))
 case first =>
  have hmk : ∀ W, wA.Fr W (Value.slice l1 S.L.length S.L.length).blk -> (W.cell? ⟨p, 8, none⟩ = some (.slice l1 S.L.length l2) /\ W.cell? ⟨g, off, none⟩ = some (.slice x1 ta.vars.length x2) /\ W.cell? ⟨g, off + 1, none⟩ = some (.slice x3 ta.rows.length x4) /\ Hid (wA.Fr W (Value.slice l1 S.L.length S.L.length).blk)) := fun W hW => by
   have hgn : g ∉ (Value.slice l1 S.L.length S.L.length).blk := fun hm => by
    have h1 := HA.out.2.2.new g (by cases l1 <;> simp [Value.blk] at hm ⊢; simp [hm])
    have := Hg.out
    omega
   exact ⟨cellFr hW e8 (Sl.off_box (World.Sl.cut HL1.out) hbxA.out (by decide)), cellFr hW ka hgn, cellFr hW kb hgn, Hz hW⟩
  have Hmk := Hz hmk
  clear hmk
  have HFx : Hid (wA.Fr wA (Value.slice l1 S.L.length S.L.length).blk) := Hz (World.Fr.refl _ _)
  refine wp_region_E (S := (fun w' => w'.cell? ⟨p, 8, none⟩ = some (.slice l1 S.L.length l2) /\ w'.cell? ⟨g, off, none⟩ = some (.slice x1 ta.vars.length x2) /\ w'.cell? ⟨g, off + 1, none⟩ = some (.slice x3 ta.rows.length x4) /\ Hid (wA.Fr w' (Value.slice l1 S.L.length S.L.length).blk))) 23 (by kernel_rfl) ?sb (fun hHb0 => ?_)
  case sb => ((try dsimp only); (first | exact Hmk.out _ HFx.out | exact Hmk.out _ HFx.out.drew | exact Hmk.out _ (HFx.out.alloc _) | exact Hmk.out _ ((HFx.out.alloc _).drew)))
  refine wpAnyE_take (i := 0) (oi := _) (v := ?vbx23) (f := 24) rfl (by kernel_rfl) (by kernel_rfl) (by kernel_rfl) (by kernel_rfl) (by kernel_rfl) (fun _ _ _ h => h) (Or.inl ⟨by rfl, ?ybx23⟩) (by assumption) ?zbx23
  case ybx23 => (intro w hSw; (try dsimp only at hSw); go_simp; (try with_reducible rfl))
  (try simp only [Act.put, sA, sB, sC])
  refine wpAnyE_take (i := 1) (oi := _) (v := ?vbx24) (f := 24) rfl (by kernel_rfl) (by kernel_rfl) (by kernel_rfl) (by kernel_rfl) (by kernel_rfl) (fun _ _ _ h => h) (Or.inl ⟨by rfl, ?ybx24⟩) (by assumption) ?zbx24
  case ybx24 => (intro w hSw; (try dsimp only at hSw); go_simp; (try with_reducible rfl))
  (try simp only [Act.put, sA, sB, sC])
  refine wpAnyE_take (i := 2) (oi := _) (v := ?vbx25) (f := 24) rfl (by kernel_rfl) (by kernel_rfl) (by kernel_rfl) (by kernel_rfl) (by kernel_rfl) (fun _ _ _ h => h) (Or.inl ⟨by rfl, ?ybx25⟩) (by assumption) ?zbx25
  case ybx25 => (intro w hSw; (try dsimp only at hSw); go_simp; (try with_reducible rfl))
  (try simp only [Act.put, sA, sB, sC])
  refine wpAnyE_take (i := 3) (oi := _) (v := ?vbx26) (f := 24) rfl (by kernel_rfl) (by kernel_rfl) (by kernel_rfl) (by kernel_rfl) (by kernel_rfl) (fun _ _ _ h => h) (Or.inl ⟨by rfl, ?ybx26⟩) (by assumption) ?zbx26
  case ybx26 => (intro w hSw; (try dsimp only at hSw); go_simp; (try with_reducible rfl))
  (try simp only [Act.put, sA, sB, sC])
  refine wpAnyE_take (i := 4) (oi := _) (v := ?vbx27) (f := 24) rfl (by kernel_rfl) (by kernel_rfl) (by kernel_rfl) (by kernel_rfl) (by kernel_rfl) (fun _ _ _ h => h) (Or.inl ⟨by rfl, ?ybx27⟩) (by assumption) ?zbx27
  case ybx27 => (intro w hSw; (try dsimp only at hSw); go_simp; (try with_reducible rfl))
  (try simp only [Act.put, sA, sB, sC])
  refine wpAnyE_take (i := 5) (oi := _) (v := ?vbx28) (f := 24) rfl (by kernel_rfl) (by kernel_rfl) (by kernel_rfl) (by kernel_rfl) (by kernel_rfl) (fun _ _ _ h => h) (Or.inl ⟨by rfl, ?ybx28⟩) (by assumption) ?zbx28
  case ybx28 => (intro w hSw; (try dsimp only at hSw); go_simp; (try with_reducible rfl))
  (try simp only [Act.put, sA, sB, sC])
  refine wpAnyE_take (i := 6) (oi := _) (v := ?vbx29) (f := 24) rfl (by kernel_rfl) (by kernel_rfl) (by kernel_rfl) (by kernel_rfl) (by kernel_rfl) (fun _ _ _ h => h) (Or.inl ⟨by rfl, ?ybx29⟩) (by assumption) ?zbx29
  case ybx29 => (intro w hSw; (try dsimp only at hSw); go_simp; (try with_reducible rfl))
  (try simp only [Act.put, sA, sB, sC])
  refine wpAnyE_take (i := 7) (oi := _) (v := ?vbx30) (f := 24) rfl (by kernel_rfl) (by kernel_rfl) (by kernel_rfl) (by kernel_rfl) (by kernel_rfl) (fun _ _ _ h => h) (Or.inl ⟨by rfl, ?ybx30⟩) (by assumption) ?zbx30
  case ybx30 => (intro w hSw; (try dsimp only at hSw); go_simp; (try with_reducible rfl))
  (try simp only [Act.put, sA, sB, sC])
  refine wpAnyE_take (i := 8) (oi := _) (v := ?vbx31) (f := 24) rfl (by kernel_rfl) (by kernel_rfl) (by kernel_rfl) (by kernel_rfl) (by kernel_rfl) (fun _ _ _ h => h) (Or.inl ⟨by rfl, ?ybx31⟩) (by assumption) ?zbx31
  case ybx31 => (intro w hSw; (try dsimp only at hSw); go_simp; (try with_reducible rfl))
  (try simp only [Act.put, sA, sB, sC])
  refine wpAnyE_take (i := 9) (oi := _) (v := ?vbx32) (f := 24) rfl (by kernel_rfl) (by kernel_rfl) (by kernel_rfl) (by kernel_rfl) (by kernel_rfl) (fun _ _ _ h => h) (Or.inl ⟨by rfl, ?ybx32⟩) (by assumption) ?zbx32
  case ybx32 => (intro w hSw; (try dsimp only at hSw); go_simp; (try with_reducible rfl))
  (try simp only [Act.put, sA, sB, sC])
  refine wpAnyE_take (i := 10) (oi := _) (v := ?vbx33) (f := 24) rfl (by kernel_rfl) (by kernel_rfl) (by kernel_rfl) (by kernel_rfl) (by kernel_rfl) (fun _ _ _ h => h) (Or.inl ⟨by rfl, ?ybx33⟩) (by assumption) ?zbx33
  case ybx33 => (intro w hSw; (try dsimp only at hSw); go_simp; (try with_reducible rfl))
  (try simp only [Act.put, sA, sB, sC])
  refine wpAnyE_take (i := 11) (oi := _) (v := ?vbx34) (f := 24) rfl (by kernel_rfl) (by kernel_rfl) (by kernel_rfl) (by kernel_rfl) (by kernel_rfl) (fun _ _ _ h => h) (Or.inl ⟨by rfl, ?ybx34⟩) (by assumption) ?zbx34
  case ybx34 => (intro w hSw; (try dsimp only at hSw); go_simp; (try with_reducible rfl))
  (try simp only [Act.put, sA, sB, sC])
  refine wpAnyE_take (i := 12) (oi := _) (v := ?vbx35) (f := 24) rfl (by kernel_rfl) (by kernel_rfl) (by kernel_rfl) (by kernel_rfl) (by kernel_rfl) (fun _ _ _ h => h) (Or.inl ⟨by rfl, ?ybx35⟩) (by assumption) ?zbx35
  case ybx35 => (intro w hSw; (try dsimp only at hSw); go_simp; (try with_reducible rfl))
  (try simp only [Act.put, sA, sB, sC])
  refine wpAnyE_take (i := 13) (oi := _) (v := ?vbx36) (f := 24) rfl (by kernel_rfl) (by kernel_rfl) (by kernel_rfl) (by kernel_rfl) (by kernel_rfl) (fun _ _ _ h => h) (Or.inl ⟨by rfl, ?ybx36⟩) (by assumption) ?zbx36
  case ybx36 => (intro w hSw; (try dsimp only at hSw); go_simp; (try with_reducible rfl))
  (try simp only [Act.put, sA, sB, sC])
  refine wpAnyE_take (i := 14) (oi := _) (v := ?vbx37) (f := 24) rfl (by kernel_rfl) (by kernel_rfl) (by kernel_rfl) (by kernel_rfl) (by kernel_rfl) (fun _ _ _ h => h) (Or.inl ⟨by rfl, ?ybx37⟩) (by assumption) ?zbx37
  case ybx37 => (intro w hSw; (try dsimp only at hSw); go_simp; (try with_reducible rfl))
  (try simp only [Act.put, sA, sB, sC])
  refine wpAnyE_take (i := 15) (oi := _) (v := ?vbx38) (f := 24) rfl (by kernel_rfl) (by kernel_rfl) (by kernel_rfl) (by kernel_rfl) (by kernel_rfl) (fun _ _ _ h => h) (Or.inl ⟨by rfl, ?ybx38⟩) (by assumption) ?zbx38
  case ybx38 => (intro w hSw; (try dsimp only at hSw); go_simp; (try with_reducible rfl))
  (try simp only [Act.put, sA, sB, sC])
  refine wpAnyE_take (i := 16) (oi := _) (v := ?vbx39) (f := 24) rfl (by kernel_rfl) (by kernel_rfl) (by kernel_rfl) (by kernel_rfl) (by kernel_rfl) (fun _ _ _ h => h) (Or.inl ⟨by rfl, ?ybx39⟩) (by assumption) ?zbx39
  case ybx39 => (intro w hSw; (try dsimp only at hSw); go_simp; (try with_reducible rfl))
  (try simp only [Act.put, sA, sB, sC])
  refine wpAnyE_take (i := 17) (oi := _) (v := ?vbx40) (f := 24) rfl (by kernel_rfl) (by kernel_rfl) (by kernel_rfl) (by kernel_rfl) (by kernel_rfl) (fun _ _ _ h => h) (Or.inl ⟨by rfl, ?ybx40⟩) (by assumption) ?zbx40
  case ybx40 => (intro w hSw; (try dsimp only at hSw); go_simp; (try with_reducible rfl))
  (try simp only [Act.put, sA, sB, sC])
  refine wpAnyE_take (i := 18) (oi := _) (v := ?vbx41) (f := 24) rfl (by kernel_rfl) (by kernel_rfl) (by kernel_rfl) (by kernel_rfl) (by kernel_rfl) (fun _ _ _ h => h) (Or.inl ⟨by rfl, ?ybx41⟩) (by assumption) ?zbx41
  case ybx41 => (intro w hSw; (try dsimp only at hSw); go_simp; (try with_reducible rfl))
  (try simp only [Act.put, sA, sB, sC])
  refine wpAnyE_step (i := 19) (o := _) (by kernel_rfl) rfl (fun K hK => ?_)
  go_simp
  refine hK.out _ _ (fun _ => ?sbx42) (fun hHbx42q => ?_)
  case sbx42 => ((try dsimp only); (first | exact Hmk.out _ HFx.out | exact Hmk.out _ HFx.out.drew | exact Hmk.out _ (HFx.out.alloc _) | exact Hmk.out _ ((HFx.out.alloc _).drew)))
  have hHbx42 := hHbx42q (by decide)
  clear hK K hHb0 hHbx42q
  (try simp only [Act.put, sA, sB, sC])
  refine wpAnyE_step (i := 20) (o := _) (by kernel_rfl) rfl (fun K hK => ?_)
  (refine step_append_one _ rfl (.tmp 79) (.tmp 83) 37 rfl 34 ig (.agg #[.slice none 0 0, .slice none 0 0]) 2 48 Tryz.underlying37 hig hg0 hg1 hg2 rfl (.slice l1 S.L.length S.L.length) S.L.length (hdL.flatMap fun x => [x.1, x.2]) (by simp [Act.eval]) ((World.Sl.cut HL1.out).fr (((World.Fr.refl wA []).alloc (.cells #[.slice x1 ta.vars.length x2, .slice x3 ta.rows.length x4] 34)).drew) (by simp)) wA.heap.size 1 [.slice x1 ta.vars.length x2, .slice x3 ta.rows.length x4] 34 (by simp [Act.eval]) (heap_alloc_at wA _ _ rfl) rfl rfl hroom ?_; intro g3 off3 c3 w11 hsl hfr hat hlt5; have hal := ((World.Fr.refl wA []).alloc (.cells #[.slice x1 ta.vars.length x2, .slice x3 ta.rows.length x4] 34)).drew; have hfb := (hal.mono (L' := (Value.slice l1 S.L.length S.L.length).blk) (by simp)).trans hfr (fun k hk => .inl hk); have hb11 := hfb.heap hbxA.out (Sl.off_box (World.Sl.cut HL1.out) hbxA.out (by decide)); obtain ⟨d0, d1, d2, d3, d4, d5, d6, d7, d8, d9, d10, df⟩ := eleven hb11; have hz11 := lt_of_heap hb11; have HSl := Hz hsl; have HFb := Hz hfb; have HAt := Hz hat; have HFx := Hz hfb; clear hsl hfr hat hal hfb hb11)
  refine hK.out _ _ (fun _ => ?sbx43) (fun hHbx43q => ?_)
  case sbx43 => ((try dsimp only); (first | exact Hmk.out _ HFx.out | exact Hmk.out _ HFx.out.drew | exact Hmk.out _ (HFx.out.alloc _) | exact Hmk.out _ ((HFx.out.alloc _).drew)))
  have hHbx43 := hHbx43q (by decide)
  clear hK K hHbx42 hHbx43q
  (try simp only [Act.put, sA, sB, sC])
  refine wpAnyE_take (i := 21) (oi := _) (v := ?vbx44) (f := 24) rfl (by kernel_rfl) (by kernel_rfl) (by kernel_rfl) (by kernel_rfl) (by kernel_rfl) (fun _ _ _ h => h) (Or.inl ⟨by rfl, ?ybx44⟩) (by assumption) ?zbx44
  case ybx44 => (intro w hSw; (try dsimp only at hSw); go_simp; (try with_reducible rfl))
  (try simp only [Act.put, sA, sB, sC])
  refine wpAnyE_take (i := 22) (oi := _) (v := ?vbx45) (f := 24) rfl (by kernel_rfl) (by kernel_rfl) (by kernel_rfl) (by kernel_rfl) (by kernel_rfl) (fun _ _ _ h => h) (Or.inl ⟨by rfl, ?ybx45⟩) (by assumption) ?zbx45
  case ybx45 => (intro w hSw; (try dsimp only at hSw); go_simp; (try with_reducible rfl))
  (try simp only [Act.put, sA, sB, sC])
  refine wpAnyE_step (i := 23) (o := _) (by kernel_rfl) rfl (fun K hK => ?_)
  go_simp
  refine hK.out _ _ (fun hne => absurd rfl hne) (fun _ => ?_)
  clear hK K hHbx43
  (try simp only [Act.put, sA, sB, sC])
  refine wpAnyE_done (by kernel_rfl) ?_ _
  have hbl : (Value.slice l1 S.L.length l2).blk = (Value.slice l1 S.L.length S.L.length).blk := by cases l1 <;> rfl
  have hn8 : ∀ k, k ∈ (Value.slice (some ⟨g3, off3, none⟩) (S.L.length + 1) c3).blk -> k ∈ (Value.slice l1 S.L.length l2).blk ∨ wA.heap.size <= k := fun k hk => by
   simp [Value.blk] at hk
   subst hk
   rw [hbl]
   rcases HAt.out with h | h
   ·exact .inl h
   ·exact .inr (by simp at h; omega)
  have hh8 : Hdr w0 w11 (.slice (some ⟨g3, off3, none⟩) (S.L.length + 1) c3) (S.L ++ [ta]) := by
   refine ⟨hdL ++ [(.slice x1 ta.vars.length x2, .slice x3 ta.rows.length x4)], by simpa using HSl.out, by simp [HL23.out.1], fun i x t e1 e2 => ?_⟩
   rcases Nat.lt_or_ge i hdL.length with hi | hi
   ·rw [List.getElem?_append_left hi] at e1
    rw [List.getElem?_append_left (by have h1 := HL23.out.1; simp only at h1; omega)] at e2
    exact HL23.out.2 i x t e1 e2
   ·have h1 := HL23.out.1
    simp only at h1
    rw [List.getElem?_append_right hi] at e1
    rw [List.getElem?_append_right (by omega)] at e2
    have hz : i - hdL.length = 0 := by have := (List.getElem?_eq_some_iff.1 e1).1; simp at this; omega
    rw [hz] at e1
    rw [show i - S.L.length = 0 by omega] at e2
    simp at e1 e2
    subst e1 e2
    exact HRa.out
  have hnew := HA.out.2.2.setL (vL' := .slice (some ⟨g3, off3, none⟩) (S.L.length + 1) c3) (a := ta) (by rw [hbl]; exact HFb.out) hh8 hn8
  have hfr9 : wA.Fr (w11.setCell ⟨p, 8, none⟩ (.slice (some ⟨g3, off3, none⟩) (S.L.length + 1) c3)) (p :: (Value.slice l1 S.L.length l2).blk) := ((HFb.out.mono (fun k hk => List.mem_cons_of_mem _ (by rw [hbl]; exact hk))).setCell (.inl (List.mem_cons_self ..)) _)
  have HNew := Hz (And.intro hfr9 (And.intro hn8 hnew))
  clear hnew hbl hfr9 hn8 hh8
  go_wp2_with fail
  go_meet
  case rel => exact ⟨rfl, _, HNew⟩
 case rest =>
 obtain ⟨rfl, vL', HB⟩ := hcut
 obtain ⟨wB, hwB⟩ : ∃ x, x = wc := ⟨_, rfl⟩
 subst hwB
 clear e0 e1 e2 e3 e4 e5 e6 e7 e8 e9 e10 ef hz hroom ka kb hg
 have hroom : (S.R.length + 1) * 48 <= 140737488355328 /\ S.R.length + 1 <= 9223372036854775807 := by have := Hm.out; have := HO.out.lr; omega
 have hbxB := Hz HB.out.2.2.box
 obtain ⟨e0, e1, e2, e3, e4, e5, e6, e7, e8, e9, e10, ef⟩ := eleven hbxB.out
 have hz := lt_of_heap hbxB.out
 obtain ⟨hdR, hR1, hR2, hR3⟩ := HB.out.2.2.r.ex
 have HR1 := Hz hR1; have HR23 := Hz (And.intro hR2 hR3)
 clear hR1 hR2 hR3
 have kc := cellFr HB.out.2.2.fr Kc.out (by simp)
 have kd := cellFr HB.out.2.2.fr Kd.out (by simp)
 have hg := Nat.lt_of_lt_of_le Hg.out HB.out.2.2.fr.size
 go_upto_region 9 with (fail)
 go_cut [2] (fun s2 wx => s2 = .slice (some ⟨g, off, none⟩) ts.length v2 /\ ∃ vR', Hid (wB.Fr wx (p :: (Value.slice r1 S.R.length r2).blk) /\ (∀ k, k ∈ vR'.blk -> k ∈ (Value.slice r1 S.R.length r2).blk ∨ wB.heap.size <= k) /\ RefF w0 wx p (S.push n ta tb) (.slice a1 S.left.length a2) (.slice b1 S.right.length b2) vt' vL' vR'))
 case first =>
  have hmk : ∀ W, wB.Fr W (Value.slice r1 S.R.length S.R.length).blk -> (W.cell? ⟨p, 9, none⟩ = some (.slice r1 S.R.length r2) /\ W.cell? ⟨g, off + M * 2, none⟩ = some (.slice y1 tb.vars.length y2) /\ W.cell? ⟨g, off + M * 2 + 1, none⟩ = some (.slice y3 tb.rows.length y4) /\ Hid (wB.Fr W (Value.slice r1 S.R.length S.R.length).blk)) := fun W hW => by
   have hgn : g ∉ (Value.slice r1 S.R.length S.R.length).blk := fun hm => by
    have h1 := HB.out.2.2.new g (by cases r1 <;> simp [Value.blk] at hm ⊢; simp [hm])
    have := Hg.out
    omega
   exact ⟨cellFr hW e9 (Sl.off_box (World.Sl.cut HR1.out) hbxB.out (by decide)), cellFr hW kc hgn, cellFr hW kd hgn, Hz hW⟩
  have Hmk := Hz hmk
  clear hmk
  have HFx : Hid (wB.Fr wB (Value.slice r1 S.R.length S.R.length).blk) := Hz (World.Fr.refl _ _)
  refine wp_region_E (S := (fun w' => w'.cell? ⟨p, 9, none⟩ = some (.slice r1 S.R.length r2) /\ w'.cell? ⟨g, off + M * 2, none⟩ = some (.slice y1 tb.vars.length y2) /\ w'.cell? ⟨g, off + M * 2 + 1, none⟩ = some (.slice y3 tb.rows.length y4) /\ Hid (wB.Fr w' (Value.slice r1 S.R.length S.R.length).blk))) 26 (by kernel_rfl) ?sc (fun hHc0 => ?_)
  case sc => ((try dsimp only); (first | exact Hmk.out _ HFx.out | exact Hmk.out _ HFx.out.drew | exact Hmk.out _ (HFx.out.alloc _) | exact Hmk.out _ ((HFx.out.alloc _).drew)))
  refine wpAnyE_take (i := 0) (oi := _) (v := ?vcx47) (f := 27) rfl (by kernel_rfl) (by kernel_rfl) (by kernel_rfl) (by kernel_rfl) (by kernel_rfl) (fun _ _ _ h => h) (Or.inl ⟨by rfl, ?ycx47⟩) (by assumption) ?zcx47
  case ycx47 => (intro w hSw; (try dsimp only at hSw); go_simp; (try with_reducible rfl))
  (try simp only [Act.put, sA, sB, sC])
  refine wpAnyE_take (i := 1) (oi := _) (v := ?vcx48) (f := 27) rfl (by kernel_rfl) (by kernel_rfl) (by kernel_rfl) (by kernel_rfl) (by kernel_rfl) (fun _ _ _ h => h) (Or.inl ⟨by rfl, ?ycx48⟩) (by assumption) ?zcx48
  case ycx48 => (intro w hSw; (try dsimp only at hSw); go_simp; (try with_reducible rfl))
  (try simp only [Act.put, sA, sB, sC])
  refine wpAnyE_take (i := 2) (oi := _) (v := ?vcx49) (f := 27) rfl (by kernel_rfl) (by kernel_rfl) (by kernel_rfl) (by kernel_rfl) (by kernel_rfl) (fun _ _ _ h => h) (Or.inl ⟨by rfl, ?ycx49⟩) (by assumption) ?zcx49
  case ycx49 => (intro w hSw; (try dsimp only at hSw); go_simp; (try with_reducible rfl))
  (try simp only [Act.put, sA, sB, sC])
  refine wpAnyE_take (i := 3) (oi := _) (v := ?vcx50) (f := 27) rfl (by kernel_rfl) (by kernel_rfl) (by kernel_rfl) (by kernel_rfl) (by kernel_rfl) (fun _ _ _ h => h) (Or.inl ⟨by rfl, ?ycx50⟩) (by assumption) ?zcx50
  case ycx50 => (intro w hSw; (try dsimp only at hSw); go_simp; (try with_reducible rfl))
  (try simp only [Act.put, sA, sB, sC])
  refine wpAnyE_take (i := 4) (oi := _) (v := ?vcx51) (f := 27) rfl (by kernel_rfl) (by kernel_rfl) (by kernel_rfl) (by kernel_rfl) (by kernel_rfl) (fun _ _ _ h => h) (Or.inl ⟨by rfl, ?ycx51⟩) (by assumption) ?zcx51
  case ycx51 => (intro w hSw; (try dsimp only at hSw); go_simp; (try with_reducible rfl))
  (try simp only [Act.put, sA, sB, sC])
  refine wpAnyE_take (i := 5) (oi := _) (v := ?vcx52) (f := 27) rfl (by kernel_rfl) (by kernel_rfl) (by kernel_rfl) (by kernel_rfl) (by kernel_rfl) (fun _ _ _ h => h) (Or.inl ⟨by rfl, ?ycx52⟩) (by assumption) ?zcx52
  case ycx52 => (intro w hSw; (try dsimp only at hSw); go_simp; (try with_reducible rfl))
  (try simp only [Act.put, sA, sB, sC])
  refine wpAnyE_take (i := 6) (oi := _) (v := ?vcx53) (f := 27) rfl (by kernel_rfl) (by kernel_rfl) (by kernel_rfl) (by kernel_rfl) (by kernel_rfl) (fun _ _ _ h => h) (Or.inl ⟨by rfl, ?ycx53⟩) (by assumption) ?zcx53
  case ycx53 => (intro w hSw; (try dsimp only at hSw); go_simp; (try with_reducible rfl))
  (try simp only [Act.put, sA, sB, sC])
  refine wpAnyE_take (i := 7) (oi := _) (v := ?vcx54) (f := 27) rfl (by kernel_rfl) (by kernel_rfl) (by kernel_rfl) (by kernel_rfl) (by kernel_rfl) (fun _ _ _ h => h) (Or.inl ⟨by rfl, ?ycx54⟩) (by assumption) ?zcx54
  case ycx54 => (intro w hSw; (try dsimp only at hSw); go_simp; (try with_reducible rfl))
  (try simp only [Act.put, sA, sB, sC])
  refine wpAnyE_take (i := 8) (oi := _) (v := ?vcx55) (f := 27) rfl (by kernel_rfl) (by kernel_rfl) (by kernel_rfl) (by kernel_rfl) (by kernel_rfl) (fun _ _ _ h => h) (Or.inl ⟨by rfl, ?ycx55⟩) (by assumption) ?zcx55
  case ycx55 => (intro w hSw; (try dsimp only at hSw); go_simp; (try with_reducible rfl))
  (try simp only [Act.put, sA, sB, sC])
  refine wpAnyE_take (i := 9) (oi := _) (v := ?vcx56) (f := 27) rfl (by kernel_rfl) (by kernel_rfl) (by kernel_rfl) (by kernel_rfl) (by kernel_rfl) (fun _ _ _ h => h) (Or.inl ⟨by rfl, ?ycx56⟩) (by assumption) ?zcx56
  case ycx56 => (intro w hSw; (try dsimp only at hSw); go_simp; (try with_reducible rfl))
  (try simp only [Act.put, sA, sB, sC])
  refine wpAnyE_take (i := 10) (oi := _) (v := ?vcx57) (f := 27) rfl (by kernel_rfl) (by kernel_rfl) (by kernel_rfl) (by kernel_rfl) (by kernel_rfl) (fun _ _ _ h => h) (Or.inl ⟨by rfl, ?ycx57⟩) (by assumption) ?zcx57
  case ycx57 => (intro w hSw; (try dsimp only at hSw); go_simp; (try with_reducible rfl))
  (try simp only [Act.put, sA, sB, sC])
  refine wpAnyE_take (i := 11) (oi := _) (v := ?vcx58) (f := 27) rfl (by kernel_rfl) (by kernel_rfl) (by kernel_rfl) (by kernel_rfl) (by kernel_rfl) (fun _ _ _ h => h) (Or.inl ⟨by rfl, ?ycx58⟩) (by assumption) ?zcx58
  case ycx58 => (intro w hSw; (try dsimp only at hSw); go_simp; (try with_reducible rfl))
  (try simp only [Act.put, sA, sB, sC])
  refine wpAnyE_take (i := 12) (oi := _) (v := ?vcx59) (f := 27) rfl (by kernel_rfl) (by kernel_rfl) (by kernel_rfl) (by kernel_rfl) (by kernel_rfl) (fun _ _ _ h => h) (Or.inl ⟨by rfl, ?ycx59⟩) (by assumption) ?zcx59
  case ycx59 => (intro w hSw; (try dsimp only at hSw); go_simp; (try with_reducible rfl))
  (try simp only [Act.put, sA, sB, sC])
  refine wpAnyE_take (i := 13) (oi := _) (v := ?vcx60) (f := 27) rfl (by kernel_rfl) (by kernel_rfl) (by kernel_rfl) (by kernel_rfl) (by kernel_rfl) (fun _ _ _ h => h) (Or.inl ⟨by rfl, ?ycx60⟩) (by assumption) ?zcx60
  case ycx60 => (intro w hSw; (try dsimp only at hSw); go_simp; (try with_reducible rfl))
  (try simp only [Act.put, sA, sB, sC])
  refine wpAnyE_take (i := 14) (oi := _) (v := ?vcx61) (f := 27) rfl (by kernel_rfl) (by kernel_rfl) (by kernel_rfl) (by kernel_rfl) (by kernel_rfl) (fun _ _ _ h => h) (Or.inl ⟨by rfl, ?ycx61⟩) (by assumption) ?zcx61
  case ycx61 => (intro w hSw; (try dsimp only at hSw); go_simp; (try with_reducible rfl))
  (try simp only [Act.put, sA, sB, sC])
  refine wpAnyE_take (i := 15) (oi := _) (v := ?vcx62) (f := 27) rfl (by kernel_rfl) (by kernel_rfl) (by kernel_rfl) (by kernel_rfl) (by kernel_rfl) (fun _ _ _ h => h) (Or.inl ⟨by rfl, ?ycx62⟩) (by assumption) ?zcx62
  case ycx62 => (intro w hSw; (try dsimp only at hSw); go_simp; (try with_reducible rfl))
  (try simp only [Act.put, sA, sB, sC])
  refine wpAnyE_take (i := 16) (oi := _) (v := ?vcx63) (f := 27) rfl (by kernel_rfl) (by kernel_rfl) (by kernel_rfl) (by kernel_rfl) (by kernel_rfl) (fun _ _ _ h => h) (Or.inl ⟨by rfl, ?ycx63⟩) (by assumption) ?zcx63
  case ycx63 => (intro w hSw; (try dsimp only at hSw); go_simp; (try with_reducible rfl))
  (try simp only [Act.put, sA, sB, sC])
  refine wpAnyE_take (i := 17) (oi := _) (v := ?vcx64) (f := 27) rfl (by kernel_rfl) (by kernel_rfl) (by kernel_rfl) (by kernel_rfl) (by kernel_rfl) (fun _ _ _ h => h) (Or.inl ⟨by rfl, ?ycx64⟩) (by assumption) ?zcx64
  case ycx64 => (intro w hSw; (try dsimp only at hSw); go_simp; (try with_reducible rfl))
  (try simp only [Act.put, sA, sB, sC])
  refine wpAnyE_take (i := 18) (oi := _) (v := ?vcx65) (f := 27) rfl (by kernel_rfl) (by kernel_rfl) (by kernel_rfl) (by kernel_rfl) (by kernel_rfl) (fun _ _ _ h => h) (Or.inl ⟨by rfl, ?ycx65⟩) (by assumption) ?zcx65
  case ycx65 => (intro w hSw; (try dsimp only at hSw); go_simp; (try with_reducible rfl))
  (try simp only [Act.put, sA, sB, sC])
  refine wpAnyE_take (i := 19) (oi := _) (v := ?vcx66) (f := 27) rfl (by kernel_rfl) (by kernel_rfl) (by kernel_rfl) (by kernel_rfl) (by kernel_rfl) (fun _ _ _ h => h) (Or.inl ⟨by rfl, ?ycx66⟩) (by assumption) ?zcx66
  case ycx66 => (intro w hSw; (try dsimp only at hSw); go_simp; (try with_reducible rfl))
  (try simp only [Act.put, sA, sB, sC])
  refine wpAnyE_take (i := 20) (oi := _) (v := ?vcx67) (f := 27) rfl (by kernel_rfl) (by kernel_rfl) (by kernel_rfl) (by kernel_rfl) (by kernel_rfl) (fun _ _ _ h => h) (Or.inl ⟨by rfl, ?ycx67⟩) (by assumption) ?zcx67
  case ycx67 => (intro w hSw; (try dsimp only at hSw); go_simp; (try with_reducible rfl))
  (try simp only [Act.put, sA, sB, sC])
  refine wpAnyE_take (i := 21) (oi := _) (v := ?vcx68) (f := 27) rfl (by kernel_rfl) (by kernel_rfl) (by kernel_rfl) (by kernel_rfl) (by kernel_rfl) (fun _ _ _ h => h) (Or.inl ⟨by rfl, ?ycx68⟩) (by assumption) ?zcx68
  case ycx68 => (intro w hSw; (try dsimp only at hSw); go_simp; (try with_reducible rfl))
  (try simp only [Act.put, sA, sB, sC])
  refine wpAnyE_step (i := 22) (o := _) (by kernel_rfl) rfl (fun K hK => ?_)
  go_simp
  refine hK.out _ _ (fun _ => ?scx69) (fun hHcx69q => ?_)
  case scx69 => ((try dsimp only); (first | exact Hmk.out _ HFx.out | exact Hmk.out _ HFx.out.drew | exact Hmk.out _ (HFx.out.alloc _) | exact Hmk.out _ ((HFx.out.alloc _).drew)))
  have hHcx69 := hHcx69q (by decide)
  clear hK K hHc0 hHcx69q
  (try simp only [Act.put, sA, sB, sC])
  refine wpAnyE_step (i := 23) (o := _) (by kernel_rfl) rfl (fun K hK => ?_)
  (refine step_append_one _ rfl (.tmp 102) (.tmp 109) 37 rfl 34 ig (.agg #[.slice none 0 0, .slice none 0 0]) 2 48 Tryz.underlying37 hig hg0 hg1 hg2 rfl (.slice r1 S.R.length S.R.length) S.R.length (hdR.flatMap fun x => [x.1, x.2]) (by simp [Act.eval]) ((World.Sl.cut HR1.out).fr (((World.Fr.refl wB []).alloc (.cells #[.slice y1 tb.vars.length y2, .slice y3 tb.rows.length y4] 34)).drew) (by simp)) wB.heap.size 1 [.slice y1 tb.vars.length y2, .slice y3 tb.rows.length y4] 34 (by simp [Act.eval]) (heap_alloc_at wB _ _ rfl) rfl rfl hroom ?_; intro g3 off3 c3 w11 hsl hfr hat hlt5; have hal := ((World.Fr.refl wB []).alloc (.cells #[.slice y1 tb.vars.length y2, .slice y3 tb.rows.length y4] 34)).drew; have hfb := (hal.mono (L' := (Value.slice r1 S.R.length S.R.length).blk) (by simp)).trans hfr (fun k hk => .inl hk); have hb11 := hfb.heap hbxB.out (Sl.off_box (World.Sl.cut HR1.out) hbxB.out (by decide)); obtain ⟨d0, d1, d2, d3, d4, d5, d6, d7, d8, d9, d10, df⟩ := eleven hb11; have hz11 := lt_of_heap hb11; have HSl := Hz hsl; have HFb := Hz hfb; have HAt := Hz hat; have HFx := Hz hfb; clear hsl hfr hat hal hfb hb11)
  refine hK.out _ _ (fun _ => ?scx70) (fun hHcx70q => ?_)
  case scx70 => ((try dsimp only); (first | exact Hmk.out _ HFx.out | exact Hmk.out _ HFx.out.drew | exact Hmk.out _ (HFx.out.alloc _) | exact Hmk.out _ ((HFx.out.alloc _).drew)))
  have hHcx70 := hHcx70q (by decide)
  clear hK K hHcx69 hHcx70q
  (try simp only [Act.put, sA, sB, sC])
  refine wpAnyE_take (i := 24) (oi := _) (v := ?vcx71) (f := 27) rfl (by kernel_rfl) (by kernel_rfl) (by kernel_rfl) (by kernel_rfl) (by kernel_rfl) (fun _ _ _ h => h) (Or.inl ⟨by rfl, ?ycx71⟩) (by assumption) ?zcx71
  case ycx71 => (intro w hSw; (try dsimp only at hSw); go_simp; (try with_reducible rfl))
  (try simp only [Act.put, sA, sB, sC])
  refine wpAnyE_take (i := 25) (oi := _) (v := ?vcx72) (f := 27) rfl (by kernel_rfl) (by kernel_rfl) (by kernel_rfl) (by kernel_rfl) (by kernel_rfl) (fun _ _ _ h => h) (Or.inl ⟨by rfl, ?ycx72⟩) (by assumption) ?zcx72
  case ycx72 => (intro w hSw; (try dsimp only at hSw); go_simp; (try with_reducible rfl))
  (try simp only [Act.put, sA, sB, sC])
  refine wpAnyE_step (i := 26) (o := _) (by kernel_rfl) rfl (fun K hK => ?_)
  go_simp
  refine hK.out _ _ (fun hne => absurd rfl hne) (fun _ => ?_)
  clear hK K hHcx70
  (try simp only [Act.put, sA, sB, sC])
  refine wpAnyE_done (by kernel_rfl) ?_ _
  have hbl : (Value.slice r1 S.R.length r2).blk = (Value.slice r1 S.R.length S.R.length).blk := by cases r1 <;> rfl
  have hn8 : ∀ k, k ∈ (Value.slice (some ⟨g3, off3, none⟩) (S.R.length + 1) c3).blk -> k ∈ (Value.slice r1 S.R.length r2).blk ∨ wB.heap.size <= k := fun k hk => by
   simp [Value.blk] at hk
   subst hk
   rw [hbl]
   rcases HAt.out with h | h
   ·exact .inl h
   ·exact .inr (by simp at h; omega)
  have hh8 : Hdr w0 w11 (.slice (some ⟨g3, off3, none⟩) (S.R.length + 1) c3) (S.R ++ [tb]) := by
   refine ⟨hdR ++ [(.slice y1 tb.vars.length y2, .slice y3 tb.rows.length y4)], by simpa using HSl.out, by simp [HR23.out.1], fun i x t e1 e2 => ?_⟩
   have h1 := HR23.out.1
   simp only at h1
   rcases Nat.lt_or_ge i hdR.length with hi | hi
   ·rw [List.getElem?_append_left hi] at e1
    rw [List.getElem?_append_left (by omega)] at e2
    exact HR23.out.2 i x t e1 e2
   ·rw [List.getElem?_append_right hi] at e1
    rw [List.getElem?_append_right (by omega)] at e2
    have hz : i - hdR.length = 0 := by have := (List.getElem?_eq_some_iff.1 e1).1; simp at this; omega
    rw [hz] at e1
    rw [show i - S.R.length = 0 by omega] at e2
    simp at e1 e2
    subst e1 e2
    exact HRb.out
  have hnew := HB.out.2.2.setR (vR' := .slice (some ⟨g3, off3, none⟩) (S.R.length + 1) c3) (a := tb) (by rw [hbl]; exact HFb.out) hh8 hn8
  have hfr9 : wB.Fr (w11.setCell ⟨p, 9, none⟩ (.slice (some ⟨g3, off3, none⟩) (S.R.length + 1) c3)) (p :: (Value.slice r1 S.R.length r2).blk) := ((HFb.out.mono (fun k hk => List.mem_cons_of_mem _ (by rw [hbl]; exact hk))).setCell (.inl (List.mem_cons_self ..)) _)
  have HNew := Hz (And.intro hfr9 (And.intro hn8 hnew))
  clear hnew hbl hfr9 hn8 hh8
  go_wp2_with fail
  go_meet
  case rel => exact ⟨rfl, _, HNew⟩
 case rest =>
 obtain ⟨rfl, vR', HC⟩ := hcut
 obtain ⟨wC, hwC⟩ : ∃ x, x = wc := ⟨_, rfl⟩
 subst hwC
 clear e0 e1 e2 e3 e4 e5 e6 e7 e8 e9 e10 ef hz hroom kc kd hg
 obtain ⟨hpok, hstx, hn0, hn1⟩ := rpush_ok HRC.out HO.out HF.out HE.out Hf.out Hr.out Hm.out HTA.out (by rw [HM.out]; exact HTB.out)
 have hfrC : w.Fr wC (p :: ((Value.slice t1 S.T.length t2).blk ++ ((Value.slice l1 S.L.length l2).blk ++ (Value.slice r1 S.R.length r2).blk))) := by
  have h1 := (FR.out.mono (L' := p :: ((Value.slice t1 S.T.length t2).blk ++ ((Value.slice l1 S.L.length l2).blk ++ (Value.slice r1 S.R.length r2).blk))) (by simp)).trans HA.out.1 (fun k hk => .inl (by simp at hk ⊢; rcases hk with h | h <;> simp [h]))
  have h2 := h1.trans HB.out.1 (fun k hk => .inl (by simp at hk ⊢; rcases hk with h | h <;> simp [h]))
  exact h2.trans HC.out.1 (fun k hk => .inl (by simp at hk ⊢; rcases hk with h | h <;> simp [h]))
 have hown : ∀ k, k ∈ vt'.blk ++ (vL'.blk ++ vR'.blk) -> k ∈ (Value.slice t1 S.T.length t2).blk ++ ((Value.slice l1 S.L.length l2).blk ++ (Value.slice r1 S.R.length r2).blk) ∨ w.heap.size <= k := fun k hk => by
  have s1 := FR.out.size
  have s2 := HA.out.1.size
  have s3 := HB.out.1.size
  rw [List.mem_append, List.mem_append] at hk
  rw [List.mem_append, List.mem_append]
  rcases hk with hk | hk | hk
  ·rcases HA.out.2.1 k hk with h | h
   ·exact .inl (.inl h)
   ·exact .inr (by omega)
  ·rcases HB.out.2.1 k hk with h | h
   ·exact .inl (.inr (.inl h))
   ·exact .inr (by omega)
  ·rcases HC.out.2.1 k hk with h | h
   ·exact .inl (.inr (.inr h))
   ·exact .inr (by omega)
 have HOwn := Hz hown
 clear hown
 have hRI : RInv cf w0 wC wC p (S.push n ta tb) (S.push n ta tb) (.slice a1 S.left.length a2) (.slice b1 S.right.length b2) vt' vL' vR' (.slice none 0 0) [] := RInv.begin HC.out.2.2 (HO.out.push n ta tb Hm.out ⟨hn0, hn1⟩) hpok
 have hlenS : (S.push n ta tb).T.length <= S.T.length + 1 := by simp [RF.push]
 obtain ⟨S1, hS1⟩ : ∃ S1, S.push n ta tb = S1 := ⟨_, rfl⟩
 rw [hS1] at hRI hstx hlenS
 obtain ⟨N, hN⟩ : ∃ N, S1.T.length = N := ⟨_, rfl⟩
 have HRI := Hz hRI; have HStx := Hz hstx; have HFC := Hz hfrC; have HLen := Hz hlenS; have HN := Hz hN
 clear hRI hstx hfrC hlenS hS1 hN hpok hn0 hn1 HA HB HC HL1 HL23 HR1 HR23 hbxA hbxB hbx10 hwM hMI hM0 h0I h0N hMN HTA HTB HRa HRb HM Hg Ka Kb Kc Kd HPar hig hg0 hg1 hg2 hlc hrc HE HBad
 obtain ⟨iv, hiv, hv0, hv1, hv2⟩ := info_parts info74
 go_wp2
 go_loopw [10] (fun s10 wr => ∃ (S2 : RF) (vs : List Vd) (vo : Value), vo = s10 /\ Hid (RInv cf w0 wC wr p S1 S2 (.slice a1 S.left.length a2) (.slice b1 S.right.length b2) vt' vL' vR' vo vs)) (fun s10 _ => 1001 - vlen s10)
 case atStart => exact ⟨_, _, _, rfl, HRI⟩
 case round =>
  obtain ⟨S2, vs, vo, hvo, HV⟩ := hrel
  subst hvo
  clear HRI
  have hT2 : S2.T.length = N := by rw [HV.out.same]; exact HN.out
  obtain ⟨qa, qc, rfl⟩ := HV.out.told.shape
  have hfin : ∀ wz, wr.Fr wz [] -> (S2.told < S2.T.length -> settledB S2.X (S2.pt S2.told) = false) -> ROut cf w0 w wz p S (.slice a1 S.left.length a2) (.slice b1 S.right.length b2) (.slice t1 S.T.length t2) (.slice l1 S.L.length l2) (.slice r1 S.R.length r2) n ts (.slice qa vs.length qc) vs S2 vt' vL' vR' := fun wz hz hn => by
   have h1 := HV.out.still hz
   refine ⟨h1.ref, h1.ok, h1.told, ?_, (HFC.out.trans h1.fr (fun k hk => .inl (by simp at hk; simp [hk]))), ?_, fun k hk => Nat.le_trans HFC.out.size (h1.new k hk), HOwn.out⟩
   ·rw [HStx.out]
    exact h1.no hn
   ·rw [hT2, <- HN.out]
    exact HLen.out
  have Hfin := Hz hfin
  clear hfin
  obtain ⟨d1, d2, hvt, _, _⟩ := HV.out.ref.ts.shape
  rw [hT2] at hvt
  subst hvt
  have hbxV := Hz HV.out.ref.box
  obtain ⟨e0, e1, e2, e3, e4, e5, e6, e7, e8, e9, e10, ef⟩ := eleven hbxV.out
  have hz := lt_of_heap hbxV.out
  obtain ⟨o, ho⟩ : ∃ o, S2.told = o := ⟨_, rfl⟩
  rw [ho] at e10
  have HT2 := Hz hT2; have Ho := Hz ho
  clear hT2 ho
  have hNs : N <= 1000 := by rw [<- HT2.out]; exact HV.out.ok.many
  go_upto_region 11 with (fail)
  by_cases hlt : o < N
  ·have hd : decide ((o : Int) < (N : Int)) = true := decide_eq_true (by omega)
   have hd2 : decide (o < N) = true := decide_eq_true hlt
   have hltX : S2.told < S2.T.length := by rw [Ho.out, HT2.out]; exact hlt
   have hc := fun (W : World) (hW : wr.Fr W []) => settled86 (HV.out.still hW).ref HV.out.ok hltX
   rw [Ho.out] at hc
   obtain ⟨B, hB⟩ : ∃ B, settledB S2.X (S2.pt o) = B := ⟨_, rfl⟩
   rw [hB] at hc
   have Hc := Hz hc; have HB := Hz hB; have HltX := Hz hltX
   clear hc hB hltX
   have hoI : (o : Int) < (N : Int) := by omega
   have hon : (0 : Int) <= (o : Int) := by omega
   cases B with
   | false =>
    go_quiet (first | (go_at_call 86; exact Calls.quiet_of (Hc.out _ ((World.Fr.refl wr []).of_drewN _))))
    go_wp2
    refine bodyPost_ret (v := .tuple #[.slice qa vs.length qc, .int .i64 0]) (by simp [results, Tryz.results38, go_sem]) rfl ⟨_, _, _, _, _, _, by simp only [HStx.out], Hfin.out _ ((World.Fr.refl wr []).of_drewN _) (fun _ => by rw [Ho.out]; exact HB.out)⟩
   | true =>
    obtain ⟨tm, htm⟩ : ∃ t, S2.T[S2.told]? = some t := ⟨S2.T[S2.told]'HltX.out, List.getElem?_eq_getElem _⟩
    obtain ⟨gt, ot, ct, hvt, _, _⟩ := tms_at HV.out.ref.ts htm
    rw [HT2.out] at hvt
    cases hvt
    have hct := fun (W : World) (hW : wr.Fr W []) => table87 HRC.out (HV.out.still hW).ref HV.out.ok HV.out.fok HltX.out (by rw [Ho.out]; exact HB.out)
    obtain ⟨T, hT⟩ : ∃ T, tellF cf S2.X (S2.pt S2.told) = T := ⟨_, rfl⟩
    rw [hT, Ho.out] at hct
    have Hct := Hz hct; have HTl := Hz hT; have Htm := Hz htm
    clear hct hT htm
    go_quiet (first | (go_at_call 86; exact Calls.quiet_of (Hc.out _ ((World.Fr.refl wr []).of_drewN _))))
    go_wp2_with fail
    (with_reducible refine (Hct.out _ ((World.Fr.refl wr []).of_drewN _)).mono ?_)
    rintro e w1 ⟨v, rfl, htt, hf1⟩
    have hf01 := ((World.Fr.refl wr []).of_drewN _).trans hf1 (by simp)
    obtain ⟨va, vb, _, rfl, _, _⟩ := (htt.rd (HV.out.ref.fr.trans hf01 (by simp))).ex
    obtain ⟨y1, y2, y3, y4, rfl, rfl⟩ := (htt.rd (HV.out.ref.fr.trans hf01 (by simp))).forms
    have f9 := (World.Fr.refl w1 []).alloc (.cells #[.slice y1 T.vars.length y2, .slice y3 T.rows.length y4] 34)
    have q9 := heap_alloc_at w1 (.cells #[.slice y1 T.vars.length y2, .slice y3 T.rows.length y4] 34) _ rfl
    have HV1 := Hz ((HV.out.still hf01).still f9)
    have Htt := Hz (htt.still f9); have Q9 := Hz q9
    clear f9 q9 htt hf1 hf01 Hct Hc Hfin
    go_upto_region 13 with (fail)
    generalize hWW : World.alloc w1 _ = wT at *
    clear hWW e0 e1 e2 e3 e4 e5 e6 e7 e8 e9 e10 ef hz HV hbxV hd hd2
    generalize w1.heap.size = pT at *
    have HV := HV1
    clear HV1
    have hbxT := Hz HV.out.ref.box
    obtain ⟨e0, e1, e2, e3, e4, e5, e6, e7, e8, e9, e10, ef⟩ := eleven hbxT.out
    have hz := lt_of_heap hbxT.out
    rw [Ho.out] at e10
    obtain ⟨m0, m1, mf⟩ := two Q9.out
    have hzT := lt_of_heap Q9.out
    obtain ⟨gt', ot', ct', hvt, hgt, kt⟩ := tms_at HV.out.ref.ts Htm.out
    rw [HT2.out] at hvt
    cases hvt
    rw [Ho.out] at kt
    have hlenV := Hz HV.out.len
    have hvl : vs.length <= 1000 := by have := hlenV.out; have := Ho.out; omega
    have hroom : (vs.length + 1) * 64 <= 140737488355328 /\ vs.length + 1 <= 9223372036854775807 := by omega
    have hw1 : IntKind.i64.wrap ((o : Int) + 1) = (o : Int) + 1 := IntWalk.i64_in _ (by omega)
    have hmk : ∀ W, wT.Fr W (Value.slice qa vs.length qc).blk -> (W.cell? ⟨p, 10, none⟩ = some (.int .i64 o) /\ W.cell? ⟨p, 7, none⟩ = some (.slice (some ⟨gt, ot, none⟩) N d2) /\ W.cell? ⟨gt, ot + o, none⟩ = some (.int .i64 tm) /\ W.cell? ⟨pT, 0, none⟩ = some (.slice y1 T.vars.length y2) /\ W.cell? ⟨pT, 1, none⟩ = some (.slice y3 T.rows.length y4) /\ Hid (wT.Fr W (Value.slice qa vs.length qc).blk)) := fun W hW => by
     have hpo := Sl.off_box HV.out.told.sl hbxT.out (by decide)
     have hpT := Sl.off_box HV.out.told.sl Q9.out (by decide)
     have hgo : gt ∉ (Value.slice qa vs.length qc).blk := Sl.apart HV.out.ref.ts HV.out.told.sl (by decide) gt (by simp [Value.blk])
     exact ⟨cellFr hW e10 hpo, cellFr hW e7 hpo, cellFr hW kt hgo, cellFr hW m0 hpT, cellFr hW m1 hpT, Hz hW⟩
    have Hmk := Hz hmk
    clear hmk
    have HFx : Hid (wT.Fr wT (Value.slice qa vs.length qc).blk) := Hz (World.Fr.refl _ _)
    refine wp_region_E (S := (fun w' => w'.cell? ⟨p, 10, none⟩ = some (.int .i64 o) /\ w'.cell? ⟨p, 7, none⟩ = some (.slice (some ⟨gt, ot, none⟩) N d2) /\ w'.cell? ⟨gt, ot + o, none⟩ = some (.int .i64 tm) /\ w'.cell? ⟨pT, 0, none⟩ = some (.slice y1 T.vars.length y2) /\ w'.cell? ⟨pT, 1, none⟩ = some (.slice y3 T.rows.length y4) /\ Hid (wT.Fr w' (Value.slice qa vs.length qc).blk))) 19 (by kernel_rfl) ?sd (fun hHd0 => ?_)
    case sd => ((try dsimp only); (first | exact Hmk.out _ HFx.out | exact Hmk.out _ HFx.out.drew | exact Hmk.out _ (HFx.out.alloc _) | exact Hmk.out _ ((HFx.out.alloc _).drew)))
    refine wpAnyE_take (i := 0) (oi := _) (v := ?vdx74) (f := 20) rfl (by kernel_rfl) (by kernel_rfl) (by kernel_rfl) (by kernel_rfl) (by kernel_rfl) (fun _ _ _ h => h) (Or.inl ⟨by rfl, ?ydx74⟩) (by assumption) ?zdx74
    case ydx74 => (intro w hSw; (try dsimp only at hSw); go_simp; (try with_reducible rfl))
    (try simp only [Act.put, sA, sB, sC])
    refine wpAnyE_take (i := 1) (oi := _) (v := ?vdx75) (f := 20) rfl (by kernel_rfl) (by kernel_rfl) (by kernel_rfl) (by kernel_rfl) (by kernel_rfl) (fun _ _ _ h => h) (Or.inl ⟨by rfl, ?ydx75⟩) (by assumption) ?zdx75
    case ydx75 => (intro w hSw; (try dsimp only at hSw); go_simp; (try with_reducible rfl))
    (try simp only [Act.put, sA, sB, sC])
    refine wpAnyE_take (i := 2) (oi := _) (v := ?vdx76) (f := 20) rfl (by kernel_rfl) (by kernel_rfl) (by kernel_rfl) (by kernel_rfl) (by kernel_rfl) (fun _ _ _ h => h) (Or.inl ⟨by rfl, ?ydx76⟩) (by assumption) ?zdx76
    case ydx76 => (intro w hSw; (try dsimp only at hSw); go_simp; (try with_reducible rfl))
    (try simp only [Act.put, sA, sB, sC])
    refine wpAnyE_take (i := 3) (oi := _) (v := ?vdx77) (f := 20) rfl (by kernel_rfl) (by kernel_rfl) (by kernel_rfl) (by kernel_rfl) (by kernel_rfl) (fun _ _ _ h => h) (Or.inl ⟨by rfl, ?ydx77⟩) (by assumption) ?zdx77
    case ydx77 => (intro w hSw; (try dsimp only at hSw); go_simp; (try with_reducible rfl))
    (try simp only [Act.put, sA, sB, sC])
    refine wpAnyE_take (i := 4) (oi := _) (v := ?vdx78) (f := 20) rfl (by kernel_rfl) (by kernel_rfl) (by kernel_rfl) (by kernel_rfl) (by kernel_rfl) (fun _ _ _ h => h) (Or.inl ⟨by rfl, ?ydx78⟩) (by assumption) ?zdx78
    case ydx78 => (intro w hSw; (try dsimp only at hSw); go_simp; (try with_reducible rfl))
    (try simp only [Act.put, sA, sB, sC])
    refine wpAnyE_take (i := 5) (oi := _) (v := ?vdx79) (f := 20) rfl (by kernel_rfl) (by kernel_rfl) (by kernel_rfl) (by kernel_rfl) (by kernel_rfl) (fun _ _ _ h => h) (Or.inl ⟨by rfl, ?ydx79⟩) (by assumption) ?zdx79
    case ydx79 => (intro w hSw; (try dsimp only at hSw); go_simp; (try with_reducible rfl))
    (try simp only [Act.put, sA, sB, sC])
    refine wpAnyE_take (i := 6) (oi := _) (v := ?vdx80) (f := 20) rfl (by kernel_rfl) (by kernel_rfl) (by kernel_rfl) (by kernel_rfl) (by kernel_rfl) (fun _ _ _ h => h) (Or.inl ⟨by rfl, ?ydx80⟩) (by assumption) ?zdx80
    case ydx80 => (intro w hSw; (try dsimp only at hSw); go_simp; (try with_reducible rfl))
    (try simp only [Act.put, sA, sB, sC])
    refine wpAnyE_take (i := 7) (oi := _) (v := ?vdx81) (f := 20) rfl (by kernel_rfl) (by kernel_rfl) (by kernel_rfl) (by kernel_rfl) (by kernel_rfl) (fun _ _ _ h => h) (Or.inl ⟨by rfl, ?ydx81⟩) (by assumption) ?zdx81
    case ydx81 => (intro w hSw; (try dsimp only at hSw); go_simp; (try with_reducible rfl))
    (try simp only [Act.put, sA, sB, sC])
    refine wpAnyE_take (i := 8) (oi := _) (v := ?vdx82) (f := 20) rfl (by kernel_rfl) (by kernel_rfl) (by kernel_rfl) (by kernel_rfl) (by kernel_rfl) (fun _ _ _ h => h) (Or.inl ⟨by rfl, ?ydx82⟩) (by assumption) ?zdx82
    case ydx82 => (intro w hSw; (try dsimp only at hSw); go_simp; (try with_reducible rfl))
    (try simp only [Act.put, sA, sB, sC])
    refine wpAnyE_take (i := 9) (oi := _) (v := ?vdx83) (f := 20) rfl (by kernel_rfl) (by kernel_rfl) (by kernel_rfl) (by kernel_rfl) (by kernel_rfl) (fun _ _ _ h => h) (Or.inl ⟨by rfl, ?ydx83⟩) (by assumption) ?zdx83
    case ydx83 => (intro w hSw; (try dsimp only at hSw); go_simp; (try with_reducible rfl))
    (try simp only [Act.put, sA, sB, sC])
    refine wpAnyE_take (i := 10) (oi := _) (v := ?vdx84) (f := 20) rfl (by kernel_rfl) (by kernel_rfl) (by kernel_rfl) (by kernel_rfl) (by kernel_rfl) (fun _ _ _ h => h) (Or.inl ⟨by rfl, ?ydx84⟩) (by assumption) ?zdx84
    case ydx84 => (intro w hSw; (try dsimp only at hSw); go_simp; (try with_reducible rfl))
    (try simp only [Act.put, sA, sB, sC])
    refine wpAnyE_take (i := 11) (oi := _) (v := ?vdx85) (f := 20) rfl (by kernel_rfl) (by kernel_rfl) (by kernel_rfl) (by kernel_rfl) (by kernel_rfl) (fun _ _ _ h => h) (Or.inl ⟨by rfl, ?ydx85⟩) (by assumption) ?zdx85
    case ydx85 => (intro w hSw; (try dsimp only at hSw); go_simp; (try with_reducible rfl))
    (try simp only [Act.put, sA, sB, sC])
    refine wpAnyE_take (i := 12) (oi := _) (v := ?vdx86) (f := 20) rfl (by kernel_rfl) (by kernel_rfl) (by kernel_rfl) (by kernel_rfl) (by kernel_rfl) (fun _ _ _ h => h) (Or.inl ⟨by rfl, ?ydx86⟩) (by assumption) ?zdx86
    case ydx86 => (intro w hSw; (try dsimp only at hSw); go_simp; (try with_reducible rfl))
    (try simp only [Act.put, sA, sB, sC])
    refine wpAnyE_take (i := 13) (oi := _) (v := ?vdx87) (f := 20) rfl (by kernel_rfl) (by kernel_rfl) (by kernel_rfl) (by kernel_rfl) (by kernel_rfl) (fun _ _ _ h => h) (Or.inl ⟨by rfl, ?ydx87⟩) (by assumption) ?zdx87
    case ydx87 => (intro w hSw; (try dsimp only at hSw); go_simp; (try with_reducible rfl))
    (try simp only [Act.put, sA, sB, sC])
    refine wpAnyE_take (i := 14) (oi := _) (v := ?vdx88) (f := 20) rfl (by kernel_rfl) (by kernel_rfl) (by kernel_rfl) (by kernel_rfl) (by kernel_rfl) (fun _ _ _ h => h) (Or.inl ⟨by rfl, ?ydx88⟩) (by assumption) ?zdx88
    case ydx88 => (intro w hSw; (try dsimp only at hSw); go_simp; (try with_reducible rfl))
    (try simp only [Act.put, sA, sB, sC])
    refine wpAnyE_take (i := 15) (oi := _) (v := ?vdx89) (f := 20) rfl (by kernel_rfl) (by kernel_rfl) (by kernel_rfl) (by kernel_rfl) (by kernel_rfl) (fun _ _ _ h => h) (Or.inl ⟨by rfl, ?ydx89⟩) (by assumption) ?zdx89
    case ydx89 => (intro w hSw; (try dsimp only at hSw); go_simp; (try with_reducible rfl))
    (try simp only [Act.put, sA, sB, sC])
    refine wpAnyE_take (i := 16) (oi := _) (v := ?vdx90) (f := 20) rfl (by kernel_rfl) (by kernel_rfl) (by kernel_rfl) (by kernel_rfl) (by kernel_rfl) (fun _ _ _ h => h) (Or.inl ⟨by rfl, ?ydx90⟩) (by assumption) ?zdx90
    case ydx90 => (intro w hSw; (try dsimp only at hSw); go_simp; (try with_reducible rfl))
    (try simp only [Act.put, sA, sB, sC])
    refine wpAnyE_step (i := 17) (o := _) (by kernel_rfl) rfl (fun K hK => ?_)
    go_simp
    refine hK.out _ _ (fun _ => ?sdx91) (fun hHdx91q => ?_)
    case sdx91 => ((try dsimp only); (first | exact Hmk.out _ HFx.out | exact Hmk.out _ HFx.out.drew | exact Hmk.out _ (HFx.out.alloc _) | exact Hmk.out _ ((HFx.out.alloc _).drew)))
    have hHdx91 := hHdx91q (by decide)
    clear hK K hHd0 hHdx91q
    (try simp only [Act.put, sA, sB, sC])
    refine wpAnyE_step (i := 18) (o := _) (by kernel_rfl) rfl (fun K hK => ?_)
    (refine step_append_one _ rfl (.tmp 137) (.tmp 154) 62 rfl 74 iv (.agg #[.int .i64 0, .int .i64 0, .slice none 0 0, .slice none 0 0]) 4 64 Tryz.underlying62 hiv hv0 hv1 hv2 rfl (.slice qa vs.length qc) vs.length (vs.flatMap Vd.cells) (by simp [Act.eval]) ((HV.out.told.sl).fr (((World.Fr.refl wT []).alloc (.cells #[.int .i64 o, .int .i64 tm, .slice y1 T.vars.length y2, .slice y3 T.rows.length y4] 74)).drew) (by simp)) wT.heap.size 1 [.int .i64 o, .int .i64 tm, .slice y1 T.vars.length y2, .slice y3 T.rows.length y4] 74 (by simp [Act.eval]) (heap_alloc_at wT _ _ rfl) rfl rfl hroom ?_; intro g3 off3 c3 w11 hsl hfr hat hlt5; have hal := ((World.Fr.refl wT []).alloc (.cells #[.int .i64 o, .int .i64 tm, .slice y1 T.vars.length y2, .slice y3 T.rows.length y4] 74)).drew; have hfb := (hal.mono (L' := (Value.slice qa vs.length qc).blk) (by simp)).trans hfr (fun k hk => .inl hk); have hb11 := hfb.heap hbxT.out (Sl.off_box (HV.out.told.sl) hbxT.out (by decide)); obtain ⟨d0, d1, d2, d3, d4, d5, d6, d7, d8, d9, d10, df⟩ := eleven hb11; have hz11 := lt_of_heap hb11; have HSl := Hz hsl; have HFb := Hz hfb; have HAt := Hz hat; have HFx := Hz hfb; clear hsl hfr hat hal hfb hb11)
    refine hK.out _ _ (fun _ => ?sdx92) (fun hHdx92q => ?_)
    case sdx92 => ((try dsimp only); (first | exact Hmk.out _ HFx.out | exact Hmk.out _ HFx.out.drew | exact Hmk.out _ (HFx.out.alloc _) | exact Hmk.out _ ((HFx.out.alloc _).drew)))
    have hHdx92 := hHdx92q (by decide)
    clear hK K hHdx91 hHdx92q
    (try simp only [Act.put, sA, sB, sC])
    refine wpAnyE_step (i := 19) (o := _) (by kernel_rfl) rfl (fun K hK => ?_)
    go_simp
    refine hK.out _ _ (fun hne => absurd rfl hne) (fun _ => ?_)
    clear hK K hHdx92
    (try simp only [Act.put, sA, sB, sC])
    refine wpAnyE_done (by kernel_rfl) ?_ _
    have hnew : ∀ k, k ∈ (Value.slice (some ⟨g3, off3, none⟩) (vs.length + 1) c3).blk -> k ∈ (Value.slice qa vs.length qc).blk ∨ wT.heap.size <= k := fun k hk => by
     simp [Value.blk] at hk
     subst hk
     rcases HAt.out with h | h
     ·exact .inl h
     ·exact .inr (by simp at h; omega)
    have hstep := HV.out.step HltX.out (by rw [Ho.out]; exact HB.out) Htm.out HTl.out.symm HFb.out (a := .slice y1 T.vars.length y2) (b := .slice y3 T.rows.length y4) (by rw [Ho.out]; exact HSl.out) hnew (Htt.out.fr HFb.out HV.out.told.odd)
    rw [show ((S2.told + 1 : Nat) : Int) = (o : Int) + 1 by rw [Ho.out]; rfl] at hstep
    have HS := Hz hstep
    rw [Ho.out] at d10
    clear hstep hnew Hmk HFx e0 e1 e2 e3 e4 e5 e6 e7 e8 e9 e10 ef hz m0 m1 mf hzT kt hgt
    go_wp2
    go_roundw
    case rel => exact ⟨S2.off, _, _, rfl, HS⟩
    case measure => simp [vlen]; omega
  ·have hd : decide ((o : Int) < (N : Int)) = false := decide_eq_false (by omega)
   have hd2 : decide (o < N) = false := decide_eq_false hlt
   have Hno := Hz (show S2.told < S2.T.length -> settledB S2.X (S2.pt S2.told) = false from fun h => absurd h (by rw [Ho.out, HT2.out]; exact hlt))
   clear hlt
   go_quiet (fail)
   go_wp2
   refine bodyPost_ret (v := .tuple #[.slice qa vs.length qc, .int .i64 0]) (by simp [results, Tryz.results38, go_sem]) rfl ⟨_, _, _, _, _, _, by simp only [HStx.out], Hfin.out _ ((World.Fr.refl wr []).of_drewN _) Hno.out⟩
end Go.Proofs.YtbejmdlncnkaaaaGreat
