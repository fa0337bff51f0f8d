/-
  The reference of the past: a point more.
-/
import Derived.Test.YtbejmdlncnkaaaaGreatXQR
import Derived.Test.YtbejmdlncnkaaaaGreatXQL
import Derived.Test.YtbejmdlncnkaaaaGreatHE
import Derived.Test.YtbejmdlncnkaaaaGreatRmB
import Derived.Test.YtbejmdlncnkaaaaGreatRfZ
import Derived.StillTailTactics
set_option maxRecDepth 100000
set_option maxHeartbeats 16000000
set_option linter.unusedSimpArgs false
namespace Go.Proofs.YtbejmdlncnkaaaaGreat
open Go.RowKit
theorem info2 : (Tryz.prog.info? 2).map (fun i => (i.zero, i.size, i.bytes)) = some (some (.int .i64 0), 1, 8) := by kernel_rfl
theorem RefP.off34 {w0 w w' : World} {p : Nat} {S : RP} {vl vr vt vL vR : Value} {g : Nat} {cs : Array Value} (h : RefP w0 w p S vl vr vt vL vR) (hg : w.heap[g]? = some (.cells cs 34 (0, 0))) (hn : g ∉ vL.blk ++ vR.blk) (h0 : w0.heap.size <= g) (hf : w.Fr w' [g]) : RefP w0 w' p S vl vr vt vL vR := by
 obtain ⟨xl, hl⟩ := h.l.sl
 obtain ⟨xr, hr⟩ := h.r.sl
 have hp : p ≠ g := fun e => by
  subst e
  have := h.box
  rw [hg] at this
  cases this
 have k : ∀ {e : TypeId} {size n : Nat} {v : Value} {xs : List Value}, w.Sl e size v n xs -> e ≠ 34 -> ∀ k, k ∈ v.blk -> k ∉ [g] := fun hs he k hk hm => by
  simp at hm
  subst hm
  exact Sl.off_box hs hg he hk
 exact ⟨hf.heap h.box (by simpa using hp), ⟨h.nl.sl.fr hf (k h.nl.sl (by decide)), h.nl.wf, h.nl.blk⟩, ⟨h.nr.sl.fr hf (k h.nr.sl (by decide)), h.nr.wf, h.nr.blk⟩, h.ts.fr hf (k h.ts (by decide)), h.l.fr hf (fun k hk hm => by simp at hm; subst hm; exact hn (List.mem_append.2 (.inl hk))), h.r.fr hf (fun k hk hm => by simp at hm; subst hm; exact hn (List.mem_append.2 (.inr hk))), h.dj, h.new, h.fr.trans hf (fun k hk => .inr (by simp at hk; subst hk; exact h0))⟩
structure UBQ (w wr : World) (p6 p11 : Nat) (xa xb : Value) (t : Tb) : Prop where
 fr : w.Fr wr []
 b6 : wr.heap[p6]? = some (.cells #[.slice none 0 0, .slice none 0 0] 34 (0, 0))
 b11 : wr.heap[p11]? = some (.cells #[xa, xb] 34 (0, 0))
 sl : TabIn anyB wr (.agg #[xa, xb]) t
theorem UBQ.still {w wr w' : World} {p4 p5 : Nat} {xa xb : Value} {t : Tb} (h : UBQ w wr p4 p5 xa xb t) (hf : wr.Fr w' []) : UBQ w w' p4 p5 xa xb t := ⟨h.fr.trans hf (by simp), hf.heap h.b6 (by simp), hf.heap h.b11 (by simp), h.sl.still hf⟩
theorem UBQ.off {w wr w' : World} {p4 p5 b : Nat} {xa xb : Value} {t : Tb} {cs : Array Value} (h : UBQ w wr p4 p5 xa xb t) (hf : wr.Fr w' [b]) (hb : wr.heap[b]? = some (.cells cs 34 (0, 0))) (h4 : p4 ≠ b) (h5 : p5 ≠ b) (hw : w.heap.size <= b) : UBQ w w' p4 p5 xa xb t :=
 ⟨h.fr.trans hf (fun k hk => .inr (by simp at hk; subst hk; exact hw)), hf.heap h.b6 (by simpa using h4), hf.heap h.b11 (by simpa using h5), h.sl.fr hf (Odd.one hb (by decide))⟩
theorem RP.tell_none {cf : V -> V -> Int} {S : RP} {n : Int} (hk : S.kind = 11) (hN : S.T.length = 1) : S.tell cf n = ⟨S.right, []⟩ := by
 unfold RP.tell
 rw [if_pos hk, if_neg (fun h => by omega)]
theorem RP.tell_prev {cf : V -> V -> Int} {S : RP} {n t : Int} {r : Tb} {J : Nat} (hk : S.kind = 11) (hN : S.T.length = J + 2) (ht : S.T[J]? = some t) (hr : S.R[J]? = some r) : S.tell cf n = if inB (n - t) S.i then r else ⟨S.right, []⟩ := by
 unfold RP.tell
 have e : S.T.length - 2 = J := by omega
 rw [if_pos hk, e, List.getD_eq_getElem?_getD, List.getD_eq_getElem?_getD, ht, hr]
 show (if 1 < S.T.length /\ inB (n - t) S.i = true then r else _) = _
 by_cases hin : inB (n - t) S.i = true
 ·rw [if_pos ⟨by omega, hin⟩, if_pos hin]
 ·rw [if_neg (fun h => hin h.2), if_neg hin]
theorem RP.tell_since {cf : V -> V -> Int} {S : RP} {n : Int} (hk : S.kind ≠ 11) : S.tell cf n = sinceO cf S.i n ⟨S.right, []⟩ (S.all cf) := by
 unfold RP.tell
 rw [if_neg hk]
noncomputable def RP.heldM (cf : V -> V -> Int) (S : RP) (j m : Nat) : Tb := ((S.L.drop (j + 1)).take m).foldl (holdT cf S.nt) (S.R.getD j ⟨[], []⟩)
theorem RP.heldM_zero {cf : V -> V -> Int} {S : RP} {j : Nat} {r : Tb} (h : S.R[j]? = some r) : S.heldM cf j 0 = r := by
 unfold RP.heldM
 rw [List.take_zero, List.getD_eq_getElem?_getD, h]
 rfl
theorem RP.heldM_step {cf : V -> V -> Int} {S : RP} {j m : Nat} {l : Tb} (h : S.L[j + 1 + m]? = some l) : S.heldM cf j (m + 1) = holdT cf S.nt (S.heldM cf j m) l := by
 have h' : (S.L.drop (j + 1))[m]? = some l := by rw [List.getElem?_drop]; exact h
 unfold RP.heldM
 rw [List.take_add_one, h']
 simp
theorem RP.heldM_good {cf : V -> V -> Int} (hO : OrdOk okW cf) {S : RP} (h : RPOk cf S) (h15 : S.kind = 15) {j m : Nat} (hj : j < S.T.length) : Good cf (S.heldM cf j m) /\ (S.heldM cf j m).vars = S.right /\ (S.heldM cf j m).rows.length <= 600 := by
 have hjR : j < S.R.length := by rw [h.lr]; exact hj
 have e : S.R.getD j ⟨[], []⟩ = S.R[j] := by rw [List.getD_eq_getElem?_getD, List.getElem?_eq_getElem hjR]; rfl
 have hk := h.good _ (List.getElem_mem hjR)
 unfold RP.heldM
 rw [e]
 refine foldl_hold hO _ _ hk (fun a ha => ?_)
 obtain ⟨g1, g2, _⟩ := h.goodl h15 a (List.mem_of_mem_drop (List.mem_of_mem_take ha))
 exact ⟨g1, fun s hs => h.sub s (by rw [<- g2]; exact hs)⟩
theorem RP.heldM_all {cf : V -> V -> Int} {S : RP} (h15 : S.kind = 15) {j m : Nat} (hm : S.L.length = j + 1 + m) : S.heldM cf j m = S.heldAt cf j := by
 unfold RP.heldM RP.heldAt
 rw [if_pos h15, List.take_of_length_le (by simp; omega)]
theorem RP.heldM_not {cf : V -> V -> Int} {S : RP} (h15 : S.kind ≠ 15) {j : Nat} : S.heldM cf j 0 = S.heldAt cf j := by
 unfold RP.heldM RP.heldAt
 rw [if_neg h15, List.take_zero]
 rfl
theorem rstep26 {cf : V -> V -> Int} (hRC : RCtx cf) {w0 w : World} {p : Nat} {S : RP} {vl vr vt vL vR v : Value} {ts : List Tb} {n : Int} (h : RefP w0 w p S vl vr vt vL vR) (hO : RPOk cf S) (ht : RdTabs w0 v ts) (hts : ts.length <= 1048576) (hf : ∀ t, t ∈ ts -> Fits V.wf t) (hmany : S.T.length + 1 <= 1000) (hrows : wrongP cf (S.X cf) n ts = 0 -> ∀ t, t ∈ ts -> t.rows.length <= 600) :
  Calls Tryz.prog 26 #[.pointer (some ⟨p, 0, none⟩), .int .i64 n, v] w fun e w' => ∃ u S' vt' vL' vR', e = .returned (.tuple #[u, .int .i64 (stepP cf (S.X cf) n ts).1]) /\ ROutP cf w0 w w' p S vl vr vt vL vR n ts u S' vt' vL' vR' := by
 obtain ⟨v1, v2, rfl⟩ := ht.shape
 obtain ⟨a1, a2, rfl, _, _⟩ := h.nl.sl.shape
 obtain ⟨b1, b2, rfl, _, _⟩ := h.nr.sl.shape
 obtain ⟨t1, t2, hvt, _, _⟩ := h.ts.shape
 obtain ⟨_, hlsl⟩ := h.l.sl
 obtain ⟨_, hrsl⟩ := h.r.sl
 obtain ⟨l1, l2, hvL, hlc, _⟩ := hlsl.shape
 obtain ⟨r1, r2, hvR, hrc, _⟩ := hrsl.shape
 have hlt : w.heap.size ∉ p :: (vt.blk ++ (vL.blk ++ vR.blk)) := fun hm => by
  simp only [List.mem_cons, List.mem_append] at hm
  rcases hm with hm | hm | hm | hm
  ·have := lt_of_heap h.box; omega
  ·have := h.ts.lt _ hm; omega
  ·have := hlsl.lt _ hm; omega
  ·have := hrsl.lt _ hm; omega
 clear hlsl hrsl
 subst hvt hvL hvR
 have q6 := heap_alloc_at w (.cells #[.slice none 0 0, .slice none 0 0] 34) _ rfl
 have f6 := (World.Fr.refl w []).alloc (.cells #[.slice none 0 0, .slice none 0 0] 34)
 have h := h.still f6
 have h06 : w0.heap.size <= w.heap.size := by
  have h1 := h.new p (by simp)
  have h2 := lt_of_heap h.box
  have : (w.alloc (.cells #[.slice none 0 0, .slice none 0 0] 34)).heap.size = w.heap.size + 1 := by simp
  omega
 have H := Hz h; have HRC := Hz hRC; have HO := Hz hO; have HT := Hz ht; have Hts := Hz hts; have Hf := Hz hf; have Hm := Hz hmany; have Hr := Hz hrows; have Q6 := Hz q6; have F6 := Hz f6; have Hp6 := Hz hlt; have H06 := Hz h06
 have Hs6 : Hid (w.heap.size < (w.alloc (.cells #[.slice none 0 0, .slice none 0 0] 34)).heap.size) := Hz (lt_of_heap q6)
 clear h hRC hO ht hts hf hmany hrows q6 f6 hlt h06
 go_enter Tryz.func26, Tryz.ntmps26
 go_upto_region 1 with (fail)
 generalize hW : World.alloc w _ = w1 at *
 clear hW
 generalize hp6 : w.heap.size = p6 at Q6 Hp6 H06 Hs6 ⊢
 have HPp := Hz hp6
 clear hp6
 obtain ⟨e0, e1, e2, e3, e4, e5, e6, e7, e8, e9, ef⟩ := ten H.out.box
 have hz := lt_of_heap H.out.box
 have H73 := Hz (fun (W : World) (hW : w1.Fr W []) => last73 (H.out.ts.fr hW (by simp)) HO.out.many)
 have hw72 : ∀ (W : World) (vv : Value) (vs : List (List BA)), w1.Fr W [] -> RdNs W vv vs -> vs = (if S.kind = 15 then [S.left, S.right] else [S.right]) -> Calls Tryz.prog 72 #[.int .i64 (lastI S.T), .int .i64 n, .slice v1 ts.length v2, vv] W fun e w' => e = .returned (.int .i64 (wrongP cf (S.X cf) n ts)) /\ W.Fr w' [] := fun W vv vs hW hvv hvs => by
  have hc := wrong72 (cf := cf) HRC.out (w := W) (last := lastI S.T) (n := n) (HT.out.still (H.out.fr.trans hW (by simp))) hvv (by have := Hts.out; omega) (by rw [hvs]; split <;> simp) (fun l hl => by
   have h8 := HO.out.le8
   rw [hvs] at hl
   split at hl
   ·simp at hl
    rcases hl with rfl | rfl
    ·exact h8.1
    ·exact h8.2
   ·simp at hl
    subst hl
    exact h8.2) Hf.out
  have he : rwrong cf (lastI S.T) n ts vs = wrongP cf (S.X cf) n ts := by
   rw [hvs]
   by_cases hk : S.kind = 15
   ·rw [if_pos hk]
    exact rwrong_two (S := (S.X cf).ps) (by show (if S.kind = 15 then (2 : Int) else 1) = 2; rw [if_pos hk])
   ·rw [if_neg hk]
    exact rwrong_one (S := (S.X cf).ps) (by show (if S.kind = 15 then (2 : Int) else 1) = 1; rw [if_neg hk])
  rw [he] at hc
  exact hc
 have HW72 := Hz hw72
 clear hw72
 have q8 := heap_alloc_at w1 (.cells #[.slice b1 S.right.length b2] 24) _ rfl
 have f8 := (World.Fr.refl w1 []).alloc (.cells #[.slice b1 S.right.length b2] 24)
 have Q8 := Hz q8; have F8 := Hz f8
 clear q8 f8
 go_upto_region 2 with (fail)
 generalize hW : World.alloc w1 _ = w8 at *
 clear hW
 generalize w1.heap.size = b8 at Q8 ⊢
 have hbx := F8.out.heap H.out.box (by simp)
 clear e0 e1 e2 e3 e4 e5 e6 e7 e8 e9 ef hz
 obtain ⟨e0, e1, e2, e3, e4, e5, e6, e7, e8, e9, ef⟩ := ten hbx
 have hz := lt_of_heap hbx
 clear hbx
 go_upto_if 25 with (fail)
 go_cut [8] from 24 to 34 (fun s8 wx => ∃ vv, vv = s8 /\ Hid (w1.Fr wx [] /\ ∃ vs, RdNs wx vv vs /\ vs = (if S.kind = 15 then [S.left, S.right] else [S.right])))
 case first =>
  by_cases hk : S.kind = 15
  ·have hkb : (S.kind == 15) = true := by simp [hk]
   have Hk := Hz hk
   clear hk
   have f9 := ((World.Fr.refl w8 []).alloc (.cells #[.slice a1 S.left.length a2, .slice b1 S.right.length b2] 24))
   have q9 := heap_alloc_at w8 (.cells #[.slice a1 S.left.length a2, .slice b1 S.right.length b2] 24) _ rfl
   have hfin : w1.Fr (w8.alloc (.cells #[.slice a1 S.left.length a2, .slice b1 S.right.length b2] 24)) [] /\ ∃ vs, RdNs (w8.alloc (.cells #[.slice a1 S.left.length a2, .slice b1 S.right.length b2] 24)) (.slice (some ⟨w8.heap.size, 0, none⟩) 2 2) vs /\ vs = (if S.kind = 15 then [S.left, S.right] else [S.right]) :=
    ⟨F8.out.trans f9 (by simp), _, rdns_two q9 (H.out.nl.rd.fr (F8.out.trans f9 (by simp)) (by simp)) (H.out.nr.rd.fr (F8.out.trans f9 (by simp)) (by simp)), by rw [if_pos Hk.out]⟩
   have Hfin := Hz hfin
   clear f9 q9 hfin
   go_upto_region 3 with (fail)
   go_region_with (fail)
   all_goals
    go_wp2_with fail
    go_meet
    case rel => exact ⟨_, rfl, Hz ⟨Hfin.out.1.drew, by obtain ⟨vs, h1, h2⟩ := Hfin.out.2; exact ⟨vs, h1.still ((World.Fr.refl _ []).drew), h2⟩⟩⟩
  ·have hkb : (S.kind == 15) = false := by simpa using hk
   have Hk := Hz hk
   clear hk
   go_wp2_with fail
   go_meet
   case rel => exact ⟨_, rfl, Hz ⟨F8.out, [S.right], rdns_one Q8.out (H.out.nr.rd.fr F8.out (by simp)), by rw [if_neg Hk.out]⟩⟩
 case rest =>
 obtain ⟨vv, hvv, hcut⟩ := hcut
 subst hvv
 obtain ⟨hfr, vs, hns, hvs⟩ := hcut.out
 clear hcut e0 e1 e2 e3 e4 e5 e6 e7 e8 e9 ef hz Q8 F8
 have hbx := hfr.heap H.out.box (by simp)
 obtain ⟨e0, e1, e2, e3, e4, e5, e6, e7, e8, e9, ef⟩ := ten hbx
 have hz := lt_of_heap hbx
 have k1 := Hz (H73.out wc hfr)
 have k2 := HW72.out wc vv vs hfr hns hvs
 have hbad : wrongP cf (S.X cf) n ts ≠ 0 -> stepP cf (S.X cf) n ts = (wrongP cf (S.X cf) n ts, ⟨[], []⟩, S.X cf) := fun h => by unfold stepP; rw [if_neg h]
 obtain ⟨E, hE⟩ : ∃ E, wrongP cf (S.X cf) n ts = E := ⟨_, rfl⟩
 rw [hE] at k2 hbad
 have k2 := Hz k2; have HE := Hz hE; have HBad := Hz hbad; have FR := Hz hfr
 clear hE hbad hfr hns hvs hbx
 go_wp2_with fail
 (with_reducible refine k1.out.mono ?_)
 rintro e w9 ⟨rfl, rfl⟩
 go_wp2_with fail
 (with_reducible refine k2.out.mono ?_)
 rintro e w10 ⟨rfl, fx⟩
 have FR := Hz (FR.out.trans fx (by simp))
 clear k1 k2 fx e0 e1 e2 e3 e4 e5 e6 e7 e8 e9 ef hz
 have h10 := H.out.still FR.out
 have q6 := FR.out.heap Q6.out (by simp)
 have H610 : Hid (p6 < w10.heap.size) := Hz (lt_of_heap q6)
 have hn6 : p6 ∉ (Value.slice l1 S.L.length l2).blk ++ (Value.slice r1 S.R.length r2).blk := fun hm => Hp6.out (by
  rw [List.mem_append] at hm
  simp only [List.mem_cons, List.mem_append]
  rcases hm with h | h
  ·exact .inr (.inr (.inl h))
  ·exact .inr (.inr (.inr h)))
 by_cases hE0 : E ≠ 0
 ·have hb : (E != 0) = true := by simpa using hE0
  have hb2 : (E == 0) = false := by simpa using hE0
  have hbd := HBad.out hE0
  have hs := ((World.Fr.refl w10 [p6]).setCell (a := ⟨p6, 0, none⟩) (.inl (by simp)) (.slice none 0 0)).setCell (a := ⟨p6, 1, none⟩) (.inl (by simp)) (.slice none 0 0)
  have hout : ROutP cf w0 w ((w10.setCell ⟨p6, 0, none⟩ (.slice none 0 0)).setCell ⟨p6, 1, none⟩ (.slice none 0 0)) p S (.slice a1 S.left.length a2) (.slice b1 S.right.length b2) (.slice t1 S.T.length t2) (.slice l1 S.L.length l2) (.slice r1 S.R.length r2) n ts (.agg #[.slice none 0 0, .slice none 0 0]) S (.slice t1 S.T.length t2) (.slice l1 S.L.length l2) (.slice r1 S.R.length r2) :=
   ⟨h10.off34 q6 hn6 H06.out hs, HO.out, by rw [hbd]; exact .inr (TabIn.none _ _), by rw [hbd], (F6.out.trans FR.out (by simp)).mono (by simp) |>.trans hs (fun k hk => .inr (by simp at hk; subst hk; exact Nat.le_of_eq HPp.out)), by omega, fun k hk => .inl hk⟩
  have hb6 := two (heap_set_same (heap_set_same q6 0 (.slice none 0 0)) 1 (.slice none 0 0))
  obtain ⟨m0, m1, mf⟩ := two q6
  have hz6 := lt_of_heap q6
  have Hout := Hz hout; have HBd := Hz hbd; have HB6 := Hz hb6
  clear hbd hout hE0 hs hb6 q6 h10
  go_wp2
  obtain ⟨f0, f1, _⟩ := HB6.out
  refine bodyPost_ret (v := .tuple #[.agg #[.slice none 0 0, .slice none 0 0], .int .i64 E]) (by simp [results, Tryz.results26, go_sem, f0, f1]) rfl ⟨_, _, _, _, _, by rw [HBd.out], Hout.out⟩
 have hE0 : E = 0 := Classical.not_not.1 hE0
 subst hE0
 obtain ⟨e0, e1, e2, e3, e4, e5, e6, e7, e8, e9, ef⟩ := ten h10.box
 have hz := lt_of_heap h10.box
 clear q6 hn6
 go_upto_region 7 with (fail)
 have hpar : S.parts = 1 ∨ S.parts = 2 := by unfold RP.parts; split <;> simp
 obtain ⟨_, _, _, hpl, hchk, _⟩ := wrongE_zero (S := (S.X cf).ps) hpar HE.out
 simp only [PX.ps] at hpl
 obtain ⟨ta, hta⟩ : ∃ t, ts[0]? = some t := ⟨ts[0]'(by omega), List.getElem?_eq_getElem _⟩
 obtain ⟨M, hM⟩ : ∃ M, ts.length - 1 = M := ⟨_, rfl⟩
 obtain ⟨tb, htb⟩ : ∃ t, ts[M]? = some t := ⟨ts[M]'(by omega), List.getElem?_eq_getElem _⟩
 have hwM : IntKind.i64.wrap ((ts.length : Int) - 1) = (M : Int) := by rw [IntWalk.i64_in _ (by omega)]; omega
 have hMI : (M : Int) < (ts.length : Int) := by omega
 have hM0 : (0 : Int) <= (M : Int) := by omega
 have h0I : (0 : Int) < (ts.length : Int) := by omega
 have h0N : 0 < ts.length := by omega
 have hMN : M < ts.length := by omega
 obtain ⟨g, off, c, x1, x2, x3, x4, hv, hg, ka, kb, hra⟩ := HT.out.at hta
 cases hv
 obtain ⟨g', off', c', y1, y2, y3, y4, hv, _, kc, kd, hrb⟩ := HT.out.at htb
 cases hv
 simp only [Nat.zero_mul, Nat.add_zero] at ka kb
 have HTA := Hz hta; have HTB := Hz htb; have HRa := Hz hra; have HRb := Hz hrb; have HM := Hz hM
 have Hg := Hz hg; have Ka := Hz ka; have Kb := Hz kb; have Kc := Hz kc; have Kd := Hz kd
 have HPar := Hz (And.intro hpl hpar)
 clear hta htb hra hrb hpl hchk hpar hM hg ka kb kc kd
 obtain ⟨i2, hi2, hv0, hv1, hv2⟩ := info_parts info2
 obtain ⟨ig, hig, hg0, hg1, hg2⟩ := info_parts info34
 have hroom : (S.T.length + 1) * 8 <= 140737488355328 /\ S.T.length + 1 <= 9223372036854775807 := by have := Hm.out; omega
 have H10 := Hz h10
 have hbx10 := Hz h10.box
 clear h10
 go_cut [2] from 48 to 68 (fun s2 wx => s2 = .slice (some ⟨g, off, none⟩) ts.length v2 /\ ∃ vt', Hid (w10.Fr wx (p :: (Value.slice t1 S.T.length t2).blk) /\ (∀ k, k ∈ vt'.blk -> k ∈ (Value.slice t1 S.T.length t2).blk ∨ w10.heap.size <= k) /\ RefP w0 wx p { S with T := S.T ++ [n] } (.slice a1 S.left.length a2) (.slice b1 S.right.length b2) vt' (.slice l1 S.L.length l2) (.slice r1 S.R.length r2)))
 case first =>
  have hmk : ∀ W, w10.Fr W (Value.slice t1 S.T.length S.T.length).blk -> (W.cell? ⟨p, 7, none⟩ = some (.slice t1 S.T.length t2) /\ Hid (w10.Fr W (Value.slice t1 S.T.length S.T.length).blk)) := fun W hW => ⟨cellFr hW e7 (Sl.off_box (World.Sl.cut H10.out.ts) hbx10.out (by decide)), Hz hW⟩
  have Hmk := Hz hmk
  clear hmk
  have HFx : Hid (w10.Fr w10 (Value.slice t1 S.T.length S.T.length).blk) := Hz (World.Fr.refl _ _)
  refine wp_region_E (S := (fun w' => w'.cell? ⟨p, 7, none⟩ = some (.slice t1 S.T.length t2) /\ Hid (w10.Fr w' (Value.slice t1 S.T.length S.T.length).blk))) 21 (by kernel_rfl) ?sa (fun hHa0 => ?_)
  case sa => ((try dsimp only); (first | exact Hmk.out _ HFx.out | exact Hmk.out _ HFx.out.drew | exact Hmk.out _ (HFx.out.alloc _) | exact Hmk.out _ ((HFx.out.alloc _).drew)))
  refine tE (i := 0) (v := ?vax1) (f := 22) rfl (by kernel_rfl) (.inl ⟨by rfl, ?yax1⟩) (fun _ _ _ h => h) (by assumption) ?zax1
  case yax1 => (intro w hSw; (try dsimp only at hSw); go_simp; (try with_reducible rfl))
  (try simp only [Act.put, sA, sB, sC])
  refine tE (i := 1) (v := ?vax2) (f := 22) rfl (by kernel_rfl) (.inl ⟨by rfl, ?yax2⟩) (fun _ _ _ h => h) (by assumption) ?zax2
  case yax2 => (intro w hSw; (try dsimp only at hSw); go_simp; (try with_reducible rfl))
  (try simp only [Act.put, sA, sB, sC])
  refine tE (i := 2) (v := ?vax3) (f := 22) rfl (by kernel_rfl) (.inl ⟨by rfl, ?yax3⟩) (fun _ _ _ h => h) (by assumption) ?zax3
  case yax3 => (intro w hSw; (try dsimp only at hSw); go_simp; (try with_reducible rfl))
  (try simp only [Act.put, sA, sB, sC])
  refine tE (i := 3) (v := ?vax4) (f := 22) rfl (by kernel_rfl) (.inl ⟨by rfl, ?yax4⟩) (fun _ _ _ h => h) (by assumption) ?zax4
  case yax4 => (intro w hSw; (try dsimp only at hSw); go_simp; (try with_reducible rfl))
  (try simp only [Act.put, sA, sB, sC])
  refine tE (i := 4) (v := ?vax5) (f := 22) rfl (by kernel_rfl) (.inl ⟨by rfl, ?yax5⟩) (fun _ _ _ h => h) (by assumption) ?zax5
  case yax5 => (intro w hSw; (try dsimp only at hSw); go_simp; (try with_reducible rfl))
  (try simp only [Act.put, sA, sB, sC])
  refine tE (i := 5) (v := ?vax6) (f := 22) rfl (by kernel_rfl) (.inl ⟨by rfl, ?yax6⟩) (fun _ _ _ h => h) (by assumption) ?zax6
  case yax6 => (intro w hSw; (try dsimp only at hSw); go_simp; (try with_reducible rfl))
  (try simp only [Act.put, sA, sB, sC])
  refine tE (i := 6) (v := ?vax7) (f := 22) rfl (by kernel_rfl) (.inl ⟨by rfl, ?yax7⟩) (fun _ _ _ h => h) (by assumption) ?zax7
  case yax7 => (intro w hSw; (try dsimp only at hSw); go_simp; (try with_reducible rfl))
  (try simp only [Act.put, sA, sB, sC])
  refine tE (i := 7) (v := ?vax8) (f := 22) rfl (by kernel_rfl) (.inl ⟨by rfl, ?yax8⟩) (fun _ _ _ h => h) (by assumption) ?zax8
  case yax8 => (intro w hSw; (try dsimp only at hSw); go_simp; (try with_reducible rfl))
  (try simp only [Act.put, sA, sB, sC])
  refine tE (i := 8) (v := ?vax9) (f := 22) rfl (by kernel_rfl) (.inl ⟨by rfl, ?yax9⟩) (fun _ _ _ h => h) (by assumption) ?zax9
  case yax9 => (intro w hSw; (try dsimp only at hSw); go_simp; (try with_reducible rfl))
  (try simp only [Act.put, sA, sB, sC])
  refine tE (i := 9) (v := ?vax10) (f := 22) rfl (by kernel_rfl) (.inl ⟨by rfl, ?yax10⟩) (fun _ _ _ h => h) (by assumption) ?zax10
  case yax10 => (intro w hSw; (try dsimp only at hSw); go_simp; (try with_reducible rfl))
  (try simp only [Act.put, sA, sB, sC])
  refine tE (i := 10) (v := ?vax11) (f := 22) rfl (by kernel_rfl) (.inl ⟨by rfl, ?yax11⟩) (fun _ _ _ h => h) (by assumption) ?zax11
  case yax11 => (intro w hSw; (try dsimp only at hSw); go_simp; (try with_reducible rfl))
  (try simp only [Act.put, sA, sB, sC])
  refine tE (i := 11) (v := ?vax12) (f := 22) rfl (by kernel_rfl) (.inl ⟨by rfl, ?yax12⟩) (fun _ _ _ h => h) (by assumption) ?zax12
  case yax12 => (intro w hSw; (try dsimp only at hSw); go_simp; (try with_reducible rfl))
  (try simp only [Act.put, sA, sB, sC])
  refine tE (i := 12) (v := ?vax13) (f := 22) rfl (by kernel_rfl) (.inl ⟨by rfl, ?yax13⟩) (fun _ _ _ h => h) (by assumption) ?zax13
  case yax13 => (intro w hSw; (try dsimp only at hSw); go_simp; (try with_reducible rfl))
  (try simp only [Act.put, sA, sB, sC])
  refine tE (i := 13) (v := ?vax14) (f := 22) rfl (by kernel_rfl) (.inl ⟨by rfl, ?yax14⟩) (fun _ _ _ h => h) (by assumption) ?zax14
  case yax14 => (intro w hSw; (try dsimp only at hSw); go_simp; (try with_reducible rfl))
  (try simp only [Act.put, sA, sB, sC])
  refine tE (i := 14) (v := ?vax15) (f := 22) rfl (by kernel_rfl) (.inl ⟨by rfl, ?yax15⟩) (fun _ _ _ h => h) (by assumption) ?zax15
  case yax15 => (intro w hSw; (try dsimp only at hSw); go_simp; (try with_reducible rfl))
  (try simp only [Act.put, sA, sB, sC])
  refine tE (i := 15) (v := ?vax16) (f := 22) rfl (by kernel_rfl) (.inl ⟨by rfl, ?yax16⟩) (fun _ _ _ h => h) (by assumption) ?zax16
  case yax16 => (intro w hSw; (try dsimp only at hSw); go_simp; (try with_reducible rfl))
  (try simp only [Act.put, sA, sB, sC])
  refine tE (i := 16) (v := ?vax17) (f := 22) rfl (by kernel_rfl) (.inl ⟨by rfl, ?yax17⟩) (fun _ _ _ h => h) (by assumption) ?zax17
  case yax17 => (intro w hSw; (try dsimp only at hSw); go_simp; (try with_reducible rfl))
  (try simp only [Act.put, sA, sB, sC])
  refine wpAnyE_step (i := 17) (o := _) (by kernel_rfl) rfl (fun K hK => ?_)
  go_simp
  refine hK.out _ _ (fun _ => ?sax18) (fun hHax18q => ?_)
  case sax18 => ((try dsimp only); (first | exact Hmk.out _ HFx.out | exact Hmk.out _ HFx.out.drew | exact Hmk.out _ (HFx.out.alloc _) | exact Hmk.out _ ((HFx.out.alloc _).drew)))
  have hHax18 := hHax18q (by decide)
  clear hK K hHa0 hHax18q
  (try simp only [Act.put, sA, sB, sC])
  refine wpAnyE_step (i := 18) (o := _) (by kernel_rfl) rfl (fun K hK => ?_)
  (refine step_append_one _ rfl (.tmp 63) (.tmp 65) 72 rfl 2 i2 (.int .i64 0) 1 8 Tryz.underlying72 hi2 hv0 hv1 hv2 rfl (.slice t1 S.T.length S.T.length) S.T.length (tms S.T) (by simp [Act.eval]) ((World.Sl.cut H10.out.ts).fr (((World.Fr.refl w10 []).alloc (.cells #[.int .i64 n] 2)).drew) (by simp)) w10.heap.size 1 [.int .i64 n] 2 (by simp [Act.eval]) (heap_alloc_at w10 _ _ rfl) rfl rfl hroom ?_; intro g3 off3 c3 w11 hsl hfr hat hlt5; have hal := ((World.Fr.refl w10 []).alloc (.cells #[.int .i64 n] 2)).drew; have hfb := (hal.mono (L' := (Value.slice t1 S.T.length S.T.length).blk) (by simp)).trans hfr (fun k hk => .inl hk); have hb11 := hfb.heap hbx10.out (Sl.off_box (World.Sl.cut H10.out.ts) hbx10.out (by decide)); obtain ⟨d0, d1, d2, d3, d4, d5, d6, d7, d8, d9, df⟩ := ten hb11; have hz11 := lt_of_heap hb11; have HSl := Hz hsl; have HFb := Hz hfb; have HAt := Hz hat; have HFx := Hz hfb; clear hsl hfr hat hal hfb hb11)
  refine hK.out _ _ (fun _ => ?sax19) (fun hHax19q => ?_)
  case sax19 => ((try dsimp only); (first | exact Hmk.out _ HFx.out | exact Hmk.out _ HFx.out.drew | exact Hmk.out _ (HFx.out.alloc _) | exact Hmk.out _ ((HFx.out.alloc _).drew)))
  have hHax19 := hHax19q (by decide)
  clear hK K hHax18 hHax19q
  (try simp only [Act.put, sA, sB, sC])
  refine tE (i := 19) (v := ?vax20) (f := 22) rfl (by kernel_rfl) (.inl ⟨by rfl, ?yax20⟩) (fun _ _ _ h => h) (by assumption) ?zax20
  case yax20 => (intro w hSw; (try dsimp only at hSw); go_simp; (try with_reducible rfl))
  (try simp only [Act.put, sA, sB, sC])
  refine tE (i := 20) (v := ?vax21) (f := 22) rfl (by kernel_rfl) (.inl ⟨by rfl, ?yax21⟩) (fun _ _ _ h => h) (by assumption) ?zax21
  case yax21 => (intro w hSw; (try dsimp only at hSw); go_simp; (try with_reducible rfl))
  (try simp only [Act.put, sA, sB, sC])
  refine wpAnyE_step (i := 21) (o := _) (by kernel_rfl) rfl (fun K hK => ?_)
  go_simp
  refine hK.out _ _ (fun hne => absurd rfl hne) (fun _ => ?_)
  clear hK K hHax19
  (try simp only [Act.put, sA, sB, sC])
  refine wpAnyE_done (by kernel_rfl) ?_ _
  have hbl : (Value.slice t1 S.T.length t2).blk = (Value.slice t1 S.T.length S.T.length).blk := by cases t1 <;> rfl
  have hn8 : ∀ k, k ∈ (Value.slice (some ⟨g3, off3, none⟩) (S.T.length + 1) c3).blk -> k ∈ (Value.slice t1 S.T.length t2).blk ∨ w10.heap.size <= k := fun k hk => by
   simp [Value.blk] at hk
   subst hk
   rw [hbl]
   rcases HAt.out with h | h
   ·exact .inl h
   ·exact .inr (by have := ((World.Fr.refl w10 []).alloc (.cells #[.int .i64 n] 2)).size; simp at h; omega)
  have hnew := H10.out.setT (vt' := .slice (some ⟨g3, off3, none⟩) (S.T.length + 1) c3) (n := n) (by rw [hbl]; exact HFb.out) HSl.out hn8
  have hfr9 : w10.Fr (w11.setCell ⟨p, 7, none⟩ (.slice (some ⟨g3, off3, none⟩) (S.T.length + 1) c3)) (p :: (Value.slice t1 S.T.length t2).blk) := ((HFb.out.mono (fun k hk => List.mem_cons_of_mem _ (by rw [hbl]; exact hk))).setCell (.inl (List.mem_cons_self ..)) _)
  have HNew := Hz (And.intro hfr9 (And.intro hn8 hnew))
  clear hnew hbl hfr9 hn8
  go_wp2_with fail
  go_meet
  case rel => exact ⟨rfl, _, HNew⟩
 case rest =>
 obtain ⟨rfl, vt', HA⟩ := hcut
 obtain ⟨wA, hwA⟩ : ∃ x, x = wc := ⟨_, rfl⟩
 subst hwA
 clear e0 e1 e2 e3 e4 e5 e6 e7 e8 e9 ef hz hroom i2 hi2 hv0 hv1 hv2
 obtain ⟨vt1, vt2, hvt', _, _⟩ := HA.out.2.2.ts.shape
 have hroom : (S.L.length + 1) * 48 <= 140737488355328 /\ S.L.length + 1 <= 9223372036854775807 := by have := Hm.out; have := HO.out.ll; omega
 have hbxA := Hz HA.out.2.2.box
 obtain ⟨e0, e1, e2, e3, e4, e5, e6, e7, e8, e9, ef⟩ := ten hbxA.out
 have hz := lt_of_heap hbxA.out
 obtain ⟨hdL, hL1, hL2, hL3⟩ := HA.out.2.2.l.ex
 have HL1 := Hz hL1; have HL23 := Hz (And.intro hL2 hL3)
 clear hL1 hL2 hL3 hvt'
 have ka := cellFr HA.out.2.2.fr Ka.out (by simp)
 have kb := cellFr HA.out.2.2.fr Kb.out (by simp)
 have hg := Nat.lt_of_lt_of_le Hg.out HA.out.2.2.fr.size
 go_upto_region 8 with (fail)
 go_cut [2] from 69 to 91 (fun s2 wx => s2 = .slice (some ⟨g, off, none⟩) ts.length v2 /\ ∃ vL', Hid (wA.Fr wx (p :: (Value.slice l1 S.L.length l2).blk) /\ (∀ k, k ∈ vL'.blk -> k ∈ (Value.slice l1 S.L.length l2).blk ∨ wA.heap.size <= k) /\ RefP w0 wx p { S with T := S.T ++ [n], L := S.L ++ [ta] } (.slice a1 S.left.length a2) (.slice b1 S.right.length b2) vt' vL' (.slice r1 S.R.length r2)))
 case first =>
  have hmk : ∀ W, wA.Fr W (Value.slice l1 S.L.length S.L.length).blk -> (W.cell? ⟨p, 8, none⟩ = some (.slice l1 S.L.length l2) /\ W.cell? ⟨g, off, none⟩ = some (.slice x1 ta.vars.length x2) /\ W.cell? ⟨g, off + 1, none⟩ = some (.slice x3 ta.rows.length x4) /\ Hid (wA.Fr W (Value.slice l1 S.L.length S.L.length).blk)) := fun W hW => by
   have hgn : g ∉ (Value.slice l1 S.L.length S.L.length).blk := fun hm => by
    have h1 := HA.out.2.2.new g (by cases l1 <;> simp [Value.blk] at hm ⊢; simp [hm])
    have := Hg.out
    omega
   exact ⟨cellFr hW e8 (Sl.off_box (World.Sl.cut HL1.out) hbxA.out (by decide)), cellFr hW ka hgn, cellFr hW kb hgn, Hz hW⟩
  have Hmk := Hz hmk
  clear hmk
  have HFx : Hid (wA.Fr wA (Value.slice l1 S.L.length S.L.length).blk) := Hz (World.Fr.refl _ _)
  refine wp_region_E (S := (fun w' => w'.cell? ⟨p, 8, none⟩ = some (.slice l1 S.L.length l2) /\ w'.cell? ⟨g, off, none⟩ = some (.slice x1 ta.vars.length x2) /\ w'.cell? ⟨g, off + 1, none⟩ = some (.slice x3 ta.rows.length x4) /\ Hid (wA.Fr w' (Value.slice l1 S.L.length S.L.length).blk))) 23 (by kernel_rfl) ?sb (fun hHb0 => ?_)
  case sb => ((try dsimp only); (first | exact Hmk.out _ HFx.out | exact Hmk.out _ HFx.out.drew | exact Hmk.out _ (HFx.out.alloc _) | exact Hmk.out _ ((HFx.out.alloc _).drew)))
  refine tE (i := 0) (v := ?vbx23) (f := 24) rfl (by kernel_rfl) (.inl ⟨by rfl, ?ybx23⟩) (fun _ _ _ h => h) (by assumption) ?zbx23
  case ybx23 => (intro w hSw; (try dsimp only at hSw); go_simp; (try with_reducible rfl))
  (try simp only [Act.put, sA, sB, sC])
  refine tE (i := 1) (v := ?vbx24) (f := 24) rfl (by kernel_rfl) (.inl ⟨by rfl, ?ybx24⟩) (fun _ _ _ h => h) (by assumption) ?zbx24
  case ybx24 => (intro w hSw; (try dsimp only at hSw); go_simp; (try with_reducible rfl))
  (try simp only [Act.put, sA, sB, sC])
  refine tE (i := 2) (v := ?vbx25) (f := 24) rfl (by kernel_rfl) (.inl ⟨by rfl, ?ybx25⟩) (fun _ _ _ h => h) (by assumption) ?zbx25
  case ybx25 => (intro w hSw; (try dsimp only at hSw); go_simp; (try with_reducible rfl))
  (try simp only [Act.put, sA, sB, sC])
  refine tE (i := 3) (v := ?vbx26) (f := 24) rfl (by kernel_rfl) (.inl ⟨by rfl, ?ybx26⟩) (fun _ _ _ h => h) (by assumption) ?zbx26
  case ybx26 => (intro w hSw; (try dsimp only at hSw); go_simp; (try with_reducible rfl))
  (try simp only [Act.put, sA, sB, sC])
  refine tE (i := 4) (v := ?vbx27) (f := 24) rfl (by kernel_rfl) (.inl ⟨by rfl, ?ybx27⟩) (fun _ _ _ h => h) (by assumption) ?zbx27
  case ybx27 => (intro w hSw; (try dsimp only at hSw); go_simp; (try with_reducible rfl))
  (try simp only [Act.put, sA, sB, sC])
  refine tE (i := 5) (v := ?vbx28) (f := 24) rfl (by kernel_rfl) (.inl ⟨by rfl, ?ybx28⟩) (fun _ _ _ h => h) (by assumption) ?zbx28
  case ybx28 => (intro w hSw; (try dsimp only at hSw); go_simp; (try with_reducible rfl))
  (try simp only [Act.put, sA, sB, sC])
  refine tE (i := 6) (v := ?vbx29) (f := 24) rfl (by kernel_rfl) (.inl ⟨by rfl, ?ybx29⟩) (fun _ _ _ h => h) (by assumption) ?zbx29
  case ybx29 => (intro w hSw; (try dsimp only at hSw); go_simp; (try with_reducible rfl))
  (try simp only [Act.put, sA, sB, sC])
  refine tE (i := 7) (v := ?vbx30) (f := 24) rfl (by kernel_rfl) (.inl ⟨by rfl, ?ybx30⟩) (fun _ _ _ h => h) (by assumption) ?zbx30
  case ybx30 => (intro w hSw; (try dsimp only at hSw); go_simp; (try with_reducible rfl))
  (try simp only [Act.put, sA, sB, sC])
  refine tE (i := 8) (v := ?vbx31) (f := 24) rfl (by kernel_rfl) (.inl ⟨by rfl, ?ybx31⟩) (fun _ _ _ h => h) (by assumption) ?zbx31
  case ybx31 => (intro w hSw; (try dsimp only at hSw); go_simp; (try with_reducible rfl))
  (try simp only [Act.put, sA, sB, sC])
  refine tE (i := 9) (v := ?vbx32) (f := 24) rfl (by kernel_rfl) (.inl ⟨by rfl, ?ybx32⟩) (fun _ _ _ h => h) (by assumption) ?zbx32
  case ybx32 => (intro w hSw; (try dsimp only at hSw); go_simp; (try with_reducible rfl))
  (try simp only [Act.put, sA, sB, sC])
  refine tE (i := 10) (v := ?vbx33) (f := 24) rfl (by kernel_rfl) (.inl ⟨by rfl, ?ybx33⟩) (fun _ _ _ h => h) (by assumption) ?zbx33
  case ybx33 => (intro w hSw; (try dsimp only at hSw); go_simp; (try with_reducible rfl))
  (try simp only [Act.put, sA, sB, sC])
  refine tE (i := 11) (v := ?vbx34) (f := 24) rfl (by kernel_rfl) (.inl ⟨by rfl, ?ybx34⟩) (fun _ _ _ h => h) (by assumption) ?zbx34
  case ybx34 => (intro w hSw; (try dsimp only at hSw); go_simp; (try with_reducible rfl))
  (try simp only [Act.put, sA, sB, sC])
  refine tE (i := 12) (v := ?vbx35) (f := 24) rfl (by kernel_rfl) (.inl ⟨by rfl, ?ybx35⟩) (fun _ _ _ h => h) (by assumption) ?zbx35
  case ybx35 => (intro w hSw; (try dsimp only at hSw); go_simp; (try with_reducible rfl))
  (try simp only [Act.put, sA, sB, sC])
  refine tE (i := 13) (v := ?vbx36) (f := 24) rfl (by kernel_rfl) (.inl ⟨by rfl, ?ybx36⟩) (fun _ _ _ h => h) (by assumption) ?zbx36
  case ybx36 => (intro w hSw; (try dsimp only at hSw); go_simp; (try with_reducible rfl))
  (try simp only [Act.put, sA, sB, sC])
  refine tE (i := 14) (v := ?vbx37) (f := 24) rfl (by kernel_rfl) (.inl ⟨by rfl, ?ybx37⟩) (fun _ _ _ h => h) (by assumption) ?zbx37
  case ybx37 => (intro w hSw; (try dsimp only at hSw); go_simp; (try with_reducible rfl))
  (try simp only [Act.put, sA, sB, sC])
  refine tE (i := 15) (v := ?vbx38) (f := 24) rfl (by kernel_rfl) (.inl ⟨by rfl, ?ybx38⟩) (fun _ _ _ h => h) (by assumption) ?zbx38
  case ybx38 => (intro w hSw; (try dsimp only at hSw); go_simp; (try with_reducible rfl))
  (try simp only [Act.put, sA, sB, sC])
  refine tE (i := 16) (v := ?vbx39) (f := 24) rfl (by kernel_rfl) (.inl ⟨by rfl, ?ybx39⟩) (fun _ _ _ h => h) (by assumption) ?zbx39
  case ybx39 => (intro w hSw; (try dsimp only at hSw); go_simp; (try with_reducible rfl))
  (try simp only [Act.put, sA, sB, sC])
  refine tE (i := 17) (v := ?vbx40) (f := 24) rfl (by kernel_rfl) (.inl ⟨by rfl, ?ybx40⟩) (fun _ _ _ h => h) (by assumption) ?zbx40
  case ybx40 => (intro w hSw; (try dsimp only at hSw); go_simp; (try with_reducible rfl))
  (try simp only [Act.put, sA, sB, sC])
  refine tE (i := 18) (v := ?vbx41) (f := 24) rfl (by kernel_rfl) (.inl ⟨by rfl, ?ybx41⟩) (fun _ _ _ h => h) (by assumption) ?zbx41
  case ybx41 => (intro w hSw; (try dsimp only at hSw); go_simp; (try with_reducible rfl))
  (try simp only [Act.put, sA, sB, sC])
  refine wpAnyE_step (i := 19) (o := _) (by kernel_rfl) rfl (fun K hK => ?_)
  go_simp
  refine hK.out _ _ (fun _ => ?sbx42) (fun hHbx42q => ?_)
  case sbx42 => ((try dsimp only); (first | exact Hmk.out _ HFx.out | exact Hmk.out _ HFx.out.drew | exact Hmk.out _ (HFx.out.alloc _) | exact Hmk.out _ ((HFx.out.alloc _).drew)))
  have hHbx42 := hHbx42q (by decide)
  clear hK K hHb0 hHbx42q
  (try simp only [Act.put, sA, sB, sC])
  refine wpAnyE_step (i := 20) (o := _) (by kernel_rfl) rfl (fun K hK => ?_)
  (refine step_append_one _ rfl (.tmp 84) (.tmp 88) 37 rfl 34 ig (.agg #[.slice none 0 0, .slice none 0 0]) 2 48 Tryz.underlying37 hig hg0 hg1 hg2 rfl (.slice l1 S.L.length S.L.length) S.L.length (hdL.flatMap fun x => [x.1, x.2]) (by simp [Act.eval]) ((World.Sl.cut HL1.out).fr (((World.Fr.refl wA []).alloc (.cells #[.slice x1 ta.vars.length x2, .slice x3 ta.rows.length x4] 34)).drew) (by simp)) wA.heap.size 1 [.slice x1 ta.vars.length x2, .slice x3 ta.rows.length x4] 34 (by simp [Act.eval]) (heap_alloc_at wA _ _ rfl) rfl rfl hroom ?_; intro g3 off3 c3 w11 hsl hfr hat hlt5; have hal := ((World.Fr.refl wA []).alloc (.cells #[.slice x1 ta.vars.length x2, .slice x3 ta.rows.length x4] 34)).drew; have hfb := (hal.mono (L' := (Value.slice l1 S.L.length S.L.length).blk) (by simp)).trans hfr (fun k hk => .inl hk); have hb11 := hfb.heap hbxA.out (Sl.off_box (World.Sl.cut HL1.out) hbxA.out (by decide)); obtain ⟨d0, d1, d2, d3, d4, d5, d6, d7, d8, d9, df⟩ := ten hb11; have hz11 := lt_of_heap hb11; have HSl := Hz hsl; have HFb := Hz hfb; have HAt := Hz hat; have HFx := Hz hfb; clear hsl hfr hat hal hfb hb11)
  refine hK.out _ _ (fun _ => ?sbx43) (fun hHbx43q => ?_)
  case sbx43 => ((try dsimp only); (first | exact Hmk.out _ HFx.out | exact Hmk.out _ HFx.out.drew | exact Hmk.out _ (HFx.out.alloc _) | exact Hmk.out _ ((HFx.out.alloc _).drew)))
  have hHbx43 := hHbx43q (by decide)
  clear hK K hHbx42 hHbx43q
  (try simp only [Act.put, sA, sB, sC])
  refine tE (i := 21) (v := ?vbx44) (f := 24) rfl (by kernel_rfl) (.inl ⟨by rfl, ?ybx44⟩) (fun _ _ _ h => h) (by assumption) ?zbx44
  case ybx44 => (intro w hSw; (try dsimp only at hSw); go_simp; (try with_reducible rfl))
  (try simp only [Act.put, sA, sB, sC])
  refine tE (i := 22) (v := ?vbx45) (f := 24) rfl (by kernel_rfl) (.inl ⟨by rfl, ?ybx45⟩) (fun _ _ _ h => h) (by assumption) ?zbx45
  case ybx45 => (intro w hSw; (try dsimp only at hSw); go_simp; (try with_reducible rfl))
  (try simp only [Act.put, sA, sB, sC])
  refine wpAnyE_step (i := 23) (o := _) (by kernel_rfl) rfl (fun K hK => ?_)
  go_simp
  refine hK.out _ _ (fun hne => absurd rfl hne) (fun _ => ?_)
  clear hK K hHbx43
  (try simp only [Act.put, sA, sB, sC])
  refine wpAnyE_done (by kernel_rfl) ?_ _
  have hbl : (Value.slice l1 S.L.length l2).blk = (Value.slice l1 S.L.length S.L.length).blk := by cases l1 <;> rfl
  have hn8 : ∀ k, k ∈ (Value.slice (some ⟨g3, off3, none⟩) (S.L.length + 1) c3).blk -> k ∈ (Value.slice l1 S.L.length l2).blk ∨ wA.heap.size <= k := fun k hk => by
   simp [Value.blk] at hk
   subst hk
   rw [hbl]
   rcases HAt.out with h | h
   ·exact .inl h
   ·exact .inr (by simp at h; omega)
  have hh8 : Hdr w0 w11 (.slice (some ⟨g3, off3, none⟩) (S.L.length + 1) c3) (S.L ++ [ta]) := by
   refine ⟨hdL ++ [(.slice x1 ta.vars.length x2, .slice x3 ta.rows.length x4)], by simpa using HSl.out, by simp [HL23.out.1], fun i x t e1 e2 => ?_⟩
   rcases Nat.lt_or_ge i hdL.length with hi | hi
   ·rw [List.getElem?_append_left hi] at e1
    rw [List.getElem?_append_left (by have h1 := HL23.out.1; simp only at h1; omega)] at e2
    exact HL23.out.2 i x t e1 e2
   ·have h1 := HL23.out.1
    simp only at h1
    rw [List.getElem?_append_right hi] at e1
    rw [List.getElem?_append_right (by omega)] at e2
    have hz : i - hdL.length = 0 := by have := (List.getElem?_eq_some_iff.1 e1).1; simp at this; omega
    rw [hz] at e1
    rw [show i - S.L.length = 0 by omega] at e2
    simp at e1 e2
    subst e1 e2
    exact HRa.out
  have hnew := HA.out.2.2.setL (vL' := .slice (some ⟨g3, off3, none⟩) (S.L.length + 1) c3) (a := ta) (by rw [hbl]; exact HFb.out) hh8 hn8
  have hfr9 : wA.Fr (w11.setCell ⟨p, 8, none⟩ (.slice (some ⟨g3, off3, none⟩) (S.L.length + 1) c3)) (p :: (Value.slice l1 S.L.length l2).blk) := ((HFb.out.mono (fun k hk => List.mem_cons_of_mem _ (by rw [hbl]; exact hk))).setCell (.inl (List.mem_cons_self ..)) _)
  have HNew := Hz (And.intro hfr9 (And.intro hn8 hnew))
  clear hnew hbl hfr9 hn8 hh8
  go_wp2_with fail
  go_meet
  case rel => exact ⟨rfl, _, HNew⟩
 case rest =>
 obtain ⟨rfl, vL', HB⟩ := hcut
 obtain ⟨wB, hwB⟩ : ∃ x, x = wc := ⟨_, rfl⟩
 subst hwB
 clear e0 e1 e2 e3 e4 e5 e6 e7 e8 e9 ef hz hroom ka kb hg
 have hroom : (S.R.length + 1) * 48 <= 140737488355328 /\ S.R.length + 1 <= 9223372036854775807 := by have := Hm.out; have := HO.out.lr; omega
 have hbxB := Hz HB.out.2.2.box
 obtain ⟨e0, e1, e2, e3, e4, e5, e6, e7, e8, e9, ef⟩ := ten hbxB.out
 have hz := lt_of_heap hbxB.out
 obtain ⟨hdR, hR1, hR2, hR3⟩ := HB.out.2.2.r.ex
 have HR1 := Hz hR1; have HR23 := Hz (And.intro hR2 hR3)
 clear hR1 hR2 hR3
 have kc := cellFr HB.out.2.2.fr Kc.out (by simp)
 have kd := cellFr HB.out.2.2.fr Kd.out (by simp)
 have hg := Nat.lt_of_lt_of_le Hg.out HB.out.2.2.fr.size
 go_upto_region 9 with (fail)
 go_cut [2] from 92 to 117 (fun s2 wx => s2 = .slice (some ⟨g, off, none⟩) ts.length v2 /\ ∃ vR', Hid (wB.Fr wx (p :: (Value.slice r1 S.R.length r2).blk) /\ (∀ k, k ∈ vR'.blk -> k ∈ (Value.slice r1 S.R.length r2).blk ∨ wB.heap.size <= k) /\ RefP w0 wx p (S.push n ta tb) (.slice a1 S.left.length a2) (.slice b1 S.right.length b2) vt' vL' vR'))
 case first =>
  have hmk : ∀ W, wB.Fr W (Value.slice r1 S.R.length S.R.length).blk -> (W.cell? ⟨p, 9, none⟩ = some (.slice r1 S.R.length r2) /\ W.cell? ⟨g, off + M * 2, none⟩ = some (.slice y1 tb.vars.length y2) /\ W.cell? ⟨g, off + M * 2 + 1, none⟩ = some (.slice y3 tb.rows.length y4) /\ Hid (wB.Fr W (Value.slice r1 S.R.length S.R.length).blk)) := fun W hW => by
   have hgn : g ∉ (Value.slice r1 S.R.length S.R.length).blk := fun hm => by
    have h1 := HB.out.2.2.new g (by cases r1 <;> simp [Value.blk] at hm ⊢; simp [hm])
    have := Hg.out
    omega
   exact ⟨cellFr hW e9 (Sl.off_box (World.Sl.cut HR1.out) hbxB.out (by decide)), cellFr hW kc hgn, cellFr hW kd hgn, Hz hW⟩
  have Hmk := Hz hmk
  clear hmk
  have HFx : Hid (wB.Fr wB (Value.slice r1 S.R.length S.R.length).blk) := Hz (World.Fr.refl _ _)
  refine wp_region_E (S := (fun w' => w'.cell? ⟨p, 9, none⟩ = some (.slice r1 S.R.length r2) /\ w'.cell? ⟨g, off + M * 2, none⟩ = some (.slice y1 tb.vars.length y2) /\ w'.cell? ⟨g, off + M * 2 + 1, none⟩ = some (.slice y3 tb.rows.length y4) /\ Hid (wB.Fr w' (Value.slice r1 S.R.length S.R.length).blk))) 26 (by kernel_rfl) ?sc (fun hHc0 => ?_)
  case sc => ((try dsimp only); (first | exact Hmk.out _ HFx.out | exact Hmk.out _ HFx.out.drew | exact Hmk.out _ (HFx.out.alloc _) | exact Hmk.out _ ((HFx.out.alloc _).drew)))
  refine tE (i := 0) (v := ?vcx47) (f := 27) rfl (by kernel_rfl) (.inl ⟨by rfl, ?ycx47⟩) (fun _ _ _ h => h) (by assumption) ?zcx47
  case ycx47 => (intro w hSw; (try dsimp only at hSw); go_simp; (try with_reducible rfl))
  (try simp only [Act.put, sA, sB, sC])
  refine tE (i := 1) (v := ?vcx48) (f := 27) rfl (by kernel_rfl) (.inl ⟨by rfl, ?ycx48⟩) (fun _ _ _ h => h) (by assumption) ?zcx48
  case ycx48 => (intro w hSw; (try dsimp only at hSw); go_simp; (try with_reducible rfl))
  (try simp only [Act.put, sA, sB, sC])
  refine tE (i := 2) (v := ?vcx49) (f := 27) rfl (by kernel_rfl) (.inl ⟨by rfl, ?ycx49⟩) (fun _ _ _ h => h) (by assumption) ?zcx49
  case ycx49 => (intro w hSw; (try dsimp only at hSw); go_simp; (try with_reducible rfl))
  (try simp only [Act.put, sA, sB, sC])
  refine tE (i := 3) (v := ?vcx50) (f := 27) rfl (by kernel_rfl) (.inl ⟨by rfl, ?ycx50⟩) (fun _ _ _ h => h) (by assumption) ?zcx50
  case ycx50 => (intro w hSw; (try dsimp only at hSw); go_simp; (try with_reducible rfl))
  (try simp only [Act.put, sA, sB, sC])
  refine tE (i := 4) (v := ?vcx51) (f := 27) rfl (by kernel_rfl) (.inl ⟨by rfl, ?ycx51⟩) (fun _ _ _ h => h) (by assumption) ?zcx51
  case ycx51 => (intro w hSw; (try dsimp only at hSw); go_simp; (try with_reducible rfl))
  (try simp only [Act.put, sA, sB, sC])
  refine tE (i := 5) (v := ?vcx52) (f := 27) rfl (by kernel_rfl) (.inl ⟨by rfl, ?ycx52⟩) (fun _ _ _ h => h) (by assumption) ?zcx52
  case ycx52 => (intro w hSw; (try dsimp only at hSw); go_simp; (try with_reducible rfl))
  (try simp only [Act.put, sA, sB, sC])
  refine tE (i := 6) (v := ?vcx53) (f := 27) rfl (by kernel_rfl) (.inl ⟨by rfl, ?ycx53⟩) (fun _ _ _ h => h) (by assumption) ?zcx53
  case ycx53 => (intro w hSw; (try dsimp only at hSw); go_simp; (try with_reducible rfl))
  (try simp only [Act.put, sA, sB, sC])
  refine tE (i := 7) (v := ?vcx54) (f := 27) rfl (by kernel_rfl) (.inl ⟨by rfl, ?ycx54⟩) (fun _ _ _ h => h) (by assumption) ?zcx54
  case ycx54 => (intro w hSw; (try dsimp only at hSw); go_simp; (try with_reducible rfl))
  (try simp only [Act.put, sA, sB, sC])
  refine tE (i := 8) (v := ?vcx55) (f := 27) rfl (by kernel_rfl) (.inl ⟨by rfl, ?ycx55⟩) (fun _ _ _ h => h) (by assumption) ?zcx55
  case ycx55 => (intro w hSw; (try dsimp only at hSw); go_simp; (try with_reducible rfl))
  (try simp only [Act.put, sA, sB, sC])
  refine tE (i := 9) (v := ?vcx56) (f := 27) rfl (by kernel_rfl) (.inl ⟨by rfl, ?ycx56⟩) (fun _ _ _ h => h) (by assumption) ?zcx56
  case ycx56 => (intro w hSw; (try dsimp only at hSw); go_simp; (try with_reducible rfl))
  (try simp only [Act.put, sA, sB, sC])
  refine tE (i := 10) (v := ?vcx57) (f := 27) rfl (by kernel_rfl) (.inl ⟨by rfl, ?ycx57⟩) (fun _ _ _ h => h) (by assumption) ?zcx57
  case ycx57 => (intro w hSw; (try dsimp only at hSw); go_simp; (try with_reducible rfl))
  (try simp only [Act.put, sA, sB, sC])
  refine tE (i := 11) (v := ?vcx58) (f := 27) rfl (by kernel_rfl) (.inl ⟨by rfl, ?ycx58⟩) (fun _ _ _ h => h) (by assumption) ?zcx58
  case ycx58 => (intro w hSw; (try dsimp only at hSw); go_simp; (try with_reducible rfl))
  (try simp only [Act.put, sA, sB, sC])
  refine tE (i := 12) (v := ?vcx59) (f := 27) rfl (by kernel_rfl) (.inl ⟨by rfl, ?ycx59⟩) (fun _ _ _ h => h) (by assumption) ?zcx59
  case ycx59 => (intro w hSw; (try dsimp only at hSw); go_simp; (try with_reducible rfl))
  (try simp only [Act.put, sA, sB, sC])
  refine tE (i := 13) (v := ?vcx60) (f := 27) rfl (by kernel_rfl) (.inl ⟨by rfl, ?ycx60⟩) (fun _ _ _ h => h) (by assumption) ?zcx60
  case ycx60 => (intro w hSw; (try dsimp only at hSw); go_simp; (try with_reducible rfl))
  (try simp only [Act.put, sA, sB, sC])
  refine tE (i := 14) (v := ?vcx61) (f := 27) rfl (by kernel_rfl) (.inl ⟨by rfl, ?ycx61⟩) (fun _ _ _ h => h) (by assumption) ?zcx61
  case ycx61 => (intro w hSw; (try dsimp only at hSw); go_simp; (try with_reducible rfl))
  (try simp only [Act.put, sA, sB, sC])
  refine tE (i := 15) (v := ?vcx62) (f := 27) rfl (by kernel_rfl) (.inl ⟨by rfl, ?ycx62⟩) (fun _ _ _ h => h) (by assumption) ?zcx62
  case ycx62 => (intro w hSw; (try dsimp only at hSw); go_simp; (try with_reducible rfl))
  (try simp only [Act.put, sA, sB, sC])
  refine tE (i := 16) (v := ?vcx63) (f := 27) rfl (by kernel_rfl) (.inl ⟨by rfl, ?ycx63⟩) (fun _ _ _ h => h) (by assumption) ?zcx63
  case ycx63 => (intro w hSw; (try dsimp only at hSw); go_simp; (try with_reducible rfl))
  (try simp only [Act.put, sA, sB, sC])
  refine tE (i := 17) (v := ?vcx64) (f := 27) rfl (by kernel_rfl) (.inl ⟨by rfl, ?ycx64⟩) (fun _ _ _ h => h) (by assumption) ?zcx64
  case ycx64 => (intro w hSw; (try dsimp only at hSw); go_simp; (try with_reducible rfl))
  (try simp only [Act.put, sA, sB, sC])
  refine tE (i := 18) (v := ?vcx65) (f := 27) rfl (by kernel_rfl) (.inl ⟨by rfl, ?ycx65⟩) (fun _ _ _ h => h) (by assumption) ?zcx65
  case ycx65 => (intro w hSw; (try dsimp only at hSw); go_simp; (try with_reducible rfl))
  (try simp only [Act.put, sA, sB, sC])
  refine tE (i := 19) (v := ?vcx66) (f := 27) rfl (by kernel_rfl) (.inl ⟨by rfl, ?ycx66⟩) (fun _ _ _ h => h) (by assumption) ?zcx66
  case ycx66 => (intro w hSw; (try dsimp only at hSw); go_simp; (try with_reducible rfl))
  (try simp only [Act.put, sA, sB, sC])
  refine tE (i := 20) (v := ?vcx67) (f := 27) rfl (by kernel_rfl) (.inl ⟨by rfl, ?ycx67⟩) (fun _ _ _ h => h) (by assumption) ?zcx67
  case ycx67 => (intro w hSw; (try dsimp only at hSw); go_simp; (try with_reducible rfl))
  (try simp only [Act.put, sA, sB, sC])
  refine tE (i := 21) (v := ?vcx68) (f := 27) rfl (by kernel_rfl) (.inl ⟨by rfl, ?ycx68⟩) (fun _ _ _ h => h) (by assumption) ?zcx68
  case ycx68 => (intro w hSw; (try dsimp only at hSw); go_simp; (try with_reducible rfl))
  (try simp only [Act.put, sA, sB, sC])
  refine wpAnyE_step (i := 22) (o := _) (by kernel_rfl) rfl (fun K hK => ?_)
  go_simp
  refine hK.out _ _ (fun _ => ?scx69) (fun hHcx69q => ?_)
  case scx69 => ((try dsimp only); (first | exact Hmk.out _ HFx.out | exact Hmk.out _ HFx.out.drew | exact Hmk.out _ (HFx.out.alloc _) | exact Hmk.out _ ((HFx.out.alloc _).drew)))
  have hHcx69 := hHcx69q (by decide)
  clear hK K hHc0 hHcx69q
  (try simp only [Act.put, sA, sB, sC])
  refine wpAnyE_step (i := 23) (o := _) (by kernel_rfl) rfl (fun K hK => ?_)
  (refine step_append_one _ rfl (.tmp 107) (.tmp 114) 37 rfl 34 ig (.agg #[.slice none 0 0, .slice none 0 0]) 2 48 Tryz.underlying37 hig hg0 hg1 hg2 rfl (.slice r1 S.R.length S.R.length) S.R.length (hdR.flatMap fun x => [x.1, x.2]) (by simp [Act.eval]) ((World.Sl.cut HR1.out).fr (((World.Fr.refl wB []).alloc (.cells #[.slice y1 tb.vars.length y2, .slice y3 tb.rows.length y4] 34)).drew) (by simp)) wB.heap.size 1 [.slice y1 tb.vars.length y2, .slice y3 tb.rows.length y4] 34 (by simp [Act.eval]) (heap_alloc_at wB _ _ rfl) rfl rfl hroom ?_; intro g3 off3 c3 w11 hsl hfr hat hlt5; have hal := ((World.Fr.refl wB []).alloc (.cells #[.slice y1 tb.vars.length y2, .slice y3 tb.rows.length y4] 34)).drew; have hfb := (hal.mono (L' := (Value.slice r1 S.R.length S.R.length).blk) (by simp)).trans hfr (fun k hk => .inl hk); have hb11 := hfb.heap hbxB.out (Sl.off_box (World.Sl.cut HR1.out) hbxB.out (by decide)); obtain ⟨d0, d1, d2, d3, d4, d5, d6, d7, d8, d9, df⟩ := ten hb11; have hz11 := lt_of_heap hb11; have HSl := Hz hsl; have HFb := Hz hfb; have HAt := Hz hat; have HFx := Hz hfb; clear hsl hfr hat hal hfb hb11)
  refine hK.out _ _ (fun _ => ?scx70) (fun hHcx70q => ?_)
  case scx70 => ((try dsimp only); (first | exact Hmk.out _ HFx.out | exact Hmk.out _ HFx.out.drew | exact Hmk.out _ (HFx.out.alloc _) | exact Hmk.out _ ((HFx.out.alloc _).drew)))
  have hHcx70 := hHcx70q (by decide)
  clear hK K hHcx69 hHcx70q
  (try simp only [Act.put, sA, sB, sC])
  refine tE (i := 24) (v := ?vcx71) (f := 27) rfl (by kernel_rfl) (.inl ⟨by rfl, ?ycx71⟩) (fun _ _ _ h => h) (by assumption) ?zcx71
  case ycx71 => (intro w hSw; (try dsimp only at hSw); go_simp; (try with_reducible rfl))
  (try simp only [Act.put, sA, sB, sC])
  refine tE (i := 25) (v := ?vcx72) (f := 27) rfl (by kernel_rfl) (.inl ⟨by rfl, ?ycx72⟩) (fun _ _ _ h => h) (by assumption) ?zcx72
  case ycx72 => (intro w hSw; (try dsimp only at hSw); go_simp; (try with_reducible rfl))
  (try simp only [Act.put, sA, sB, sC])
  refine wpAnyE_step (i := 26) (o := _) (by kernel_rfl) rfl (fun K hK => ?_)
  go_simp
  refine hK.out _ _ (fun hne => absurd rfl hne) (fun _ => ?_)
  clear hK K hHcx70
  (try simp only [Act.put, sA, sB, sC])
  refine wpAnyE_done (by kernel_rfl) ?_ _
  have hbl : (Value.slice r1 S.R.length r2).blk = (Value.slice r1 S.R.length S.R.length).blk := by cases r1 <;> rfl
  have hn8 : ∀ k, k ∈ (Value.slice (some ⟨g3, off3, none⟩) (S.R.length + 1) c3).blk -> k ∈ (Value.slice r1 S.R.length r2).blk ∨ wB.heap.size <= k := fun k hk => by
   simp [Value.blk] at hk
   subst hk
   rw [hbl]
   rcases HAt.out with h | h
   ·exact .inl h
   ·exact .inr (by simp at h; omega)
  have hh8 : Hdr w0 w11 (.slice (some ⟨g3, off3, none⟩) (S.R.length + 1) c3) (S.R ++ [tb]) := by
   refine ⟨hdR ++ [(.slice y1 tb.vars.length y2, .slice y3 tb.rows.length y4)], by simpa using HSl.out, by simp [HR23.out.1], fun i x t e1 e2 => ?_⟩
   have h1 := HR23.out.1
   simp only at h1
   rcases Nat.lt_or_ge i hdR.length with hi | hi
   ·rw [List.getElem?_append_left hi] at e1
    rw [List.getElem?_append_left (by omega)] at e2
    exact HR23.out.2 i x t e1 e2
   ·rw [List.getElem?_append_right hi] at e1
    rw [List.getElem?_append_right (by omega)] at e2
    have hz : i - hdR.length = 0 := by have := (List.getElem?_eq_some_iff.1 e1).1; simp at this; omega
    rw [hz] at e1
    rw [show i - S.R.length = 0 by omega] at e2
    simp at e1 e2
    subst e1 e2
    exact HRb.out
  have hnew := HB.out.2.2.setR (vR' := .slice (some ⟨g3, off3, none⟩) (S.R.length + 1) c3) (a := tb) (by rw [hbl]; exact HFb.out) hh8 hn8
  have hfr9 : wB.Fr (w11.setCell ⟨p, 9, none⟩ (.slice (some ⟨g3, off3, none⟩) (S.R.length + 1) c3)) (p :: (Value.slice r1 S.R.length r2).blk) := ((HFb.out.mono (fun k hk => List.mem_cons_of_mem _ (by rw [hbl]; exact hk))).setCell (.inl (List.mem_cons_self ..)) _)
  have HNew := Hz (And.intro hfr9 (And.intro hn8 hnew))
  clear hnew hbl hfr9 hn8 hh8
  go_wp2_with fail
  go_meet
  case rel => exact ⟨rfl, _, HNew⟩
 case rest =>
 obtain ⟨rfl, vR', HC⟩ := hcut
 obtain ⟨wC, hwC⟩ : ∃ x, x = wc := ⟨_, rfl⟩
 subst hwC
 clear e0 e1 e2 e3 e4 e5 e6 e7 e8 e9 ef hz hroom kc kd hg
 obtain ⟨hpok, hstx, hn0, hn1⟩ := rpush_okP HRC.out HO.out HE.out Hf.out Hr.out Hm.out HTA.out (by rw [HM.out]; exact HTB.out)
 have hfrC : w1.Fr wC (p :: ((Value.slice t1 S.T.length t2).blk ++ ((Value.slice l1 S.L.length l2).blk ++ (Value.slice r1 S.R.length r2).blk))) := by
  have h1 := (FR.out.mono (L' := p :: ((Value.slice t1 S.T.length t2).blk ++ ((Value.slice l1 S.L.length l2).blk ++ (Value.slice r1 S.R.length r2).blk))) (by simp)).trans HA.out.1 (fun k hk => .inl (by simp at hk ⊢; rcases hk with h | h <;> simp [h]))
  have h2 := h1.trans HB.out.1 (fun k hk => .inl (by simp at hk ⊢; rcases hk with h | h <;> simp [h]))
  exact h2.trans HC.out.1 (fun k hk => .inl (by simp at hk ⊢; rcases hk with h | h <;> simp [h]))
 have hown1 : ∀ k, k ∈ vt'.blk ++ (vL'.blk ++ vR'.blk) -> k ∈ (Value.slice t1 S.T.length t2).blk ++ ((Value.slice l1 S.L.length l2).blk ++ (Value.slice r1 S.R.length r2).blk) ∨ w10.heap.size <= k := fun k hk => by
  have s2 := HA.out.1.size
  have s3 := HB.out.1.size
  rw [List.mem_append, List.mem_append] at hk
  rw [List.mem_append, List.mem_append]
  rcases hk with hk | hk | hk
  ·rcases HA.out.2.1 k hk with h | h
   ·exact .inl (.inl h)
   ·exact .inr (by omega)
  ·rcases HB.out.2.1 k hk with h | h
   ·exact .inl (.inr (.inl h))
   ·exact .inr (by omega)
  ·rcases HC.out.2.1 k hk with h | h
   ·exact .inl (.inr (.inr h))
   ·exact .inr (by omega)
 have hown : ∀ k, k ∈ vt'.blk ++ (vL'.blk ++ vR'.blk) -> k ∈ (Value.slice t1 S.T.length t2).blk ++ ((Value.slice l1 S.L.length l2).blk ++ (Value.slice r1 S.R.length r2).blk) ∨ w.heap.size <= k := fun k hk => by
  have s0 := F6.out.size
  have s1 := FR.out.size
  rcases hown1 k hk with h | h
  ·exact .inl h
  ·exact .inr (by omega)
 have hn6 : p6 ∉ vL'.blk ++ vR'.blk := fun hm => by
  rcases hown1 p6 (List.mem_append.2 (.inr hm)) with h | h
  ·exact Hp6.out (List.mem_cons_of_mem _ h)
  ·have := H610.out; omega
 have hRI : RefP w0 wC p (S.push n ta tb) (.slice a1 S.left.length a2) (.slice b1 S.right.length b2) vt' vL' vR' := HC.out.2.2
 have hq6 : wC.heap[p6]? = some (.cells #[.slice none 0 0, .slice none 0 0] 34 (0, 0)) := hfrC.heap Q6.out Hp6.out
 have hlenS : (S.push n ta tb).T.length = S.T.length + 1 := by simp [RP.push]
 obtain ⟨S1, hS1⟩ : ∃ S1, S.push n ta tb = S1 := ⟨_, rfl⟩
 rw [hS1] at hRI hstx hlenS hpok
 obtain ⟨I, hI⟩ : ∃ I, S.T.length = I := ⟨_, rfl⟩
 rw [hI] at hlenS
 obtain ⟨N, hN⟩ : ∃ N, I + 1 = N := ⟨_, rfl⟩
 rw [hN] at hlenS
 have hwI : IntKind.i64.wrap ((N : Int) - 1) = (I : Int) := by rw [IntWalk.i64_in _ (by have := Hm.out; omega)]; omega
 have hIm : N <= 1000 := by have := Hm.out; omega
 have hfin : ∀ (wr : World) (a b : Value) (T : Tb), wC.Fr wr [] -> wr.heap[p6]? = some (.cells #[.slice none 0 0, .slice none 0 0] 34 (0, 0)) -> TT w0 wr (.agg #[a, b]) T -> S1.tell cf n = T ->
   ROutP cf w0 w ((wr.setCell ⟨p6, 0, none⟩ a).setCell ⟨p6, 1, none⟩ b) p S (.slice a1 S.left.length a2) (.slice b1 S.right.length b2) (.slice t1 S.T.length t2) (.slice l1 S.L.length l2) (.slice r1 S.R.length r2) n ts (.agg #[a, b]) S1 vt' vL' vR' := fun wr a b T hfr hq htt hT => by
  have hs := ((World.Fr.refl wr [p6]).setCell (a := ⟨p6, 0, none⟩) (.inl (by simp)) a).setCell (a := ⟨p6, 1, none⟩) (.inl (by simp)) b
  refine ⟨(hRI.still hfr).off34 hq hn6 H06.out hs, hpok, ?_, by rw [hstx], ?_, by omega, hown⟩
  ·rw [hstx]
   show TT w0 _ _ (S1.tell cf n)
   rw [hT]
   exact htt.fr hs (Odd.one hq (by decide))
  ·have h1 := (F6.out.mono (L' := p :: ((Value.slice t1 S.T.length t2).blk ++ ((Value.slice l1 S.L.length l2).blk ++ (Value.slice r1 S.R.length r2).blk))) (by simp)).trans hfrC (fun k hk => .inl hk)
   exact (h1.trans (hfr.mono (by simp)) (fun k hk => .inl hk)).trans hs (fun k hk => .inr (by simp at hk; subst hk; exact Nat.le_of_eq HPp.out))
 have hHH : w0.Fr wC [] := hRI.fr
 have Hfin := Hz hfin; have HRI := Hz hRI; have HStx := Hz hstx; have HOk := Hz hpok; have HLen := Hz hlenS; have HH := Hz hHH; have Hq6 := Hz hq6; have HIm := Hz hIm; have HN := Hz hN; have Hz6 := Hz (lt_of_heap hq6)
 have Hn := Hz (And.intro hn0 hn1)
 clear hfin hRI hstx hpok hlenS hS1 hown hown1 hn6 hHH hq6 hIm hI hN hfrC hn0 hn1 HA HB HC HL1 HL23 HR1 HR23 hbxA hbxB hbx10 hwM hMI hM0 h0I h0N hMN HTA HTB HRa HRb HM Hg Ka Kb Kc Kd HPar hig hg0 hg1 hg2 hlc hrc HE HBad H610 Q6 Hp6 H06 Hs6 HPp FR F6 H10 H HW72 H73 HT Hts Hf Hm Hr HO
 obtain ⟨d1, d2, hvt, _, _⟩ := HRI.out.ts.shape
 obtain ⟨la, lc, hvL⟩ := HRI.out.l.shape
 obtain ⟨ra, rc, hvR⟩ := HRI.out.r.shape
 rw [HOk.out.ll] at hvL
 rw [HOk.out.lr] at hvR
 rw [HLen.out] at hvt hvL hvR
 subst hvt hvL hvR
 have HBx := Hz HRI.out.box
 obtain ⟨e0, e1, e2, e3, e4, e5, e6, e7, e8, e9, ef⟩ := ten HBx.out
 have hz := lt_of_heap HBx.out
 have k := rempty34 HRC.out.rk HRC.out.rc HRC.out.ord HRI.out.nr.rd (by have := HOk.out.le8.2; omega)
 rw [ofT_none HOk.out.up HOk.out.le8.2] at k
 have k := Hz k
 go_wp2_with fail
 (with_reducible refine k.out.mono ?_)
 rintro e wE ⟨u, rfl, ho⟩
 obtain ⟨z1, z2, z3, z4, rfl⟩ := ho.shape
 simp only [List.length_nil] at ho ⊢
 have Hq6 := Hz (heap_alloc_some (ho.fr.heap Hq6.out (by simp)) (.cells #[.slice z1 S1.right.length z2, .slice z3 0 z4] 34))
 have Q11 := Hz (heap_alloc_at wE (.cells #[.slice z1 S1.right.length z2, .slice z3 0 z4] 34) _ rfl)
 have F := Hz (ho.fr.alloc (.cells #[.slice z1 S1.right.length z2, .slice z3 0 z4] 34))
 have O := Hz (ho.stay ((World.Fr.refl wE []).alloc (.cells #[.slice z1 S1.right.length z2, .slice z3 0 z4] 34))).sl
 have H611 : Hid (p6 ≠ wE.heap.size /\ wC.heap.size <= wE.heap.size) := Hz ⟨by have := Hz6.out; have := ho.fr.size; omega, ho.fr.size⟩
 clear ho k e0 e1 e2 e3 e4 e5 e6 e7 e8 e9 ef hz
 go_upto_region 12 with (fail)
 generalize hW : World.alloc wE _ = wF at *
 clear hW
 generalize hp11 : wE.heap.size = p11 at Q11 H611 ⊢
 clear hp11
 have HU0 : Hid (UBQ wC wF p6 p11 (.slice z1 S1.right.length z2) (.slice z3 0 z4) ⟨S1.right, []⟩) := Hz ⟨F.out, Hq6.out, Q11.out, O.out⟩
 clear Hq6 Q11 F O
 obtain ⟨e0, e1, e2, e3, e4, e5, e6, e7, e8, e9, ef⟩ := ten (HU0.out.fr.heap HBx.out (by simp))
 have hz := lt_of_heap (HU0.out.fr.heap HBx.out (by simp))
 by_cases hk : S1.kind = 11
 ·have hkb : (S1.kind == 11) = true := by simp [hk]
  rcases Nat.eq_zero_or_pos I with h0 | h0
  ·have htell := RP.tell_none (cf := cf) (n := n) hk (by rw [HLen.out, <- HN.out, h0])
   have hd : decide ((0 : Int) < (I : Int)) = false := decide_eq_false (by omega)
   have hd2 : decide (0 < I) = false := decide_eq_false (by omega)
   have hfw : ∀ W, wF.Fr W [] -> (((W.setCell ⟨p6, 0, none⟩ (.slice z1 S1.right.length z2)).setCell ⟨p6, 1, none⟩ (.slice z3 0 z4)).cell? ⟨p6, 0, none⟩ = some (.slice z1 S1.right.length z2) /\ ((W.setCell ⟨p6, 0, none⟩ (.slice z1 S1.right.length z2)).setCell ⟨p6, 1, none⟩ (.slice z3 0 z4)).cell? ⟨p6, 1, none⟩ = some (.slice z3 0 z4)) /\ ROutP cf w0 w ((W.setCell ⟨p6, 0, none⟩ (.slice z1 S1.right.length z2)).setCell ⟨p6, 1, none⟩ (.slice z3 0 z4)) p S (.slice a1 S.left.length a2) (.slice b1 S.right.length b2) (.slice t1 S.T.length t2) (.slice l1 S.L.length l2) (.slice r1 S.R.length r2) n ts (.agg #[.slice z1 S1.right.length z2, .slice z3 0 z4]) S1 (.slice d1 N d2) (.slice la N lc) (.slice ra N rc) := fun W hW => by
    have hu := HU0.out.still hW
    obtain ⟨x0, x1, _⟩ := two (heap_set_same (heap_set_same hu.b6 0 (.slice z1 S1.right.length z2)) 1 (.slice z3 0 z4))
    exact ⟨⟨x0, x1⟩, Hfin.out W _ _ _ hu.fr hu.b6 (.inr hu.sl) htell⟩
   have Hfw := Hz hfw
   obtain ⟨m0, m1, mf⟩ := two HU0.out.b6
   obtain ⟨n0, n1, nf⟩ := two HU0.out.b11
   have hz6 := lt_of_heap HU0.out.b6
   have hz11 := lt_of_heap HU0.out.b11
   clear hfw htell h0 hk HU0
   go_upto_region 13 with (fail)
   go_quiet (fail)
   go_wp2
   obtain ⟨⟨f0, f1⟩, hout⟩ := Hfw.out _ ((World.Fr.refl wF []).of_drewN _)
   refine bodyPost_ret (v := .tuple #[.agg #[.slice z1 S1.right.length z2, .slice z3 0 z4], .int .i64 0]) (by simp [results, Tryz.results26, go_sem, f0, f1]) rfl ⟨_, _, _, _, _, by simp only [HStx.out], hout⟩
  ·obtain ⟨J, hJ⟩ : ∃ J, J + 1 = I := ⟨I - 1, by omega⟩
   obtain ⟨tj, htj⟩ : ∃ t, S1.T[J]? = some t := ⟨S1.T[J]'(by have := HLen.out; have := HN.out; omega), List.getElem?_eq_getElem _⟩
   obtain ⟨rj, hrj⟩ : ∃ t, S1.R[J]? = some t := ⟨S1.R[J]'(by have := HLen.out; have := HN.out; have := HOk.out.lr; omega), List.getElem?_eq_getElem _⟩
   have htell := RP.tell_prev (cf := cf) (n := n) hk (by rw [HLen.out, <- HN.out, <- hJ]) htj hrj
   obtain ⟨g5, off5, c5, hv5, hg5, k5⟩ := tms_at (HRI.out.still HU0.out.fr).ts htj
   rw [HLen.out] at hv5
   cases hv5
   obtain ⟨g6, off6, c6, y1, y2, y3, y4, hv6, hg6, k6, k7, hrd6⟩ := (HRI.out.still HU0.out.fr).r.at hrj
   rw [HOk.out.lr, HLen.out] at hv6
   cases hv6
   have hrt := HOk.out.rng tj (List.mem_of_getElem? htj)
   have hw2 : IntKind.i64.wrap (n - tj) = n - tj := IntWalk.i64_in _ (by have := Hn.out; omega)
   have hw3 : IntKind.i64.wrap ((I : Int) - 1) = (J : Int) := by rw [IntWalk.i64_in _ (by have := HIm.out; have := HN.out; omega)]; omega
   have hd : decide ((0 : Int) < (I : Int)) = true := decide_eq_true (by omega)
   have hd2 : decide (0 < I) = true := decide_eq_true (by omega)
   have hJI : (J : Int) < (N : Int) := by have := HN.out; omega
   have hJn : (0 : Int) <= (J : Int) := by omega
   have HTl := Hz htell; have HRd := Hz hrd6
   clear hk htell htj hrj hrd6 h0
   go_upto_region 13 with (fail)
   go_still_tail 17, (by kernel_rfl)
   change wpList _ _ _ _ _ wF.drew
   have Hc := Hz (in74 (n - tj) S1.i wF.drew)
   go_wp2_with fail
   (with_reducible refine Hc.out.mono ?_)
   rintro e w3 ⟨rfl, fx⟩
   have fx2 := ((World.Fr.refl wF []).drew).trans fx (by simp)
   have HU := Hz (HU0.out.still fx2)
   have k6 := cellFr fx2 k6 (by simp)
   have k7 := cellFr fx2 k7 (by simp)
   have hg6 := Nat.lt_of_lt_of_le hg6 fx2.size
   clear fx fx2 Hc HU0 e0 e1 e2 e3 e4 e5 e6 e7 e8 e9 ef hz k5 hg5
   obtain ⟨e0, e1, e2, e3, e4, e5, e6, e7, e8, e9, ef⟩ := ten (HU.out.fr.heap HBx.out (by simp))
   have hz := lt_of_heap (HU.out.fr.heap HBx.out (by simp))
   obtain ⟨m0, m1, mf⟩ := two HU.out.b6
   obtain ⟨n0, n1, nf⟩ := two HU.out.b11
   have hz6 := lt_of_heap HU.out.b6
   have hz11 := lt_of_heap HU.out.b11
   cases hin : inB (n - tj) S1.i with
   | true =>
    have hres : S1.tell cf n = rj := by rw [HTl.out, hin]; rfl
    have h1 := ((World.Fr.refl w3 [p11]).setCell (a := ⟨p11, 0, none⟩) (.inl (by simp)) (.slice y1 rj.vars.length y2)).setCell (a := ⟨p11, 1, none⟩) (.inl (by simp)) (.slice y3 rj.rows.length y4)
    have hfr := HU.out.fr.trans h1 (fun k hk => .inr (by simp at hk; subst hk; exact H611.out.2))
    have hb6 := h1.heap HU.out.b6 (by simpa using H611.out.1)
    have hb11 := heap_set_same (heap_set_same HU.out.b11 0 (.slice y1 rj.vars.length y2)) 1 (.slice y3 rj.rows.length y4)
    have Hout := Hz (Hfin.out _ (.slice y1 rj.vars.length y2) (.slice y3 rj.rows.length y4) rj hfr hb6 (.inl HRd.out) hres)
    have HB6 := Hz (two (heap_set_same (heap_set_same hb6 0 (.slice y1 rj.vars.length y2)) 1 (.slice y3 rj.rows.length y4)))
    obtain ⟨s0, s1, sf⟩ := two hb6
    obtain ⟨u0, u1, uf⟩ := two hb11
    have hs6 := lt_of_heap hb6
    have hs11 := lt_of_heap hb11
    clear h1 hfr hb6 hb11 HU hres hin
    go_wp2
    obtain ⟨f0, f1, _⟩ := HB6.out
    refine bodyPost_ret (v := .tuple #[.agg #[.slice y1 rj.vars.length y2, .slice y3 rj.rows.length y4], .int .i64 0]) (by simp [results, Tryz.results26, go_sem, f0, f1]) rfl ⟨_, _, _, _, _, by simp only [HStx.out], Hout.out⟩
   | false =>
    have hres : S1.tell cf n = ⟨S1.right, []⟩ := by rw [HTl.out, hin]; rfl
    have Hout := Hz (Hfin.out _ (.slice z1 S1.right.length z2) (.slice z3 0 z4) _ HU.out.fr HU.out.b6 (.inr HU.out.sl) hres)
    have HB6 := Hz (two (heap_set_same (heap_set_same HU.out.b6 0 (.slice z1 S1.right.length z2)) 1 (.slice z3 0 z4)))
    clear HU hres hin
    go_wp2
    obtain ⟨f0, f1, _⟩ := HB6.out
    refine bodyPost_ret (v := .tuple #[.agg #[.slice z1 S1.right.length z2, .slice z3 0 z4], .int .i64 0]) (by simp [results, Tryz.results26, go_sem, f0, f1]) rfl ⟨_, _, _, _, _, by simp only [HStx.out], Hout.out⟩
 ·have hkb : (S1.kind == 11) = false := by simpa using hk
  have htell := RP.tell_since (cf := cf) (S := S1) (n := n) hk
  have HTl := Hz htell
  have HU0 : Hid (UBQ wC wF p6 p11 (.slice z1 S1.right.length z2) (.slice z3 0 z4) (sinceO cf S1.i n ⟨S1.right, []⟩ ((S1.all cf).take 0))) := Hz HU0.out
  clear htell hk
  go_wp2
  clear hkb
  go_loopw [13] (fun i wr => ∃ (j : Nat) (xa xb : Value), i = .int .i64 j /\ j <= N /\ Hid (UBQ wC wr p6 p11 xa xb (sinceO cf S1.i n ⟨S1.right, []⟩ ((S1.all cf).take j)))) (fun i _ => (N - intOf i).toNat)
  case atStart => exact ⟨0, _, _, rfl, Nat.zero_le _, HU0⟩
  case round =>
   obtain ⟨j, xa, xb, rfl, hj, HU⟩ := hrel
   clear HU0 e0 e1 e2 e3 e4 e5 e6 e7 e8 e9 ef hz
   obtain ⟨q1, q2, q3, q4, rfl, rfl⟩ := HU.out.sl.shape
   obtain ⟨e0, e1, e2, e3, e4, e5, e6, e7, e8, e9, ef⟩ := ten (HU.out.fr.heap HBx.out (by simp))
   have hz := lt_of_heap (HU.out.fr.heap HBx.out (by simp))
   by_cases hlt : j < N
   ·obtain ⟨tj, htj⟩ : ∃ t, S1.T[j]? = some t := ⟨S1.T[j]'(by have := HLen.out; omega), List.getElem?_eq_getElem _⟩
    obtain ⟨rj, hrj⟩ : ∃ t, S1.R[j]? = some t := ⟨S1.R[j]'(by have := HLen.out; have := HOk.out.lr; omega), List.getElem?_eq_getElem _⟩
    have hjT : j < S1.T.length := by have := HLen.out; omega
    have hx := RP.all_at cf S1 hjT
    rw [show S1.T.getD j 0 = tj by rw [List.getD_eq_getElem?_getD, htj]; rfl] at hx
    have hst := sinceO_step (cf := cf) (i := S1.i) (n := n) (e := ⟨S1.right, []⟩) hx
    simp only at hst
    have hm0 := RP.heldM_zero (cf := cf) hrj
    have hag := HOk.out.heldAt HRC.out.ord hjT
    obtain ⟨g5, off5, c5, hv5, hg5, k5⟩ := tms_at (HRI.out.still HU.out.fr).ts htj
    rw [HLen.out] at hv5
    cases hv5
    obtain ⟨g6, off6, c6, y1, y2, y3, y4, hv6, hg6, k6, k7, hrd6⟩ := (HRI.out.still HU.out.fr).r.at hrj
    rw [HOk.out.lr, HLen.out] at hv6
    cases hv6
    have hrt := HOk.out.rng tj (List.mem_of_getElem? htj)
    have hw2 : IntKind.i64.wrap (n - tj) = n - tj := IntWalk.i64_in _ (by have := Hn.out; omega)
    have hjI : (j : Int) < (N : Int) := by omega
    have hjn : (0 : Int) <= (j : Int) := by omega
    have hw3 : IntKind.i64.wrap ((j : Int) + 1) = (j : Int) + 1 := IntWalk.i64_in _ (by have := HIm.out; omega)
    have hd : decide ((j : Int) <= (I : Int)) = true := decide_eq_true (by have := HN.out; omega)
    have hd2 : decide (j <= I) = true := decide_eq_true (by have := HN.out; omega)
    have Hst := Hz hst; have HRd := Hz hrd6; have Hlt2 := Hz hlt; have HM0 := Hz hm0; have HAg := Hz hag; have HjT := Hz hjT
    clear hst hrd6 htj hrj hx hlt hm0 hag hjT
    go_upto_region 19 with (fail)
    go_still_tail 13, (by kernel_rfl)
    change wpList _ _ _ _ _ wr.drew
    have Hc := Hz (in74 (n - tj) S1.i wr.drew)
    go_wp2_with fail
    (with_reducible refine Hc.out.mono ?_)
    rintro e w3 ⟨rfl, fx⟩
    have fx2 := ((World.Fr.refl wr []).drew).trans fx (by simp)
    have HU := Hz (HU.out.still fx2)
    have k6 := cellFr fx2 k6 (by simp)
    have k7 := cellFr fx2 k7 (by simp)
    have hg6 := Nat.lt_of_lt_of_le hg6 fx2.size
    clear fx fx2 Hc e0 e1 e2 e3 e4 e5 e6 e7 e8 e9 ef hz k5 hg5
    obtain ⟨e0, e1, e2, e3, e4, e5, e6, e7, e8, e9, ef⟩ := ten (HU.out.fr.heap HBx.out (by simp))
    have hz := lt_of_heap (HU.out.fr.heap HBx.out (by simp))
    cases hin : inB (n - tj) S1.i with
    | false =>
     have hst := Hst.out
     rw [hin, if_neg (by simp)] at hst
     rw [<- hst] at HU
     clear hin hst Hst
     go_wp2
     go_roundw
     case rel => exact ⟨j + 1, _, _, by go_num, by have := Hlt2.out; omega, HU⟩
     case measure => simp [intOf]; have := Hlt2.out; omega
    | true =>
     have hst := Hst.out
     rw [hin, if_pos rfl] at hst
     have HSt := Hz hst
     clear hin hst Hst
     have f9 := (World.Fr.refl w3 []).alloc (.cells #[.slice y1 rj.vars.length y2, .slice y3 rj.rows.length y4] 34)
     have q9 := heap_alloc_at w3 (.cells #[.slice y1 rj.vars.length y2, .slice y3 rj.rows.length y4] 34) _ rfl
     have H49 := Hz (show p6 < w3.heap.size /\ p11 < w3.heap.size /\ wC.heap.size <= w3.heap.size from ⟨lt_of_heap HU.out.b6, lt_of_heap HU.out.b11, HU.out.fr.size⟩)
     have HU := Hz (HU.out.still f9); have Q9 := Hz q9
     clear f9 q9
     go_upto_region 21 with (fail)
     generalize hWW : World.alloc w3 _ = w7 at *
     clear hWW k6 k7 hg6
     generalize w3.heap.size = p9 at *
     clear e0 e1 e2 e3 e4 e5 e6 e7 e8 e9 ef hz
     generalize hO1 : sinceO cf S1.i n ⟨S1.right, []⟩ ((S1.all cf).take j) = X at *
     have HO1 := Hz hO1
     clear hO1
     have HI0 : Hid (UBQ wC w7 p6 p11 (.slice q1 X.vars.length q2) (.slice q3 X.rows.length q4) X /\ w7.heap[p9]? = some (.cells #[.slice y1 rj.vars.length y2, .slice y3 rj.rows.length y4] 34 (0, 0)) /\ TT w0 w7 (.agg #[.slice y1 rj.vars.length y2, .slice y3 rj.rows.length y4]) (S1.heldM cf j 0)) := Hz ⟨HU.out, Q9.out, by rw [HM0.out]; exact .inl HRd.out⟩
     clear HU Q9 HM0 HRd
     obtain ⟨d0, d1, d2, d3, d4, d5, d6, d7, d8, d9, df⟩ := ten (HI0.out.1.fr.heap HBx.out (by simp))
     have hzq := lt_of_heap (HI0.out.1.fr.heap HBx.out (by simp))
     go_wp2
     go_loopw [15] (fun i wr => ∃ (m K : Nat) (ya yb : Value), i = .int .i64 K /\ j + 1 + m = K /\ K <= N /\ (S1.kind ≠ 15 -> m = 0) /\ Hid (UBQ wC wr p6 p11 (.slice q1 X.vars.length q2) (.slice q3 X.rows.length q4) X /\ wr.heap[p9]? = some (.cells #[ya, yb] 34 (0, 0)) /\ TT w0 wr (.agg #[ya, yb]) (S1.heldM cf j m))) (fun i _ => (N - intOf i).toNat)
     case atStart => exact ⟨0, j + 1, _, _, by go_num, rfl, by have := Hlt2.out; omega, fun _ => rfl, HI0⟩
     case round =>
      obtain ⟨m, K, ya, yb, rfl, hK, hKN, hm0, HI2⟩ := hrel
      clear HI0 d0 d1 d2 d3 d4 d5 d6 d7 d8 d9 df hzq
      obtain ⟨s1, s2, s3, s4, rfl, rfl⟩ := (HI2.out.2.2.rd (HH.out.trans HI2.out.1.fr (by simp))).forms
      obtain ⟨e0, e1, e2, e3, e4, e5, e6, e7, e8, e9, ef⟩ := ten (HI2.out.1.fr.heap HBx.out (by simp))
      have hz := lt_of_heap (HI2.out.1.fr.heap HBx.out (by simp))
      have HKK := Hz hK
      have Hm0 := Hz hm0
      clear hK hm0
      by_cases hgo : K < N /\ S1.kind = 15
      ·obtain ⟨hKn, hk15⟩ := hgo
       have hd3 : decide ((K : Int) <= (I : Int)) = true := decide_eq_true (by have := HN.out; omega)
       have hd4 : decide (K <= I) = true := decide_eq_true (by have := HN.out; omega)
       have hk15b : (S1.kind == 15) = true := by simp [hk15]
       obtain ⟨lk, hlk⟩ : ∃ t, S1.L[K]? = some t := ⟨S1.L[K]'(by have := HLen.out; have := HOk.out.ll; omega), List.getElem?_eq_getElem _⟩
       have hqg := HOk.out.goodl hk15 _ (List.mem_of_getElem? hlk)
       have hhg := RP.heldM_good HRC.out.ord HOk.out hk15 (m := m) HjT.out
       have hstep := RP.heldM_step (cf := cf) (S := S1) (j := j) (m := m) (l := lk) (by rw [HKK.out]; exact hlk)
       obtain ⟨g8, off8, c8, o1, o2, o3, o4, hv8, hg8, k8, k9, hrd8⟩ := (HRI.out.still HI2.out.1.fr).l.at hlk
       rw [HOk.out.ll, HLen.out] at hv8
       cases hv8
       have hKI : (K : Int) < (N : Int) := by omega
       have hKn0 : (0 : Int) <= (K : Int) := by omega
       have hw4 : IntKind.i64.wrap ((K : Int) + 1) = (K : Int) + 1 := IntWalk.i64_in _ (by have := HIm.out; omega)
       have hc := held75 (nt := S1.nt) HRC.out (HI2.out.2.2.rd (HH.out.trans HI2.out.1.fr (by simp)) |>.still (World.Fr.refl wr []).drew) (hrd8.still (HH.out.trans (HI2.out.1.fr.trans (World.Fr.refl wr []).drew (by simp)) (by simp))) (hhg.1.fits (by have := hhg.2.2; omega)) (hqg.1.fits (by have := hqg.2.2; omega)) (Nat.le_trans (Nat.mul_le_mul hhg.2.2 hqg.2.2) (by decide))
       rw [<- hstep] at hc
       obtain ⟨T', hT'⟩ : ∃ T, S1.heldM cf j (m + 1) = T := ⟨_, rfl⟩
       rw [hT'] at hc
       have Hc := Hz hc; have HT' := Hz hT'; have Hk15 := Hz hk15
       obtain ⟨n0, n1, nf⟩ := two HI2.out.2.1
       have hz9 := lt_of_heap HI2.out.2.1
       clear hc hT' hstep hhg hqg hlk hrd8 hk15
       go_upto_region 24 with (fail)
       go_still_tail 12, (by kernel_rfl)
       change wpList _ _ _ _ _ wr.drew
       go_wp2_with fail
       (with_reducible refine Hc.out.mono ?_)
       rintro e w12 ⟨v, rfl, ho⟩
       obtain ⟨u1, u2, u3, u4, rfl⟩ := ho.shape
       have hfo := ((World.Fr.refl wr []).drew).trans ho.fr (by simp)
       have q9b := hfo.heap HI2.out.2.1 (by simp)
       have h1 := ((World.Fr.refl w12 [p9]).setCell (a := ⟨p9, 0, none⟩) (.inl (by simp)) (.slice u1 T'.vars.length u2)).setCell (a := ⟨p9, 1, none⟩) (.inl (by simp)) (.slice u3 T'.rows.length u4)
       have HI3 : Hid (UBQ wC ((w12.setCell ⟨p9, 0, none⟩ (.slice u1 T'.vars.length u2)).setCell ⟨p9, 1, none⟩ (.slice u3 T'.rows.length u4)) p6 p11 (.slice q1 X.vars.length q2) (.slice q3 X.rows.length q4) X /\ ((w12.setCell ⟨p9, 0, none⟩ (.slice u1 T'.vars.length u2)).setCell ⟨p9, 1, none⟩ (.slice u3 T'.rows.length u4)).heap[p9]? = some (.cells #[.slice u1 T'.vars.length u2, .slice u3 T'.rows.length u4] 34 (0, 0)) /\ TT w0 ((w12.setCell ⟨p9, 0, none⟩ (.slice u1 T'.vars.length u2)).setCell ⟨p9, 1, none⟩ (.slice u3 T'.rows.length u4)) (.agg #[.slice u1 T'.vars.length u2, .slice u3 T'.rows.length u4]) (S1.heldM cf j (m + 1))) := Hz
        ⟨(HI2.out.1.still hfo).off h1 q9b (by have := H49.out; omega) (by have := H49.out; omega) (by have := H49.out; omega), heap_set_same (heap_set_same q9b 0 _) 1 _, by rw [HT'.out]; exact .inr (ho.sl.fr h1 (Odd.one q9b (by decide)))⟩
       obtain ⟨d0, d1, d2, d3, d4, d5, d6, d7, d8, d9, df⟩ := ten ((HI2.out.1.fr.trans hfo (by simp)).heap HBx.out (by simp))
       have hzq := lt_of_heap ((HI2.out.1.fr.trans hfo (by simp)).heap HBx.out (by simp))
       clear n0 n1 nf hz9
       obtain ⟨n0, n1, nf⟩ := two q9b
       have hz9 := lt_of_heap q9b
       clear ho h1 q9b Hc HI2 hfo e0 e1 e2 e3 e4 e5 e6 e7 e8 e9 ef hz k8 k9 hg8
       go_wp2
       go_roundw
       case rel => exact ⟨m + 1, K + 1, _, _, by go_num, by have := HKK.out; omega, by omega, fun h => absurd Hk15.out h, HI3⟩
       case measure => simp [intOf]; omega
      ·have hheld : S1.heldM cf j m = S1.heldAt cf j := by
        by_cases h15 : S1.kind = 15
        ·exact RP.heldM_all h15 (by have := HLen.out; have := HOk.out.ll; have := HKK.out; have : ¬ K < N := fun h => hgo ⟨h, h15⟩; omega)
        ·rw [Hm0.out h15]
         exact RP.heldM_not h15
       have hI2 := HI2.out
       rw [hheld] at hI2
       obtain ⟨G, hG⟩ : ∃ G, S1.heldAt cf j = G := ⟨_, rfl⟩
       have hgg := HAg.out
       rw [hG] at hI2 hgg
       have hug := sinceO_good (cf := cf) HRC.out.ord (i := S1.i) (n := n) ((S1.all cf).take j) ⟨S1.right, []⟩ ⟨HOk.out.le8.2, HOk.out.up, by simp, by simp, by simp⟩ (fun x hx => HOk.out.all HRC.out.ord x (List.mem_of_mem_take hx))
       rw [HO1.out] at hug
       have hbnd : X.rows.length <= 600000 := by
        have h1 := hug.2.2
        have h2 : ((S1.all cf).take j).length <= 1000 := by rw [List.length_take, RP.all_len, HLen.out]; have := HIm.out; omega
        simp only [List.length_nil] at h1
        omega
       have hun := runion43 HRC.out.rk HRC.out.rc HRC.out.ord hI2.1.sl.rd (hI2.2.2.rd (HH.out.trans hI2.1.fr (by simp))) (hug.1.fits (by omega)) (hgg.1.fits (by have := hgg.2.2; omega)) (by have := hgg.2.2; omega)
       have hst := HSt.out
       rw [hG] at hst
       rw [<- hst] at hun
       obtain ⟨nn, hnn⟩ : ∃ n, (unionT cf X G).1 = n := ⟨_, rfl⟩
       rw [hnn] at hun
       obtain ⟨T', hT'⟩ : ∃ T, sinceO cf S1.i n ⟨S1.right, []⟩ ((S1.all cf).take (j + 1)) = T := ⟨_, rfl⟩
       rw [hT'] at hun
       obtain ⟨n0, n1, nf⟩ := two hI2.1.b11
       obtain ⟨m0, m1, mf⟩ := two hI2.2.1
       have hz5 := lt_of_heap hI2.1.b11
       have hz9 := lt_of_heap hI2.2.1
       have Hc := Hz hun; have HT' := Hz hT'; have HI4 := Hz hI2
       have hex : (decide ((K : Int) <= (I : Int)) = false /\ decide (K <= I) = false) ∨ (decide ((K : Int) <= (I : Int)) = true /\ decide (K <= I) = true /\ (S1.kind == 15) = false) := by
        by_cases hKn : K < N
        ·exact .inr ⟨decide_eq_true (by have := HN.out; omega), decide_eq_true (by have := HN.out; omega), by simpa using fun h => hgo ⟨hKn, h⟩⟩
        ·exact .inl ⟨decide_eq_false (by have := HN.out; omega), decide_eq_false (by have := HN.out; omega)⟩
       clear hun hst hnn hT' hug hgg hbnd hI2 hG HI2 HSt hheld hgo HAg
       rcases hex with ⟨hd3, hd4⟩ | ⟨hd3, hd4, hk15b⟩
       all_goals
        go_wp2_with fail
        (with_reducible refine Hc.out.mono ?_)
        rintro e w12 ⟨v, rfl, ho⟩
        obtain ⟨u1, u2, u3, u4, rfl⟩ := ho.shape
        have hub := HI4.out.1.still ho.fr
        have h1 := ((World.Fr.refl w12 [p11]).setCell (a := ⟨p11, 0, none⟩) (.inl (by simp)) (.slice u1 T'.vars.length u2)).setCell (a := ⟨p11, 1, none⟩) (.inl (by simp)) (.slice u3 T'.rows.length u4)
        have HIn : Hid (UBQ wC ((w12.setCell ⟨p11, 0, none⟩ (.slice u1 T'.vars.length u2)).setCell ⟨p11, 1, none⟩ (.slice u3 T'.rows.length u4)) p6 p11 (.slice u1 T'.vars.length u2) (.slice u3 T'.rows.length u4) (sinceO cf S1.i n ⟨S1.right, []⟩ ((S1.all cf).take (j + 1)))) := Hz
         ⟨hub.fr.trans h1 (fun k hk => .inr (by simp at hk; subst hk; exact H611.out.2)), h1.heap hub.b6 (by simpa using H611.out.1), heap_set_same (heap_set_same hub.b11 0 _) 1 _, by rw [HT'.out]; exact ho.sl.fr h1 (Odd.one hub.b11 (by decide))⟩
        obtain ⟨d0, d1, d2, d3, d4, d5, d6, d7, d8, d9, df⟩ := ten (hub.fr.heap HBx.out (by simp))
        have hzq := lt_of_heap (hub.fr.heap HBx.out (by simp))
        clear n0 n1 nf hz5
        obtain ⟨n0, n1, nf⟩ := two hub.b11
        have hz5 := lt_of_heap hub.b11
        clear ho h1 hub Hc HI4 m0 m1 mf hz9 e0 e1 e2 e3 e4 e5 e6 e7 e8 e9 ef hz
        go_wp2
        go_roundw
        case rel => exact ⟨j + 1, _, _, by go_num, by have := Hlt2.out; omega, HIn⟩
        case measure => simp [intOf]; have := Hlt2.out; omega
   ·have hd : decide ((j : Int) <= (I : Int)) = false := decide_eq_false (by have := HN.out; omega)
    have hd2 : decide (j <= I) = false := decide_eq_false (by have := HN.out; omega)
    have hres : S1.tell cf n = sinceO cf S1.i n ⟨S1.right, []⟩ ((S1.all cf).take j) := by rw [HTl.out, List.take_of_length_le (by rw [RP.all_len, HLen.out]; omega)]
    generalize hX : sinceO cf S1.i n ⟨S1.right, []⟩ ((S1.all cf).take j) = X at *
    clear hX
    have Hout := Hz (Hfin.out _ (.slice q1 X.vars.length q2) (.slice q3 X.rows.length q4) _ HU.out.fr HU.out.b6 (.inr HU.out.sl) hres)
    have HB6 := Hz (two (heap_set_same (heap_set_same HU.out.b6 0 (.slice q1 X.vars.length q2)) 1 (.slice q3 X.rows.length q4)))
    obtain ⟨m0, m1, mf⟩ := two HU.out.b6
    obtain ⟨n0, n1, nf⟩ := two HU.out.b11
    have hz6 := lt_of_heap HU.out.b6
    have hz11 := lt_of_heap HU.out.b11
    clear HU hres hj
    go_wp2
    obtain ⟨f0, f1, _⟩ := HB6.out
    refine bodyPost_ret (v := .tuple #[.agg #[.slice q1 X.vars.length q2, .slice q3 X.rows.length q4], .int .i64 0]) (by simp [results, Tryz.results26, go_sem, f0, f1]) rfl ⟨_, _, _, _, _, by simp only [HStx.out], Hout.out⟩
end Go.Proofs.YtbejmdlncnkaaaaGreat
