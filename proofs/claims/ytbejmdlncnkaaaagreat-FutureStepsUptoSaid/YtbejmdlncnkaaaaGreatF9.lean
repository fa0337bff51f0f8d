/-
  Package future: the walk of Step.
-/
import Derived.Test.YtbejmdlncnkaaaaGreatFuA
import Derived.Deep.RegionHeld3
set_option maxRecDepth 100000
set_option maxHeartbeats 16000000
set_option linter.unusedSimpArgs false
namespace Go.Proofs.YtbejmdlncnkaaaaGreat
open Go.RowKit
structure Point (S : FS) (n : Int) (ts : List Tb) (k : Sn) : Prop where
 time : k.time = n
 tr : ts[ts.length - 1]? = some k.tr
 tl : S.parts = 2 -> ts[0]? = some k.tl
 no : S.parts = 1 -> k.tl = ⟨[], []⟩
structure FStep (cf : V -> V -> Int) (Q : Nat -> Prop) (w w' : World) (p : Nat) (S : FS) (vl vr vp : Value) (n : Int) (ts : List Tb) (k : Sn) (S' : FS) (u vp' : Value) (vs : List Vd) (m : Nat) : Prop where
 pt : wrongE cf S.ps n ts = 0 -> Point S n ts k
 lo : w.heap.size <= m
 hi : m <= w'.heap.size
 blk : ∀ b, b ∈ vp'.blk -> b < m /\ (b ∈ vp.blk ∨ w.heap.size <= b)
 told : VdAt (fun b => m <= b) w' u vs
 new : ∀ b, b ∈ u.blk -> m <= b
 fut : FutAt (fun b => Q b /\ b < m) w' p S' vl vr vp'
 eq : stepF cf S n ts k = (vs.map Vd.tt, S')
 ok : FOk cf S'
 many : S'.told + S'.pts.length <= 1000
 fr : w.Fr w' (p :: vp.blk)
structure PBox (w0 w : World) (P : Nat) (n : Int) (k : Sn) : Prop where
 box : w.heap[P]? = some (.cells #[.int .i64 n, k.la, k.lb, k.ra, k.rb] 121 (0, 0))
 lo : w0.heap.size <= P
 fr : w0.Fr w []
 l : TabIn (fun b => w0.heap.size <= b) w (.agg #[k.la, k.lb]) k.tl
 r : TabIn (fun b => w0.heap.size <= b) w (.agg #[k.ra, k.rb]) k.tr
theorem PBox.still {w0 w w' : World} {P : Nat} {n : Int} {k : Sn} (h : PBox w0 w P n k) (hf : w.Fr w' []) : PBox w0 w' P n k :=
 ⟨hf.heap h.box (by simp), h.lo, h.fr.trans hf (by simp), h.l.still hf, h.r.still hf⟩
theorem PBox.putl {w0 w : World} {P : Nat} {n : Int} {k : Sn} (h : PBox w0 w P n k) {a b : Value} {t : Tb} (ht : TabIn (fun b => w0.heap.size <= b) w (.agg #[a, b]) t) : PBox w0 ((w.setCell ⟨P, 1, none⟩ a).setCell ⟨P, 2, none⟩ b) P n { k with la := a, lb := b, tl := t } := by
 have hset : w.Fr ((w.setCell ⟨P, 1, none⟩ a).setCell ⟨P, 2, none⟩ b) [P] := ((World.Fr.refl w [P]).setCell (a := ⟨P, 1, none⟩) (.inl (by simp)) _).setCell (a := ⟨P, 2, none⟩) (.inl (by simp)) _
 have hop : Odd w [P] := Odd.one h.box (by decide)
 exact ⟨heap_set_same (heap_set_same h.box 1 a) 2 b, h.lo, h.fr.trans hset (fun x hx => by simp at hx; subst hx; exact .inr h.lo), ht.fr hset hop, h.r.fr hset hop⟩
def vlen : Value -> Nat
 | .slice _ n _ => n
 | _ => 0
theorem FutAt.setTime {Q : Nat -> Prop} {w : World} {p : Nat} {S : FS} {vl vr vp : Value} (h : FutAt Q w p S vl vr vp) (n : Int) : FutAt Q (w.setCell ⟨p, 8, none⟩ (.int .i64 n)) p { S with time := n } vl vr vp /\ w.Fr (w.setCell ⟨p, 8, none⟩ (.int .i64 n)) [p] := by
 have hset : w.Fr (w.setCell ⟨p, 8, none⟩ (.int .i64 n)) [p] := (World.Fr.refl w [p]).setCell (a := ⟨p, 8, none⟩) (.inl (by simp)) _
 have hop : Odd w [p] := Odd.one h.box (by decide)
 refine ⟨⟨heap_set_same h.box 8 _, h.left.fr hset (hop.off h.left (.inl rfl)), h.right.fr hset (hop.off h.right (.inl rfl)), h.lw, h.rw, h.names, h.pts.fr hset hop ?_⟩, hset⟩
 intro k hk hm
 simp at hm
 subst hm
 rcases h.pts.sl.2 with ⟨rfl, _⟩ | ⟨g, off, cap, cur, rfl, hg, _⟩
 ·simp [Value.blk] at hk
 ·simp [Value.blk] at hk
  subst hk
  have := hg.symm.trans h.box
  injection this with this
  injection this with _ h2
  exact absurd h2 (by decide)
theorem FutAt.imp {Q R : Nat -> Prop} {w : World} {p : Nat} {S : FS} {vl vr vp : Value} (h : FutAt Q w p S vl vr vp) (hq : ∀ k, k < w.heap.size -> Q k -> R k) : FutAt R w p S vl vr vp :=
 ⟨h.box, h.left, h.right, h.lw, h.rw, ⟨fun k hk => hq k (h.left.lt k hk) (h.names.1 k hk), fun k hk => hq k (h.right.lt k hk) (h.names.2 k hk)⟩, ⟨h.pts.sl, fun k hk => ⟨(h.pts.tab k hk).1.imp hq, (h.pts.tab k hk).2.imp hq⟩⟩⟩
theorem FutAt.podd {Q : Nat -> Prop} {w : World} {p : Nat} {S : FS} {vl vr vp : Value} (h : FutAt Q w p S vl vr vp) : Odd w vp.blk /\ p ∉ vp.blk := by
 refine ⟨fun k hk => h.odd k (by simp [hk]), fun hm => ?_⟩
 rcases h.pts.sl.2 with ⟨rfl, _⟩ | ⟨g, off, cap, cur, rfl, hg, _⟩
 ·simp [Value.blk] at hm
 ·simp [Value.blk] at hm
  subst hm
  have := hg.symm.trans h.box
  injection this with this
  injection this with _ h2
  exact absurd h2 (by decide)
theorem FutAt.push {Q : Nat -> Prop} {w w5 : World} {p : Nat} {S : FS} {vl vr vp v' : Value} {k : Sn} (h : FutAt Q w p S vl vr vp) (hf : w.Fr w5 vp.blk) (hsl : w5.Sl 121 5 v' (S.pts.length + 1) (S.pts.flatMap Sn.cells ++ k.cells)) (hl : TabIn Q w (.agg #[k.la, k.lb]) k.tl) (hr : TabIn Q w (.agg #[k.ra, k.rb]) k.tr) :
  FutAt Q (w5.setCell ⟨p, 6, none⟩ v') p { S with pts := S.pts ++ [k] } vl vr v' /\ w5.Fr (w5.setCell ⟨p, 6, none⟩ v') [p] := by
 obtain ⟨ho, hpo⟩ := h.podd
 have hbox := hf.heap h.box hpo
 have hset : w5.Fr (w5.setCell ⟨p, 6, none⟩ v') [p] := (World.Fr.refl w5 [p]).setCell (a := ⟨p, 6, none⟩) (.inl (by simp)) _
 have hop : Odd w5 [p] := Odd.one hbox (by decide)
 have hl5 := h.left.fr hf (ho.off h.left (.inl rfl))
 have hr5 := h.right.fr hf (ho.off h.right (.inl rfl))
 refine ⟨⟨heap_set_same hbox 6 v', hl5.fr hset (hop.off hl5 (.inl rfl)), hr5.fr hset (hop.off hr5 (.inl rfl)), h.lw, h.rw, h.names, ⟨?_, fun x hx => ?_⟩⟩, hset⟩
 ·have hvp : ∀ k, k ∈ v'.blk -> k ∉ [p] := by
   intro k hk hm
   simp at hm
   subst hm
   rcases hsl.2 with ⟨rfl, _⟩ | ⟨g, off, cap, cur, rfl, hg, _⟩
   ·simp [Value.blk] at hk
   ·simp [Value.blk] at hk
    subst hk
    have := hg.symm.trans hbox
    injection this with this
    injection this with _ h2
    exact absurd h2 (by decide)
  have := hsl.fr hset hvp
  simpa using this
 ·rcases List.mem_append.1 hx with hx | hx
  ·have h1 := h.pts.tab x hx
   exact ⟨(h1.1.fr hf ho).fr hset hop, (h1.2.fr hf ho).fr hset hop⟩
  ·simp at hx
   subst hx
   exact ⟨(hl.fr hf ho).fr hset hop, (hr.fr hf ho).fr hset hop⟩
theorem told_call {cf : V -> V -> Int} (hK : Ctx V.wf cf) {Q : Nat -> Prop} {w : World} {p c1 c2 : Nat} {S : FS} {vl vr vp : Value} (h : FutAt Q w p S vl vr vp) (hO : FOk cf S) {k0 : Sn} (hk0 : S.pts[0]? = some k0) (hs : settledB S k0 = true) (h1 : w.heap[c1]? = some (.cells #[.pointer (some ⟨p, 0, none⟩)] 57 (0, 0))) (h2 : w.heap[c2]? = some (.cells #[.int .i64 k0.time] 2 (0, 0))) :
  Calls Tryz.prog (if S.nx then 137 else 139) #[.pointer (some ⟨c1, 0, none⟩), .pointer (some ⟨c2, 0, none⟩)] w fun e w' => ∃ (u1 : Option Addr) (u2 : Nat) (u3 : Option Addr) (u4 : Nat), e = .returned (.agg #[.slice u1 (tellF cf S k0).vars.length u2, .slice u3 (tellF cf S k0).rows.length u4]) /\ SlTab w' (.agg #[.slice u1 (tellF cf S k0).vars.length u2, .slice u3 (tellF cf S k0).rows.length u4]) (tellF cf S k0) /\ w.Fr w' [] := by
 have ht := hO.times k0 (List.mem_of_getElem? hk0)
 have htt := hO.time
 have hshape : ∀ {w' u} {T : Tb}, SlTab w' u T -> ∃ (u1 : Option Addr) (u2 : Nat) (u3 : Option Addr) (u4 : Nat), u = .agg #[.slice u1 T.vars.length u2, .slice u3 T.rows.length u4] := fun hs => by
  obtain ⟨a, b, _, hu, _⟩ := hs.ex
  subst hu
  obtain ⟨z3, z4, z5, z6, rfl, rfl⟩ := hs.shape
  exact ⟨_, _, _, _, rfl⟩
 unfold tellF
 by_cases hn : S.nx = true
 ·simp only [hn, if_true]
  unfold settledB at hs
  rw [if_pos hn] at hs
  have hl : 1 < S.pts.length := by have := of_decide_eq_true hs; omega
  obtain ⟨k1, hk1⟩ : ∃ k1, S.pts[1]? = some k1 := ⟨S.pts[1], List.getElem?_eq_getElem hl⟩
  rw [hk1]
  refine (told137 hK h hO hk0 hk1 h1 h2).mono ?_
  rintro e w' ⟨u, rfl, hsl, hf⟩
  obtain ⟨u1, u2, u3, u4, rfl⟩ := hshape hsl
  exact ⟨_, _, _, _, rfl, hsl, hf⟩
 ·simp only [hn]
  refine (told139 hK h hO k0.time (by omega) h1 h2).mono ?_
  rintro e w' ⟨u, rfl, hsl, hf⟩
  obtain ⟨u1, u2, u3, u4, rfl⟩ := hshape hsl
  exact ⟨_, _, _, _, rfl, hsl, hf⟩
theorem tellF_good {cf : V -> V -> Int} (hO : OrdOk okW cf) {S : FS} (h : FOk cf S) {k0 : Sn} : Good cf (tellF cf S k0) /\ (tellF cf S k0).vars = S.right /\ (tellF cf S k0).rows.length <= 600000 := by
 have hnil : Good cf ⟨S.right, []⟩ := (untilTo_good hO h (now := 0) 0).1
 unfold tellF
 split
 ·split
  ·rename_i k1 hk1
   have h1 := h.good k1 (List.mem_of_getElem? hk1)
   unfold nextF
   split
   ·exact ⟨h1.1, h1.2.1, by omega⟩
   ·exact ⟨hnil, rfl, by simp⟩
  ·exact ⟨hnil, rfl, by simp⟩
 ·have h1 := untilTo_good hO h (now := k0.time) S.pts.length
  have := h.many
  exact ⟨h1.1, h1.2.1, by omega⟩
theorem flat_drop1 (l : List Sn) : (l.flatMap Sn.cells).drop (1 * 5) = (l.drop 1).flatMap Sn.cells := by
 cases l with
 | nil => rfl
 | cons a t => rfl
theorem DInv.done {cf : V -> V -> Int} {Q : Nat -> Prop} {w W8 wr : World} {p : Nat} {S S' : FS} {vl vr vp vp' vo : Value} {B : List Nat} {vs : List Vd} {n : Int} {ts : List Tb} {k : Sn} (h : DInv cf (fun b => Q b /\ b < W8.heap.size) W8 wr p (pushF S k) S' vl vr vp' vo B vs) (hd : drainF cf S' = ([], S')) (hR : wrongE cf S.ps n ts = 0) (hpt : Point S n ts k) (hB : ∀ b, b ∈ B -> b < W8.heap.size /\ (b ∈ vp.blk ∨ w.heap.size <= b)) (hfr : w.Fr W8 (p :: vp.blk)) :
  FStep cf Q w wr p S vl vr vp n ts k S' vo vp' vs W8.heap.size := by
 refine ⟨fun _ => hpt, hfr.size, h.fr.size, fun b hb => hB b (h.blk b hb), h.told, h.new, h.fut, ?_, h.ok, h.many, hfr.trans h.fr (fun x hx => .inl (by simp at hx; simp [hx]))⟩
 unfold stepF
 rw [if_pos hR, h.eq, hd]
 simp
theorem step33 {cf : V -> V -> Int} (hK : Ctx V.wf cf) {Q : Nat -> Prop} {w : World} (hQ : ∀ b, w.heap.size <= b -> Q b) {p : Nat} {S : FS} {vl vr vp v : Value} {ts : List Tb} {n : Int} (h : FutAt Q w p S vl vr vp) (ht : RdTabs w v ts) (hO : FOk cf S) (hts : ts.length <= 8796093021952) (hf : ∀ t, t ∈ ts -> Fits V.wf t) (hmany : S.told + S.pts.length + 1 <= 1000) (h0 : wrongE cf S.ps n ts = 0 -> (ts.length : Int) = S.parts /\ ∀ t, t ∈ ts -> tcheck cf t = 0) (hok : wrongE cf S.ps n ts = 0 -> ∀ k, Point S n ts k -> FOk cf (pushF S k)) :
  Calls Tryz.prog 33 #[.pointer (some ⟨p, 0, none⟩), .int .i64 n, v] w fun e w' => ∃ k S' u vp' vs m, e = .returned (.tuple #[u, .int .i64 (wrongE cf S.ps n ts)]) /\ FStep cf Q w w' p S vl vr vp n ts k S' u vp' vs m := by
 have k := wrong80 hK (n := n) h ht hO.le8 hO.parts hts hf
 obtain ⟨R, hR⟩ : ∃ R, wrongE cf S.ps n ts = R := ⟨_, rfl⟩
 by_cases hz : R = 0
 ·have hR0 : wrongE cf S.ps n ts = 0 := hR.trans hz
  rw [hR0] at k ⊢
  obtain ⟨hl, hchk⟩ := h0 hR0
  have hok := hok hR0
  obtain ⟨v1, v2, rfl⟩ := ht.shape
  obtain ⟨d1, d2, rfl, _, _⟩ := h.pts.sl.shape
  have hj : ∃ j : Nat, S.parts = (j : Int) + 1 /\ ts.length = j + 1 /\ j <= 1 := by
   rcases hO.parts with e | e
   ·exact ⟨0, by rw [e]; rfl, by omega, by omega⟩
   ·exact ⟨1, by rw [e]; rfl, by omega, by omega⟩
  obtain ⟨j, hj1, hj2, hj3⟩ := hj
  obtain ⟨tr, htr⟩ : ∃ t, ts[j]? = some t := ⟨ts[j]'(by omega), List.getElem?_eq_getElem _⟩
  obtain ⟨tlx, htl⟩ : ∃ t, ts[0]? = some t := ⟨ts[0]'(by omega), List.getElem?_eq_getElem _⟩
  have hw1 : IntKind.i64.wrap ((j : Int) + 1 - 1) = (j : Int) := IntWalk.i64_in _ (by omega) |>.trans (by omega)
  rw [hj2] at k ⊢
  have K := Hz k; have H := Hz h; have HT := Hz ht; have HK := Hz hK; have HQ := Hz hQ; have HO := Hz hO; have HF := Hz hf; have HOk := Hz hok; have HC := Hz hchk; have Htr := Hz htr; have Htl := Hz htl; have HR0 := Hz hR0; have HJ1 := Hz hj1; have HJ2 := Hz hj2; have HM := Hz hmany
  have hml := hO.many
  clear k h ht hK hQ hO hf h0 hok hchk htr htl hR0 hR hz hl hmany hts
  go_enter Tryz.func33, Tryz.ntmps33
  go_wp2_with fail
  (with_reducible refine K.out.mono ?_)
  rintro e w1 ⟨rfl, fx⟩
  have hpa := H.out.still fx
  obtain ⟨e0, e1, e2, e3, e4, e5, e6, e7, e8, e9, e10, ef⟩ := eleven hpa.box
  rw [HJ1.out] at e9
  have hzp := lt_of_heap hpa.box
  obtain ⟨g, off, c, a1, a2, a3, a4, hv, hg, k0, k1, hrd⟩ := (HT.out.still fx).at Htr.out
  cases hv
  have Hc := Hz (copied81 HK.out hrd (HF.out _ (List.mem_of_getElem? Htr.out)) (HC.out _ (List.mem_of_getElem? Htr.out)))
  have FX := Hz fx
  have hjI : (j : Int) < (j : Int) + 1 := by omega
  have hjn : (0 : Int) <= (j : Int) := by omega
  clear hrd fx hpa K
  go_wp2_with fail
  (with_reducible refine Hc.out.mono ?_)
  rintro e w2 ⟨u, rfl, ho⟩
  obtain ⟨x1, x2, x3, x4, rfl⟩ := ho.shape
  have q9 := heap_alloc_at w2 (.cells #[.int .i64 n, .slice none 0 0, .slice none 0 0, .slice x1 tr.vars.length x2, .slice x3 tr.rows.length x4] 121) _ rfl
  have f9 := (World.Fr.refl w2 []).alloc (.cells #[.int .i64 n, .slice none 0 0, .slice none 0 0, .slice x1 tr.vars.length x2, .slice x3 tr.rows.length x4] 121)
  have F2 := Hz (FX.out.trans ho.fr (by simp))
  have hP0 : PBox w (w2.alloc (.cells #[.int .i64 n, .slice none 0 0, .slice none 0 0, .slice x1 tr.vars.length x2, .slice x3 tr.rows.length x4] 121)) w2.heap.size n ⟨n, .slice none 0 0, .slice none 0 0, .slice x1 tr.vars.length x2, .slice x3 tr.rows.length x4, ⟨[], []⟩, tr⟩ :=
   ⟨q9, F2.out.size, F2.out.trans f9 (by simp), TabIn.nul _ _, (ho.inn (fun b hb _ => Nat.le_trans FX.out.size hb)).still f9⟩
  have HP0 := Hz hP0
  clear q9 f9 hP0 ho Hc k0 k1 F2 FX
  go_upto_region 5 with (fail)
  generalize hW : World.alloc w2 _ = W3 at *
  clear hW hg
  generalize w2.heap.size = P at *
  have hpa := H.out.still HP0.out.fr
  obtain ⟨e0, e1, e2, e3, e4, e5, e6, e7, e8, e9, e10, ef⟩ := eleven hpa.box
  rw [HJ1.out] at e9
  have hzp := lt_of_heap hpa.box
  clear hpa
  go_upto_if 35 with (fail)
  go_cut [9] (fun s9 wx => s9 = .pointer (some ⟨P, 0, none⟩) /\ Hid (∃ (x1 : Option Addr) (x2 : Nat) (x3 : Option Addr) (x4 : Nat) (y1 : Option Addr) (y2 : Nat) (y3 : Option Addr) (y4 : Nat) (tl : Tb), PBox w wx P n ⟨n, .slice y1 tl.vars.length y2, .slice y3 tl.rows.length y4, .slice x1 tr.vars.length x2, .slice x3 tr.rows.length x4, tl, tr⟩ /\ (S.parts = 2 -> ts[0]? = some tl) /\ (S.parts = 1 -> tl = ⟨[], []⟩)))
  case first =>
   have hjj : j = 0 ∨ j = 1 := by omega
   rcases hjj with rfl | rfl
   ·have hfin : Hid (∃ (x1 : Option Addr) (x2 : Nat) (x3 : Option Addr) (x4 : Nat) (y1 : Option Addr) (y2 : Nat) (y3 : Option Addr) (y4 : Nat) (tl : Tb), PBox w W3 P n ⟨n, .slice y1 tl.vars.length y2, .slice y3 tl.rows.length y4, .slice x1 tr.vars.length x2, .slice x3 tr.rows.length x4, tl, tr⟩ /\ (S.parts = 2 -> ts[0]? = some tl) /\ (S.parts = 1 -> tl = ⟨[], []⟩)) :=
     Hz ⟨_, _, _, _, _, _, _, _, _, HP0.out, fun e => by have := HJ1.out; rw [e] at this; exact absurd this (by decide), fun _ => rfl⟩
    go_wp2
    go_meet
    case rel => exact ⟨rfl, hfin⟩
   ·obtain ⟨g', off', c', b1, b2, b3, b4, hv, hg, k0, k1, hrd⟩ := (HT.out.still HP0.out.fr).at Htl.out
    cases hv
    have Hc := Hz (copied81 HK.out hrd (HF.out _ (List.mem_of_getElem? Htl.out)) (HC.out _ (List.mem_of_getElem? Htl.out)))
    obtain ⟨m0, m1, m2, m3, m4, mf⟩ := five HP0.out.box
    have hzP := lt_of_heap HP0.out.box
    simp only [Nat.zero_mul, Nat.add_zero] at k0 k1
    clear hrd
    go_wp2_with fail
    (with_reducible refine Hc.out.mono ?_)
    rintro e w4 ⟨u, rfl, ho⟩
    obtain ⟨z1, z2, z3, z4, rfl⟩ := ho.shape
    have hP4 := HP0.out.still ho.fr
    have hfin : Hid (∃ (x1 : Option Addr) (x2 : Nat) (x3 : Option Addr) (x4 : Nat) (y1 : Option Addr) (y2 : Nat) (y3 : Option Addr) (y4 : Nat) (tl : Tb), PBox w ((w4.setCell ⟨P, 1, none⟩ (.slice z1 tlx.vars.length z2)).setCell ⟨P, 2, none⟩ (.slice z3 tlx.rows.length z4)) P n ⟨n, .slice y1 tl.vars.length y2, .slice y3 tl.rows.length y4, .slice x1 tr.vars.length x2, .slice x3 tr.rows.length x4, tl, tr⟩ /\ (S.parts = 2 -> ts[0]? = some tl) /\ (S.parts = 1 -> tl = ⟨[], []⟩)) :=
     Hz ⟨_, _, _, _, _, _, _, _, _, hP4.putl (ho.inn (fun b hb _ => Nat.le_trans HP0.out.fr.size hb)), fun _ => Htl.out, fun e => by have := HJ1.out; rw [e] at this; exact absurd this (by decide)⟩
    obtain ⟨m0, m1, m2, m3, m4, mf⟩ := five hP4.box
    have hzP := lt_of_heap hP4.box
    clear hP4 ho Hc
    go_wp2
    go_meet
    case rel => exact ⟨rfl, hfin⟩
  case rest =>
   obtain ⟨rfl, hh⟩ := hcut
   obtain ⟨x1, x2, x3, x4, y1, y2, y3, y4, tl, hP, htl1, htl2⟩ := hh.out
   have HPt : Hid (Point S n ts ⟨n, .slice y1 tl.vars.length y2, .slice y3 tl.rows.length y4, .slice x1 tr.vars.length x2, .slice x3 tr.rows.length x4, tl, tr⟩) := Hz ⟨rfl, by rw [HJ2.out]; exact Htr.out, htl1, htl2⟩
   have HP := Hz hP
   clear hP htl1 htl2 hh e0 e1 e2 e3 e4 e5 e6 e7 e8 e9 e10 ef hzp HP0 Htl Htr HT HF HC
   have hpa := H.out.still HP.out.fr
   obtain ⟨e0, e1, e2, e3, e4, e5, e6, e7, e8, e9, e10, ef⟩ := eleven hpa.box
   have hzp := lt_of_heap hpa.box
   obtain ⟨m0, m1, m2, m3, m4, mf⟩ := five HP.out.box
   have hzP := lt_of_heap HP.out.box
   clear hpa
   obtain ⟨i0, ji, jz0, jz1, jz2⟩ := info_parts info121
   have hlt := lt_of_heap H.out.box
   have hroom : (S.pts.length + 1) * 104 <= 140737488355328 /\ S.pts.length + 1 <= 9223372036854775807 := ⟨by omega, by omega⟩
   go_upto_region 7 with (fail)
   go_cut [9] (fun s9 wx => Hid (∃ (g3 : Nat) (off3 c3 : Nat), FutAt Q wx p { S with pts := S.pts ++ [⟨n, .slice y1 tl.vars.length y2, .slice y3 tl.rows.length y4, .slice x1 tr.vars.length x2, .slice x3 tr.rows.length x4, tl, tr⟩] } vl vr (.slice (some ⟨g3, off3, none⟩) (S.pts.length + 1) c3) /\ w.Fr wx (p :: (Value.slice d1 S.pts.length d2).blk) /\ (g3 ∈ (Value.slice d1 S.pts.length d2).blk ∨ w.heap.size <= g3)))
   case first =>
    have hfa := H.out.still HP.out.fr
    have Hsl0 := Hz hfa.pts.sl
    have HBx := Hz hfa.box
    have HPb := Hz hfa.podd.2
    have HFa := Hz hfa
    have HPQ := Hz (And.intro (HP.out.l.imp (R := Q) (fun b _ hb => HQ.out b hb)) (HP.out.r.imp (R := Q) (fun b _ hb => HQ.out b hb)))
    clear hfa
    go_region_law (first | (refine step_append_one _ rfl (.tmp 45) (.tmp 47) 117 rfl 121 i0 (.agg #[.int .i64 0, .slice none 0 0, .slice none 0 0, .slice none 0 0, .slice none 0 0]) 5 104 Tryz.underlying117 ji jz0 jz1 jz2 rfl (.slice d1 S.pts.length d2) S.pts.length (S.pts.flatMap Sn.cells) (by simp [Act.eval]) (World.Sl.alloc Hsl0.out _) wc.heap.size 1 [.int .i64 n, .slice y1 tl.vars.length y2, .slice y3 tl.rows.length y4, .slice x1 tr.vars.length x2, .slice x3 tr.rows.length x4] 121 (by simp [Act.eval]) (heap_alloc_at _ _ _ rfl) rfl rfl hroom ?_; intro g3 off3 c3 w5 hsl hfr hat hlt5; have hW1 := hfr.heap (heap_alloc_some HBx.out _) HPb.out; obtain ⟨r0, r1, r2, r3, r4, r5, r6, r7, r8, r9, r10, rf⟩ := eleven hW1; have hzp5 := lt_of_heap hW1; have HW1 := Hz hW1; have Hsl := Hz hsl; have Hfr := Hz hfr; have Hat := Hz hat; clear hW1 hsl hfr hat))
    all_goals
     have hfp : wc.Fr w5 (Value.slice d1 S.pts.length d2).blk := ((World.Fr.refl wc _).drew.alloc _).trans Hfr.out (fun _ h => .inl h)
     have hpush := HFa.out.push (k := ⟨n, .slice y1 tl.vars.length y2, .slice y3 tl.rows.length y4, .slice x1 tr.vars.length x2, .slice x3 tr.rows.length x4, tl, tr⟩) hfp Hsl.out HPQ.out.1 HPQ.out.2
     have hfin : Hid (∃ (q3 : Nat) (qo qc : Nat), FutAt Q (w5.setCell ⟨p, 6, none⟩ (.slice (some ⟨g3, off3, none⟩) (S.pts.length + 1) c3)) p { S with pts := S.pts ++ [⟨n, .slice y1 tl.vars.length y2, .slice y3 tl.rows.length y4, .slice x1 tr.vars.length x2, .slice x3 tr.rows.length x4, tl, tr⟩] } vl vr (.slice (some ⟨q3, qo, none⟩) (S.pts.length + 1) qc) /\ w.Fr (w5.setCell ⟨p, 6, none⟩ (.slice (some ⟨g3, off3, none⟩) (S.pts.length + 1) c3)) (p :: (Value.slice d1 S.pts.length d2).blk) /\ (q3 ∈ (Value.slice d1 S.pts.length d2).blk ∨ w.heap.size <= q3)) :=
      Hz ⟨g3, off3, c3, hpush.1, (((HP.out.fr.mono (L' := p :: (Value.slice d1 S.pts.length d2).blk) (by simp)).trans hfp (fun k hk => .inl (List.mem_cons_of_mem _ hk))).trans hpush.2 (fun k hk => .inl (by simp at hk; simp [hk]))), Hat.out.imp id (fun e => by have := HP.out.fr.size; simp at e; omega)⟩
     clear hpush hfp
     go_wp2_with fail
     go_meet
     case rel => exact hfin
   case rest =>
    obtain ⟨g3, off3, c3, hfut, hfr, hgb⟩ := hcut.out
    clear e0 e1 e2 e3 e4 e5 e6 e7 e8 e9 e10 ef hzp m0 m1 m2 m3 m4 mf hzP HP H
    obtain ⟨k, hk⟩ : ∃ k : Sn, ⟨n, .slice y1 tl.vars.length y2, .slice y3 tl.rows.length y4, .slice x1 tr.vars.length x2, .slice x3 tr.rows.length x4, tl, tr⟩ = k := ⟨_, rfl⟩
    rw [hk] at hfut HPt
    have hkn : n = k.time := by rw [<- hk]
    obtain ⟨hft, hfs⟩ := hfut.setTime n
    have hlt3 := hfut.pts.sl.lt g3 (by simp [Value.blk])
    have HW8 := Hz (hfr.trans hfs (fun x hx => .inl (by simp at hx; simp [hx])))
    have HB := Hz (show ∀ b, b ∈ [g3] -> b < (wc.setCell ⟨p, 8, none⟩ (.int .i64 n)).heap.size /\ (b ∈ (Value.slice d1 S.pts.length d2).blk ∨ w.heap.size <= b) from fun b hb => by
     simp at hb
     subst hb
     exact ⟨Nat.lt_of_lt_of_le hlt3 hfs.size, hgb⟩)
    have hD0 : DInv cf (fun b => Q b /\ b < (wc.setCell ⟨p, 8, none⟩ (.int .i64 n)).heap.size) (wc.setCell ⟨p, 8, none⟩ (.int .i64 n)) (wc.setCell ⟨p, 8, none⟩ (.int .i64 n)) p (pushF S k) (pushF S k) vl vr (.slice (some ⟨g3, off3, none⟩) (S.pts.length + 1) c3) (.slice none 0 0) [g3] [] := by
     have hft' : FutAt Q (wc.setCell ⟨p, 8, none⟩ (.int .i64 n)) p (pushF S k) vl vr (.slice (some ⟨g3, off3, none⟩) (S.pts.length + 1) c3) := by
      have : pushF S k = { { S with pts := S.pts ++ [k] } with time := n } := by rw [hkn]
      rw [this]
      exact hft
     refine ⟨hft'.imp (fun b hb hq => ⟨hq, hb⟩), VdAt.nil _ _, HOk.out k HPt.out, ?_, by simp, World.Fr.refl _ _, by simp [Value.blk], by simp [Value.blk], by simp⟩
     have := HM.out
     simp
     omega
    have HD0 := Hz hD0
    obtain ⟨e0, e1, e2, e3, e4, e5, e6, e7, e8, e9, e10, ef⟩ := eleven hfut.box
    have hzp := lt_of_heap hfut.box
    clear hD0 hlt3 hfs hft hfut hfr hgb hk hkn
    go_upto_region 9 with (fail)
    generalize hW : World.setCell wc _ _ = W8 at *
    clear hW e0 e1 e2 e3 e4 e5 e6 e7 e8 e9 e10 ef hzp
    have hl8 := lt_of_heap HD0.out.fut.box
    obtain ⟨S1, hS1⟩ : ∃ S1, pushF S k = S1 := ⟨_, rfl⟩
    have HD0' := HD0
    rw [hS1] at HD0
    have HS1 := Hz hS1
    clear hS1 HD0'
    go_wp2
    go_loopw [10] (fun s10 wr => ∃ (S' : FS) (vs : List Vd) (vp' vo : Value), s10 = vo /\ Hid (DInv cf (fun b => Q b /\ b < W8.heap.size) W8 wr p S1 S' vl vr vp' vo [g3] vs)) (fun s10 _ => S1.pts.length - vlen s10)
    case atStart => exact ⟨_, _, _, _, rfl, HD0⟩
    case round =>
     obtain ⟨S', vs, vp', vo, rfl, HD⟩ := hrel
     obtain ⟨qa, qc, rfl⟩ := HD.out.told.shape
     obtain ⟨z1, z2, rfl, hz, _⟩ := HD.out.fut.pts.sl.shape
     obtain ⟨e0, e1, e2, e3, e4, e5, e6, e7, e8, e9, e10, ef⟩ := eleven HD.out.fut.box
     have hzp := lt_of_heap HD.out.fut.box
     rcases Nat.eq_zero_or_pos S'.pts.length with h0 | h0
     ·have hfin := (HS1.out.symm ▸ HD.out).done (drainF_none (cf := cf) h0) HR0.out HPt.out HB.out HW8.out
      rw [h0] at e6
      have Hfin := Hz hfin
      clear h0 hfin
      go_wp2
      refine bodyPost_ret (v := .tuple #[.slice qa vs.length qc, .int .i64 0]) (by simp [results, Tryz.results33, go_sem]) rfl ⟨k, S', _, _, vs, W8.heap.size, rfl, Hfin.out⟩
     ·obtain ⟨k0, hk0⟩ : ∃ k0, S'.pts[0]? = some k0 := ⟨S'.pts[0], List.getElem?_eq_getElem h0⟩
      have hc := settled82 HD.out.fut HD.out.ok hk0
      obtain ⟨fn, hfn⟩ : ∃ fn, (if S'.nx then 137 else 139) = fn := ⟨_, rfl⟩
      rw [hfn] at hc
      have HFN := Hz hfn
      have Hc := Hz hc
      clear hfn hc
      have hpI : (0 : Int) < (S'.pts.length : Int) := by omega
      have Hk0 := Hz hk0
      clear hk0
      go_wp2_with fail
      (with_reducible refine Hc.out.mono ?_)
      rintro e w1 ⟨c1, c2, rfl, hb1, hb2, hf1⟩
      have HD1 := Hz (HD.out.still hf1)
      have Hb1 := Hz hb1; have Hb2 := Hz hb2
      clear hb1 hb2 hf1 Hc
      cases hs : settledB S' k0 with
      | false =>
       have hfin := (HS1.out.symm ▸ HD1.out).done (drainF_no (cf := cf) Hk0.out hs) HR0.out HPt.out HB.out HW8.out
       have Hfin := Hz hfin
       clear hs hfin
       go_wp2
       refine bodyPost_ret (v := .tuple #[.slice qa vs.length qc, .int .i64 0]) (by simp [results, Tryz.results33, go_sem]) rfl ⟨k, S', _, _, vs, W8.heap.size, rfl, Hfin.out⟩
      | true =>
       have Hs := Hz hs
       clear hs
       go_upto_region 13 with (fail)
       have hs1 := HD1.out.fut
       obtain ⟨gp, op, cp, hv, hcc, hgp, t0, _, _, _, _, tf, _, _⟩ := hs1.pts.at Hk0.out
       cases hv
       simp only [Nat.zero_mul, Nat.add_zero] at t0
       clear e0 e1 e2 e3 e4 e5 e6 e7 e8 e9 e10 ef hzp hpI
       obtain ⟨e0, e1, e2, e3, e4, e5, e6, e7, e8, e9, e10, ef⟩ := eleven hs1.box
       have hzp := lt_of_heap hs1.box
       obtain ⟨T, hT⟩ : ∃ T, tellF cf S' k0 = T := ⟨_, rfl⟩
       have hcall : ∀ W, w1.Fr W [] -> Calls Tryz.prog fn #[.pointer (some ⟨c1, 0, none⟩), .pointer (some ⟨c2, 0, none⟩)] W fun e w' => ∃ (u1 : Option Addr) (u2 : Nat) (u3 : Option Addr) (u4 : Nat), e = .returned (.agg #[.slice u1 T.vars.length u2, .slice u3 T.rows.length u4]) /\ SlTab w' (.agg #[.slice u1 T.vars.length u2, .slice u3 T.rows.length u4]) T /\ W.Fr w' [] := fun W hf => by
        rw [<- HFN.out, <- hT]
        exact told_call HK.out (HD1.out.fut.still hf) HD1.out.ok Hk0.out Hs.out (hf.heap Hb1.out (by simp)) (hf.heap Hb2.out (by simp))
       have hgd := tellF_good HK.out.ord HD1.out.ok (k0 := k0)
       rw [hT] at hgd
       have hcopy : ∀ W u, SlTab W u T -> Calls Tryz.prog 81 #[u] W fun e w' => ∃ u, e = .returned u /\ OwnTab W w' u T := fun W u h => copied81 HK.out h.rd (hgd.1.fits (by omega)) hgd.1.check
       have hgv : gp ∉ (Value.slice qa vs.length qc).blk := fun hm => by
        have h1 := HD1.out.new _ hm
        have h2 := (HB.out gp (HD1.out.blk gp (by simp [Value.blk]))).1
        omega
       have hpv : p ∉ (Value.slice qa vs.length qc).blk := fun hm => by
        have h1 := HD1.out.new _ hm
        omega
       have hmk : ∀ W, w1.Fr W (Value.slice qa vs.length qc).blk -> W.cell? ⟨p, 7, none⟩ = some (.int .i64 S'.told) /\ W.cell? ⟨p, 6, none⟩ = some (.slice (some ⟨gp, op, none⟩) S'.pts.length z2) /\ W.cell? ⟨gp, op, none⟩ = some (.int .i64 k0.time) /\ Hid (w1.Fr W (Value.slice qa vs.length qc).blk) := fun W hf => ⟨cellFr hf e7 hpv, cellFr hf e6 hpv, cellFr hf t0 hgv, Hz hf⟩
       have Hmk := Hz hmk; have Hcall := Hz hcall; have Hcopy := Hz hcopy; have HTt := Hz hT; have Hgv := Hz hgv; have Hpv := Hz hpv
       have hvl : vs.length <= 1000 := by have := HD1.out.len; have := (HOk.out k HPt.out).many; rw [HS1.out] at this; omega
       have hvroom : (vs.length + 1) * 64 <= 140737488355328 /\ vs.length + 1 <= 9223372036854775807 := ⟨by omega, by omega⟩
       obtain ⟨i4, vi, vz0, vz1, vz2⟩ := info_parts info74
       have hF0 : Hid (w1.Fr w1 []) := Hz (World.Fr.refl w1 [])
       have HFx := Hz (World.Fr.refl w1 (Value.slice qa vs.length qc).blk)
       have hwt : IntKind.i64.wrap (S'.told + 1) = S'.told + 1 := IntWalk.i64_in _ (by have := HD1.out.ok.told; omega)
       clear hs1 hmk hcall hcopy hT hgd hgv hpv
       rcases Bool.eq_false_or_eq_true S'.nx with hnx | hnx
       ·have hfn := HFN.out
        rw [hnx] at hfn
        simp only [if_true, Bool.false_eq_true, if_false] at hfn
        subst hfn
        clear hnx
        refine wp_region_noPanic ?_
        refine wp_region_held_drew (S := (fun w' => w'.cell? ⟨p, 7, none⟩ = some (.int .i64 S'.told) /\ w'.cell? ⟨p, 6, none⟩ = some (.slice (some ⟨gp, op, none⟩) S'.pts.length z2) /\ w'.cell? ⟨gp, op, none⟩ = some (.int .i64 k0.time) /\ Hid (w1.Fr w' (Value.slice qa vs.length qc).blk))) (by kernel_rfl) ?s1 (fun hHeld1 => ?_)
        case s1 => ((try dsimp only); first | exact Hmk.out _ (HFx.out) | exact Hmk.out _ (HFx.out.drew) | exact Hmk.out _ (HFx.out.alloc _))
        refine wpAnyH_take (i := 0) (oi := _) (v := ?v2) rfl (by kernel_rfl) (by kernel_rfl) (by kernel_rfl) (fun _ _ _ h => h) (Or.inl ⟨by rfl, ?y2⟩) (by assumption) ?z2
        case y2 => (intro w hSw; (try dsimp only at hSw); go_simp; (try with_reducible rfl))
        (try simp only [Act.put, sA, sB, sC])
        refine wpAnyH_take (i := 1) (oi := _) (v := ?v3) rfl (by kernel_rfl) (by kernel_rfl) (by kernel_rfl) (fun _ _ _ h => h) (Or.inl ⟨by rfl, ?y3⟩) (by assumption) ?z3
        case y3 => (intro w hSw; (try dsimp only at hSw); go_simp; (try with_reducible rfl))
        (try simp only [Act.put, sA, sB, sC])
        refine wpAnyH_take (i := 2) (oi := _) (v := ?v4) rfl (by kernel_rfl) (by kernel_rfl) (by kernel_rfl) (fun _ _ _ h => h) (Or.inl ⟨by rfl, ?y4⟩) (by assumption) ?z4
        case y4 => (intro w hSw; (try dsimp only at hSw); go_simp; (try with_reducible rfl))
        (try simp only [Act.put, sA, sB, sC])
        refine wpAnyH_take (i := 3) (oi := _) (v := ?v5) rfl (by kernel_rfl) (by kernel_rfl) (by kernel_rfl) (fun _ _ _ h => h) (Or.inl ⟨by rfl, ?y5⟩) (by assumption) ?z5
        case y5 => (intro w hSw; (try dsimp only at hSw); go_simp; (try with_reducible rfl))
        (try simp only [Act.put, sA, sB, sC])
        refine wpAnyH_take (i := 4) (oi := _) (v := ?v6) rfl (by kernel_rfl) (by kernel_rfl) (by kernel_rfl) (fun _ _ _ h => h) (Or.inl ⟨by rfl, ?y6⟩) (by assumption) ?z6
        case y6 => (intro w hSw; (try dsimp only at hSw); go_simp; (try with_reducible rfl))
        (try simp only [Act.put, sA, sB, sC])
        refine wpAnyH_take (i := 5) (oi := _) (v := ?v7) rfl (by kernel_rfl) (by kernel_rfl) (by kernel_rfl) (fun _ _ _ h => h) (Or.inl ⟨by rfl, ?y7⟩) (by assumption) ?z7
        case y7 => (intro w hSw; (try dsimp only at hSw); go_simp; (try with_reducible rfl))
        (try simp only [Act.put, sA, sB, sC])
        refine wpAnyH_take (i := 6) (oi := _) (v := ?v8) rfl (by kernel_rfl) (by kernel_rfl) (by kernel_rfl) (fun _ _ _ h => h) (Or.inl ⟨by rfl, ?y8⟩) (by assumption) ?z8
        case y8 => (intro w hSw; (try dsimp only at hSw); go_simp; (try with_reducible rfl))
        (try simp only [Act.put, sA, sB, sC])
        refine wpAnyH_take (i := 7) (oi := _) (v := ?v9) rfl (by kernel_rfl) (by kernel_rfl) (by kernel_rfl) (fun _ _ _ h => h) (Or.inl ⟨by rfl, ?y9⟩) (by assumption) ?z9
        case y9 => (intro w hSw; (try dsimp only at hSw); go_simp; (try with_reducible rfl))
        (try simp only [Act.put, sA, sB, sC])
        refine wpAnyH_take (i := 8) (oi := _) (v := ?v10) rfl (by kernel_rfl) (by kernel_rfl) (by kernel_rfl) (fun _ _ _ h => h) (Or.inl ⟨by rfl, ?y10⟩) (by assumption) ?z10
        case y10 => (intro w hSw; (try dsimp only at hSw); go_simp; (try with_reducible rfl))
        (try simp only [Act.put, sA, sB, sC])
        refine wpAnyH_take (i := 9) (oi := _) (v := ?v11) rfl (by kernel_rfl) (by kernel_rfl) (by kernel_rfl) (fun _ _ _ h => h) (Or.inl ⟨by rfl, ?y11⟩) (by assumption) ?z11
        case y11 => (intro w hSw; (try dsimp only at hSw); go_simp; (try with_reducible rfl))
        (try simp only [Act.put, sA, sB, sC])
        refine wpAnyH_take (i := 10) (oi := _) (v := ?v12) rfl (by kernel_rfl) (by kernel_rfl) (by kernel_rfl) (fun _ _ _ h => h) (Or.inl ⟨by rfl, ?y12⟩) (by assumption) ?z12
        case y12 => (intro w hSw; (try dsimp only at hSw); go_simp; (try with_reducible rfl))
        (try simp only [Act.put, sA, sB, sC])
        refine wpAnyH_take (i := 11) (oi := _) (v := ?v13) rfl (by kernel_rfl) (by kernel_rfl) (by kernel_rfl) (fun _ _ _ h => h) (Or.inl ⟨by rfl, ?y13⟩) (by assumption) ?z13
        case y13 => (intro w hSw; (try dsimp only at hSw); go_simp; (try with_reducible rfl))
        (try simp only [Act.put, sA, sB, sC])
        refine wpAnyH_take (i := 12) (oi := _) (v := ?v14) rfl (by kernel_rfl) (by kernel_rfl) (by kernel_rfl) (fun _ _ _ h => h) (Or.inl ⟨by rfl, ?y14⟩) (by assumption) ?z14
        case y14 => (intro w hSw; (try dsimp only at hSw); go_simp; (try with_reducible rfl))
        (try simp only [Act.put, sA, sB, sC])
        refine wpAnyH_ready (rs := [13]) (by kernel_rfl) (by simp) ?_
        refine AllReadyH.cons (o := _) rfl (fun K hK => ?_) ?_
        rotate_left
        exact AllReadyH.nil
        focus
         go_simp
         (first | (go_at_call 137; (with_reducible refine (Hcall.out _ (World.Fr.drew hF0.out)).mono ?_); rintro e w2 ⟨u1, u2, u3, u4, rfl, hsl, hf2⟩; have HFx := Hz ((World.Fr.refl w1 (Value.slice qa vs.length qc).blk).drew.trans hf2 (by simp)); have HF2 := Hz ((World.Fr.refl w1 []).drew.trans hf2 (by simp)); have HSl := Hz hsl; clear hsl hf2) | (go_at_call 81; (with_reducible refine (Hcopy.out _ _ HSl.out).mono ?_); rintro e w3 ⟨u, rfl, ho⟩; obtain ⟨y1, y2, y3, y4, rfl⟩ := ho.shape; have HFx := Hz (HFx.out.trans ho.fr (by simp)); have HF3 := Hz (HF2.out.trans ho.fr (by simp)); have Ho := Hz ho; clear ho; have Hvs := Hz (HD1.out.told.sl.fr HF3.out (by simp))) | (refine step_append_one _ rfl (.tmp 68) (.tmp 84) 62 rfl 74 i4 (.agg #[.int .i64 0, .int .i64 0, .slice none 0 0, .slice none 0 0]) 4 64 Tryz.underlying62 vi vz0 vz1 vz2 rfl (.slice qa vs.length qc) vs.length (vs.flatMap Vd.cells) (by simp [Act.eval]) (World.Sl.alloc Hvs.out _) w3.heap.size 1 [.int .i64 S'.told, .int .i64 k0.time, .slice y1 T.vars.length y2, .slice y3 T.rows.length y4] 74 (by simp [Act.eval]) (heap_alloc_at _ _ _ rfl) rfl rfl hvroom ?_; intro g3' off3' c3' w5 hsl hfr hat hlt5; have HFx := Hz ((HFx.out.alloc (.cells #[.int .i64 S'.told, .int .i64 k0.time, .slice y1 T.vars.length y2, .slice y3 T.rows.length y4] 74)).trans hfr (fun _ h => .inl h)); have Hsl := Hz hsl; have Hfr := Hz hfr; have Hat := Hz hat; clear hsl hfr hat))
         (try go_wp2_with fail)
         refine hK.out _ _ ?s15 (fun hHeld15 => ?_)
         case s15 => ((try dsimp only); first | exact Hmk.out _ (HFx.out) | exact Hmk.out _ (HFx.out.drew) | exact Hmk.out _ (HFx.out.alloc _))
         clear hK K
         (try simp only [Act.put, sA, sB, sC])
         clear hHeld1
         refine wpAnyH_ready (rs := [14]) (by kernel_rfl) (by simp) ?_
         refine AllReadyH.cons (o := _) rfl (fun K hK => ?_) ?_
         rotate_left
         exact AllReadyH.nil
         focus
          go_simp
          (first | (go_at_call 137; (with_reducible refine (Hcall.out _ (World.Fr.drew hF0.out)).mono ?_); rintro e w2 ⟨u1, u2, u3, u4, rfl, hsl, hf2⟩; have HFx := Hz ((World.Fr.refl w1 (Value.slice qa vs.length qc).blk).drew.trans hf2 (by simp)); have HF2 := Hz ((World.Fr.refl w1 []).drew.trans hf2 (by simp)); have HSl := Hz hsl; clear hsl hf2) | (go_at_call 81; (with_reducible refine (Hcopy.out _ _ HSl.out).mono ?_); rintro e w3 ⟨u, rfl, ho⟩; obtain ⟨y1, y2, y3, y4, rfl⟩ := ho.shape; have HFx := Hz (HFx.out.trans ho.fr (by simp)); have HF3 := Hz (HF2.out.trans ho.fr (by simp)); have Ho := Hz ho; clear ho; have Hvs := Hz (HD1.out.told.sl.fr HF3.out (by simp))) | (refine step_append_one _ rfl (.tmp 68) (.tmp 84) 62 rfl 74 i4 (.agg #[.int .i64 0, .int .i64 0, .slice none 0 0, .slice none 0 0]) 4 64 Tryz.underlying62 vi vz0 vz1 vz2 rfl (.slice qa vs.length qc) vs.length (vs.flatMap Vd.cells) (by simp [Act.eval]) (World.Sl.alloc Hvs.out _) w3.heap.size 1 [.int .i64 S'.told, .int .i64 k0.time, .slice y1 T.vars.length y2, .slice y3 T.rows.length y4] 74 (by simp [Act.eval]) (heap_alloc_at _ _ _ rfl) rfl rfl hvroom ?_; intro g3' off3' c3' w5 hsl hfr hat hlt5; have HFx := Hz ((HFx.out.alloc (.cells #[.int .i64 S'.told, .int .i64 k0.time, .slice y1 T.vars.length y2, .slice y3 T.rows.length y4] 74)).trans hfr (fun _ h => .inl h)); have Hsl := Hz hsl; have Hfr := Hz hfr; have Hat := Hz hat; clear hsl hfr hat))
          (try go_wp2_with fail)
          refine hK.out _ _ ?s16 (fun hHeld16 => ?_)
          case s16 => ((try dsimp only); first | exact Hmk.out _ (HFx.out) | exact Hmk.out _ (HFx.out.drew) | exact Hmk.out _ (HFx.out.alloc _))
          clear hK K
          (try simp only [Act.put, sA, sB, sC])
          clear hHeld15
          refine wpAnyH_take (i := 15) (oi := _) (v := ?v17) rfl (by kernel_rfl) (by kernel_rfl) (by kernel_rfl) (fun _ _ _ h => h) (Or.inl ⟨by rfl, ?y17⟩) (by assumption) ?z17
          case y17 => (intro w hSw; (try dsimp only at hSw); go_simp; (try with_reducible rfl))
          (try simp only [Act.put, sA, sB, sC])
          refine wpAnyH_ready (rs := [16]) (by kernel_rfl) (by simp) ?_
          refine AllReadyH.cons (o := _) rfl (fun K hK => ?_) ?_
          rotate_left
          exact AllReadyH.nil
          focus
           go_simp
           refine hK.out _ _ ?s18 (fun hHeld18 => ?_)
           case s18 => ((try dsimp only); first | exact Hmk.out _ (HFx.out) | exact Hmk.out _ (HFx.out.drew) | exact Hmk.out _ (HFx.out.alloc _))
           clear hK K
           (try simp only [Act.put, sA, sB, sC])
           clear hHeld16
           refine wpAnyH_ready (rs := [17]) (by kernel_rfl) (by simp) ?_
           refine AllReadyH.cons (o := _) rfl (fun K hK => ?_) ?_
           rotate_left
           exact AllReadyH.nil
           focus
            (first | (go_at_call 137; (with_reducible refine (Hcall.out _ (World.Fr.drew hF0.out)).mono ?_); rintro e w2 ⟨u1, u2, u3, u4, rfl, hsl, hf2⟩; have HFx := Hz ((World.Fr.refl w1 (Value.slice qa vs.length qc).blk).drew.trans hf2 (by simp)); have HF2 := Hz ((World.Fr.refl w1 []).drew.trans hf2 (by simp)); have HSl := Hz hsl; clear hsl hf2) | (go_at_call 81; (with_reducible refine (Hcopy.out _ _ HSl.out).mono ?_); rintro e w3 ⟨u, rfl, ho⟩; obtain ⟨y1, y2, y3, y4, rfl⟩ := ho.shape; have HFx := Hz (HFx.out.trans ho.fr (by simp)); have HF3 := Hz (HF2.out.trans ho.fr (by simp)); have Ho := Hz ho; clear ho; have Hvs := Hz (HD1.out.told.sl.fr HF3.out (by simp))) | (refine step_append_one _ rfl (.tmp 68) (.tmp 84) 62 rfl 74 i4 (.agg #[.int .i64 0, .int .i64 0, .slice none 0 0, .slice none 0 0]) 4 64 Tryz.underlying62 vi vz0 vz1 vz2 rfl (.slice qa vs.length qc) vs.length (vs.flatMap Vd.cells) (by simp [Act.eval]) (World.Sl.alloc Hvs.out _) w3.heap.size 1 [.int .i64 S'.told, .int .i64 k0.time, .slice y1 T.vars.length y2, .slice y3 T.rows.length y4] 74 (by simp [Act.eval]) (heap_alloc_at _ _ _ rfl) rfl rfl hvroom ?_; intro g3' off3' c3' w5 hsl hfr hat hlt5; have HFx := Hz ((HFx.out.alloc (.cells #[.int .i64 S'.told, .int .i64 k0.time, .slice y1 T.vars.length y2, .slice y3 T.rows.length y4] 74)).trans hfr (fun _ h => .inl h)); have Hsl := Hz hsl; have Hfr := Hz hfr; have Hat := Hz hat; clear hsl hfr hat))
            refine hK.out _ _ ?s19 (fun hHeld19 => ?_)
            case s19 => ((try dsimp only); first | exact Hmk.out _ (HFx.out) | exact Hmk.out _ (HFx.out.drew) | exact Hmk.out _ (HFx.out.alloc _))
            clear hK K
            (try simp only [Act.put, sA, sB, sC])
            clear hHeld18
            refine wpAnyH_take (i := 18) (oi := _) (v := ?v20) rfl (by kernel_rfl) (by kernel_rfl) (by kernel_rfl) (fun _ _ _ h => h) (Or.inl ⟨by rfl, ?y20⟩) (by assumption) ?z20
            case y20 => (intro w hSw; (try dsimp only at hSw); go_simp; (try with_reducible rfl))
            (try simp only [Act.put, sA, sB, sC])
            refine wpAnyH_done (by kernel_rfl) ?_ _
        all_goals (refine NoPanic.normal ?_)
        have hbx := HFx.out.heap HD1.out.fut.box Hpv.out
        clear e0 e1 e2 e3 e4 e5 e6 e7 e8 e9 e10 ef hzp t0 tf hgp
        obtain ⟨e0, e1, e2, e3, e4, e5, e6, e7, e8, e9, e10, ef⟩ := eleven hbx
        have hzp := lt_of_heap hbx
        have htab : TabIn (fun b => W8.heap.size <= b) w5 (.agg #[.slice y1 T.vars.length y2, .slice y3 T.rows.length y4]) T := by
         have h3 : TabIn (fun b => W8.heap.size <= b) w3 (.agg #[.slice y1 T.vars.length y2, .slice y3 T.rows.length y4]) T := Ho.out.inn (fun b hb _ => Nat.le_trans (HD1.out.fr.trans (HF2.out.mono (L' := [p]) (by simp)) (fun x hx => .inl hx)).size hb)
         have ho4 := ((HD1.out.told.still HF3.out).still ((World.Fr.refl w3 []).alloc (.cells #[.int .i64 S'.told, .int .i64 k0.time, .slice y1 T.vars.length y2, .slice y3 T.rows.length y4] 74))).odd
         exact (h3.still ((World.Fr.refl w3 []).alloc (.cells #[.int .i64 S'.told, .int .i64 k0.time, .slice y1 T.vars.length y2, .slice y3 T.rows.length y4] 74))).fr Hfr.out ho4
        have hnew : ∀ b, b ∈ (Value.slice (some ⟨g3', off3', none⟩) (vs.length + 1) c3').blk -> b ∈ (Value.slice qa vs.length qc).blk ∨ w1.heap.size <= b := fun b hb => by
         simp [Value.blk] at hb
         subst hb
         exact Hat.out.imp id (fun e => by have := HF3.out.size; simp at e; omega)
        have hstep := fun v' hv hvb => DInv.step HD1.out Hk0.out Hs.out hl8 (fun b hb => (HB.out b hb).1) HTt.out.symm HFx.out Hsl.out hnew htab (v' := v') hv hvb
        have hpI : (0 : Int) < (S'.pts.length : Int) := by omega
        have hsp := HD1.out.fut.pts.sl
        have hd : w1.Sl 121 5 (.slice (if z2 = 1 then some ⟨gp, op, none⟩ else some ⟨gp, op + 5, none⟩) (S'.pts.length - 1) (z2 - 1)) (S'.pts.length - 1) ((S'.pts.drop 1).flatMap Sn.cells) := by
         rw [<- flat_drop1]
         split
         ·exact hsp.drop_all 1 (by omega)
         ·exact hsp.drop 1 (by omega)
        have hS := hstep _ hd (by split <;> simp [Value.blk])
        have HS := Hz hS
        have HZ := Hz (show S1.pts.length - (vs.length + 1) < S1.pts.length - vs.length from by have := HD1.out.len; omega)
        have hpI1 : (1 : Int) <= (S'.pts.length : Int) := by omega
        clear hd hS hsp hbx htab hnew hstep Hat Hfr Hsl Ho Hvs HF3 HF2 HSl Hcall Hcopy Hmk
        go_wp2
        go_roundw
        case rel => exact ⟨_, _, _, _, rfl, HS⟩
        case measure => exact HZ.out
       ·have hfn := HFN.out
        rw [hnx] at hfn
        simp only [if_true, Bool.false_eq_true, if_false] at hfn
        subst hfn
        clear hnx
        refine wp_region_noPanic ?_
        refine wp_region_held_drew (S := (fun w' => w'.cell? ⟨p, 7, none⟩ = some (.int .i64 S'.told) /\ w'.cell? ⟨p, 6, none⟩ = some (.slice (some ⟨gp, op, none⟩) S'.pts.length z2) /\ w'.cell? ⟨gp, op, none⟩ = some (.int .i64 k0.time) /\ Hid (w1.Fr w' (Value.slice qa vs.length qc).blk))) (by kernel_rfl) ?s21 (fun hHeld21 => ?_)
        case s21 => ((try dsimp only); first | exact Hmk.out _ (HFx.out) | exact Hmk.out _ (HFx.out.drew) | exact Hmk.out _ (HFx.out.alloc _))
        refine wpAnyH_take (i := 0) (oi := _) (v := ?v22) rfl (by kernel_rfl) (by kernel_rfl) (by kernel_rfl) (fun _ _ _ h => h) (Or.inl ⟨by rfl, ?y22⟩) (by assumption) ?z22
        case y22 => (intro w hSw; (try dsimp only at hSw); go_simp; (try with_reducible rfl))
        (try simp only [Act.put, sA, sB, sC])
        refine wpAnyH_take (i := 1) (oi := _) (v := ?v23) rfl (by kernel_rfl) (by kernel_rfl) (by kernel_rfl) (fun _ _ _ h => h) (Or.inl ⟨by rfl, ?y23⟩) (by assumption) ?z23
        case y23 => (intro w hSw; (try dsimp only at hSw); go_simp; (try with_reducible rfl))
        (try simp only [Act.put, sA, sB, sC])
        refine wpAnyH_take (i := 2) (oi := _) (v := ?v24) rfl (by kernel_rfl) (by kernel_rfl) (by kernel_rfl) (fun _ _ _ h => h) (Or.inl ⟨by rfl, ?y24⟩) (by assumption) ?z24
        case y24 => (intro w hSw; (try dsimp only at hSw); go_simp; (try with_reducible rfl))
        (try simp only [Act.put, sA, sB, sC])
        refine wpAnyH_take (i := 3) (oi := _) (v := ?v25) rfl (by kernel_rfl) (by kernel_rfl) (by kernel_rfl) (fun _ _ _ h => h) (Or.inl ⟨by rfl, ?y25⟩) (by assumption) ?z25
        case y25 => (intro w hSw; (try dsimp only at hSw); go_simp; (try with_reducible rfl))
        (try simp only [Act.put, sA, sB, sC])
        refine wpAnyH_take (i := 4) (oi := _) (v := ?v26) rfl (by kernel_rfl) (by kernel_rfl) (by kernel_rfl) (fun _ _ _ h => h) (Or.inl ⟨by rfl, ?y26⟩) (by assumption) ?z26
        case y26 => (intro w hSw; (try dsimp only at hSw); go_simp; (try with_reducible rfl))
        (try simp only [Act.put, sA, sB, sC])
        refine wpAnyH_take (i := 5) (oi := _) (v := ?v27) rfl (by kernel_rfl) (by kernel_rfl) (by kernel_rfl) (fun _ _ _ h => h) (Or.inl ⟨by rfl, ?y27⟩) (by assumption) ?z27
        case y27 => (intro w hSw; (try dsimp only at hSw); go_simp; (try with_reducible rfl))
        (try simp only [Act.put, sA, sB, sC])
        refine wpAnyH_take (i := 6) (oi := _) (v := ?v28) rfl (by kernel_rfl) (by kernel_rfl) (by kernel_rfl) (fun _ _ _ h => h) (Or.inl ⟨by rfl, ?y28⟩) (by assumption) ?z28
        case y28 => (intro w hSw; (try dsimp only at hSw); go_simp; (try with_reducible rfl))
        (try simp only [Act.put, sA, sB, sC])
        refine wpAnyH_take (i := 7) (oi := _) (v := ?v29) rfl (by kernel_rfl) (by kernel_rfl) (by kernel_rfl) (fun _ _ _ h => h) (Or.inl ⟨by rfl, ?y29⟩) (by assumption) ?z29
        case y29 => (intro w hSw; (try dsimp only at hSw); go_simp; (try with_reducible rfl))
        (try simp only [Act.put, sA, sB, sC])
        refine wpAnyH_take (i := 8) (oi := _) (v := ?v30) rfl (by kernel_rfl) (by kernel_rfl) (by kernel_rfl) (fun _ _ _ h => h) (Or.inl ⟨by rfl, ?y30⟩) (by assumption) ?z30
        case y30 => (intro w hSw; (try dsimp only at hSw); go_simp; (try with_reducible rfl))
        (try simp only [Act.put, sA, sB, sC])
        refine wpAnyH_take (i := 9) (oi := _) (v := ?v31) rfl (by kernel_rfl) (by kernel_rfl) (by kernel_rfl) (fun _ _ _ h => h) (Or.inl ⟨by rfl, ?y31⟩) (by assumption) ?z31
        case y31 => (intro w hSw; (try dsimp only at hSw); go_simp; (try with_reducible rfl))
        (try simp only [Act.put, sA, sB, sC])
        refine wpAnyH_take (i := 10) (oi := _) (v := ?v32) rfl (by kernel_rfl) (by kernel_rfl) (by kernel_rfl) (fun _ _ _ h => h) (Or.inl ⟨by rfl, ?y32⟩) (by assumption) ?z32
        case y32 => (intro w hSw; (try dsimp only at hSw); go_simp; (try with_reducible rfl))
        (try simp only [Act.put, sA, sB, sC])
        refine wpAnyH_take (i := 11) (oi := _) (v := ?v33) rfl (by kernel_rfl) (by kernel_rfl) (by kernel_rfl) (fun _ _ _ h => h) (Or.inl ⟨by rfl, ?y33⟩) (by assumption) ?z33
        case y33 => (intro w hSw; (try dsimp only at hSw); go_simp; (try with_reducible rfl))
        (try simp only [Act.put, sA, sB, sC])
        refine wpAnyH_take (i := 12) (oi := _) (v := ?v34) rfl (by kernel_rfl) (by kernel_rfl) (by kernel_rfl) (fun _ _ _ h => h) (Or.inl ⟨by rfl, ?y34⟩) (by assumption) ?z34
        case y34 => (intro w hSw; (try dsimp only at hSw); go_simp; (try with_reducible rfl))
        (try simp only [Act.put, sA, sB, sC])
        refine wpAnyH_ready (rs := [13]) (by kernel_rfl) (by simp) ?_
        refine AllReadyH.cons (o := _) rfl (fun K hK => ?_) ?_
        rotate_left
        exact AllReadyH.nil
        focus
         go_simp
         (first | (go_at_call 139; (with_reducible refine (Hcall.out _ (World.Fr.drew hF0.out)).mono ?_); rintro e w2 ⟨u1, u2, u3, u4, rfl, hsl, hf2⟩; have HFx := Hz ((World.Fr.refl w1 (Value.slice qa vs.length qc).blk).drew.trans hf2 (by simp)); have HF2 := Hz ((World.Fr.refl w1 []).drew.trans hf2 (by simp)); have HSl := Hz hsl; clear hsl hf2) | (go_at_call 81; (with_reducible refine (Hcopy.out _ _ HSl.out).mono ?_); rintro e w3 ⟨u, rfl, ho⟩; obtain ⟨y1, y2, y3, y4, rfl⟩ := ho.shape; have HFx := Hz (HFx.out.trans ho.fr (by simp)); have HF3 := Hz (HF2.out.trans ho.fr (by simp)); have Ho := Hz ho; clear ho; have Hvs := Hz (HD1.out.told.sl.fr HF3.out (by simp))) | (refine step_append_one _ rfl (.tmp 68) (.tmp 84) 62 rfl 74 i4 (.agg #[.int .i64 0, .int .i64 0, .slice none 0 0, .slice none 0 0]) 4 64 Tryz.underlying62 vi vz0 vz1 vz2 rfl (.slice qa vs.length qc) vs.length (vs.flatMap Vd.cells) (by simp [Act.eval]) (World.Sl.alloc Hvs.out _) w3.heap.size 1 [.int .i64 S'.told, .int .i64 k0.time, .slice y1 T.vars.length y2, .slice y3 T.rows.length y4] 74 (by simp [Act.eval]) (heap_alloc_at _ _ _ rfl) rfl rfl hvroom ?_; intro g3' off3' c3' w5 hsl hfr hat hlt5; have HFx := Hz ((HFx.out.alloc (.cells #[.int .i64 S'.told, .int .i64 k0.time, .slice y1 T.vars.length y2, .slice y3 T.rows.length y4] 74)).trans hfr (fun _ h => .inl h)); have Hsl := Hz hsl; have Hfr := Hz hfr; have Hat := Hz hat; clear hsl hfr hat))
         (try go_wp2_with fail)
         refine hK.out _ _ ?s35 (fun hHeld35 => ?_)
         case s35 => ((try dsimp only); first | exact Hmk.out _ (HFx.out) | exact Hmk.out _ (HFx.out.drew) | exact Hmk.out _ (HFx.out.alloc _))
         clear hK K
         (try simp only [Act.put, sA, sB, sC])
         clear hHeld21
         refine wpAnyH_ready (rs := [14]) (by kernel_rfl) (by simp) ?_
         refine AllReadyH.cons (o := _) rfl (fun K hK => ?_) ?_
         rotate_left
         exact AllReadyH.nil
         focus
          go_simp
          (first | (go_at_call 139; (with_reducible refine (Hcall.out _ (World.Fr.drew hF0.out)).mono ?_); rintro e w2 ⟨u1, u2, u3, u4, rfl, hsl, hf2⟩; have HFx := Hz ((World.Fr.refl w1 (Value.slice qa vs.length qc).blk).drew.trans hf2 (by simp)); have HF2 := Hz ((World.Fr.refl w1 []).drew.trans hf2 (by simp)); have HSl := Hz hsl; clear hsl hf2) | (go_at_call 81; (with_reducible refine (Hcopy.out _ _ HSl.out).mono ?_); rintro e w3 ⟨u, rfl, ho⟩; obtain ⟨y1, y2, y3, y4, rfl⟩ := ho.shape; have HFx := Hz (HFx.out.trans ho.fr (by simp)); have HF3 := Hz (HF2.out.trans ho.fr (by simp)); have Ho := Hz ho; clear ho; have Hvs := Hz (HD1.out.told.sl.fr HF3.out (by simp))) | (refine step_append_one _ rfl (.tmp 68) (.tmp 84) 62 rfl 74 i4 (.agg #[.int .i64 0, .int .i64 0, .slice none 0 0, .slice none 0 0]) 4 64 Tryz.underlying62 vi vz0 vz1 vz2 rfl (.slice qa vs.length qc) vs.length (vs.flatMap Vd.cells) (by simp [Act.eval]) (World.Sl.alloc Hvs.out _) w3.heap.size 1 [.int .i64 S'.told, .int .i64 k0.time, .slice y1 T.vars.length y2, .slice y3 T.rows.length y4] 74 (by simp [Act.eval]) (heap_alloc_at _ _ _ rfl) rfl rfl hvroom ?_; intro g3' off3' c3' w5 hsl hfr hat hlt5; have HFx := Hz ((HFx.out.alloc (.cells #[.int .i64 S'.told, .int .i64 k0.time, .slice y1 T.vars.length y2, .slice y3 T.rows.length y4] 74)).trans hfr (fun _ h => .inl h)); have Hsl := Hz hsl; have Hfr := Hz hfr; have Hat := Hz hat; clear hsl hfr hat))
          (try go_wp2_with fail)
          refine hK.out _ _ ?s36 (fun hHeld36 => ?_)
          case s36 => ((try dsimp only); first | exact Hmk.out _ (HFx.out) | exact Hmk.out _ (HFx.out.drew) | exact Hmk.out _ (HFx.out.alloc _))
          clear hK K
          (try simp only [Act.put, sA, sB, sC])
          clear hHeld35
          refine wpAnyH_take (i := 15) (oi := _) (v := ?v37) rfl (by kernel_rfl) (by kernel_rfl) (by kernel_rfl) (fun _ _ _ h => h) (Or.inl ⟨by rfl, ?y37⟩) (by assumption) ?z37
          case y37 => (intro w hSw; (try dsimp only at hSw); go_simp; (try with_reducible rfl))
          (try simp only [Act.put, sA, sB, sC])
          refine wpAnyH_ready (rs := [16]) (by kernel_rfl) (by simp) ?_
          refine AllReadyH.cons (o := _) rfl (fun K hK => ?_) ?_
          rotate_left
          exact AllReadyH.nil
          focus
           go_simp
           refine hK.out _ _ ?s38 (fun hHeld38 => ?_)
           case s38 => ((try dsimp only); first | exact Hmk.out _ (HFx.out) | exact Hmk.out _ (HFx.out.drew) | exact Hmk.out _ (HFx.out.alloc _))
           clear hK K
           (try simp only [Act.put, sA, sB, sC])
           clear hHeld36
           refine wpAnyH_ready (rs := [17]) (by kernel_rfl) (by simp) ?_
           refine AllReadyH.cons (o := _) rfl (fun K hK => ?_) ?_
           rotate_left
           exact AllReadyH.nil
           focus
            (first | (go_at_call 139; (with_reducible refine (Hcall.out _ (World.Fr.drew hF0.out)).mono ?_); rintro e w2 ⟨u1, u2, u3, u4, rfl, hsl, hf2⟩; have HFx := Hz ((World.Fr.refl w1 (Value.slice qa vs.length qc).blk).drew.trans hf2 (by simp)); have HF2 := Hz ((World.Fr.refl w1 []).drew.trans hf2 (by simp)); have HSl := Hz hsl; clear hsl hf2) | (go_at_call 81; (with_reducible refine (Hcopy.out _ _ HSl.out).mono ?_); rintro e w3 ⟨u, rfl, ho⟩; obtain ⟨y1, y2, y3, y4, rfl⟩ := ho.shape; have HFx := Hz (HFx.out.trans ho.fr (by simp)); have HF3 := Hz (HF2.out.trans ho.fr (by simp)); have Ho := Hz ho; clear ho; have Hvs := Hz (HD1.out.told.sl.fr HF3.out (by simp))) | (refine step_append_one _ rfl (.tmp 68) (.tmp 84) 62 rfl 74 i4 (.agg #[.int .i64 0, .int .i64 0, .slice none 0 0, .slice none 0 0]) 4 64 Tryz.underlying62 vi vz0 vz1 vz2 rfl (.slice qa vs.length qc) vs.length (vs.flatMap Vd.cells) (by simp [Act.eval]) (World.Sl.alloc Hvs.out _) w3.heap.size 1 [.int .i64 S'.told, .int .i64 k0.time, .slice y1 T.vars.length y2, .slice y3 T.rows.length y4] 74 (by simp [Act.eval]) (heap_alloc_at _ _ _ rfl) rfl rfl hvroom ?_; intro g3' off3' c3' w5 hsl hfr hat hlt5; have HFx := Hz ((HFx.out.alloc (.cells #[.int .i64 S'.told, .int .i64 k0.time, .slice y1 T.vars.length y2, .slice y3 T.rows.length y4] 74)).trans hfr (fun _ h => .inl h)); have Hsl := Hz hsl; have Hfr := Hz hfr; have Hat := Hz hat; clear hsl hfr hat))
            refine hK.out _ _ ?s39 (fun hHeld39 => ?_)
            case s39 => ((try dsimp only); first | exact Hmk.out _ (HFx.out) | exact Hmk.out _ (HFx.out.drew) | exact Hmk.out _ (HFx.out.alloc _))
            clear hK K
            (try simp only [Act.put, sA, sB, sC])
            clear hHeld38
            refine wpAnyH_take (i := 18) (oi := _) (v := ?v40) rfl (by kernel_rfl) (by kernel_rfl) (by kernel_rfl) (fun _ _ _ h => h) (Or.inl ⟨by rfl, ?y40⟩) (by assumption) ?z40
            case y40 => (intro w hSw; (try dsimp only at hSw); go_simp; (try with_reducible rfl))
            (try simp only [Act.put, sA, sB, sC])
            refine wpAnyH_done (by kernel_rfl) ?_ _
        all_goals (refine NoPanic.normal ?_)
        have hbx := HFx.out.heap HD1.out.fut.box Hpv.out
        clear e0 e1 e2 e3 e4 e5 e6 e7 e8 e9 e10 ef hzp t0 tf hgp
        obtain ⟨e0, e1, e2, e3, e4, e5, e6, e7, e8, e9, e10, ef⟩ := eleven hbx
        have hzp := lt_of_heap hbx
        have htab : TabIn (fun b => W8.heap.size <= b) w5 (.agg #[.slice y1 T.vars.length y2, .slice y3 T.rows.length y4]) T := by
         have h3 : TabIn (fun b => W8.heap.size <= b) w3 (.agg #[.slice y1 T.vars.length y2, .slice y3 T.rows.length y4]) T := Ho.out.inn (fun b hb _ => Nat.le_trans (HD1.out.fr.trans (HF2.out.mono (L' := [p]) (by simp)) (fun x hx => .inl hx)).size hb)
         have ho4 := ((HD1.out.told.still HF3.out).still ((World.Fr.refl w3 []).alloc (.cells #[.int .i64 S'.told, .int .i64 k0.time, .slice y1 T.vars.length y2, .slice y3 T.rows.length y4] 74))).odd
         exact (h3.still ((World.Fr.refl w3 []).alloc (.cells #[.int .i64 S'.told, .int .i64 k0.time, .slice y1 T.vars.length y2, .slice y3 T.rows.length y4] 74))).fr Hfr.out ho4
        have hnew : ∀ b, b ∈ (Value.slice (some ⟨g3', off3', none⟩) (vs.length + 1) c3').blk -> b ∈ (Value.slice qa vs.length qc).blk ∨ w1.heap.size <= b := fun b hb => by
         simp [Value.blk] at hb
         subst hb
         exact Hat.out.imp id (fun e => by have := HF3.out.size; simp at e; omega)
        have hstep := fun v' hv hvb => DInv.step HD1.out Hk0.out Hs.out hl8 (fun b hb => (HB.out b hb).1) HTt.out.symm HFx.out Hsl.out hnew htab (v' := v') hv hvb
        have hpI : (0 : Int) < (S'.pts.length : Int) := by omega
        have hsp := HD1.out.fut.pts.sl
        have hd : w1.Sl 121 5 (.slice (if z2 = 1 then some ⟨gp, op, none⟩ else some ⟨gp, op + 5, none⟩) (S'.pts.length - 1) (z2 - 1)) (S'.pts.length - 1) ((S'.pts.drop 1).flatMap Sn.cells) := by
         rw [<- flat_drop1]
         split
         ·exact hsp.drop_all 1 (by omega)
         ·exact hsp.drop 1 (by omega)
        have hS := hstep _ hd (by split <;> simp [Value.blk])
        have HS := Hz hS
        have HZ := Hz (show S1.pts.length - (vs.length + 1) < S1.pts.length - vs.length from by have := HD1.out.len; omega)
        have hpI1 : (1 : Int) <= (S'.pts.length : Int) := by omega
        clear hd hS hsp hbx htab hnew hstep Hat Hfr Hsl Ho Hvs HF3 HF2 HSl Hcall Hcopy Hmk
        go_wp2
        go_roundw
        case rel => exact ⟨_, _, _, _, rfl, HS⟩
        case measure => exact HZ.out
 ·have hne : (R != 0) = true := by simpa using hz
  have hR0 : wrongE cf S.ps n ts ≠ 0 := fun e => hz (hR.symm.trans e)
  have hfin : ∀ w', w.Fr w' [] -> FStep cf Q w w' p S vl vr vp n ts ⟨n, .slice none 0 0, .slice none 0 0, .slice none 0 0, .slice none 0 0, ⟨[], []⟩, ⟨[], []⟩⟩ S (.slice none 0 0) vp [] w'.heap.size := fun w' hw =>
   ⟨fun e => absurd e hR0, hw.size, Nat.le_refl _, fun b hb => ⟨Nat.lt_of_lt_of_le (h.pts.sl.lt b hb) hw.size, .inl hb⟩, VdAt.nil _ _, by simp [Value.blk], (h.still hw).imp (fun b hb hq => ⟨hq, hb⟩), by unfold stepF; rw [if_neg hR0]; rfl, hO, by omega, hw.mono (by simp)⟩
  rw [hR] at k ⊢
  obtain ⟨v1, v2, rfl⟩ := ht.shape
  have K := Hz k; have Hfin := Hz hfin
  clear k hfin h ht hO hf h0 hok hR0 hR hz hmany hts hQ hK
  go_enter Tryz.func33, Tryz.ntmps33
  go_wp2_with fail
  (with_reducible refine K.out.mono ?_)
  rintro e w1 ⟨rfl, fx⟩
  have HF := Hz (Hfin.out w1 fx)
  clear fx
  go_wp2
  refine bodyPost_ret (v := .tuple #[.slice none 0 0, .int .i64 R]) (by simp [results, Tryz.results33, go_sem]) rfl ⟨_, _, _, _, _, _, rfl, HF.out⟩
end Go.Proofs.YtbejmdlncnkaaaaGreat
