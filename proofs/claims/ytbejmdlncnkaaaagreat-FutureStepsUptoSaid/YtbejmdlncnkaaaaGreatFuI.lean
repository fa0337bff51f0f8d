/-
  The reference of the future: verdicts alike. The law FutureSteps: what lies between the points. The law FutureSteps: tables that may be spoilt.
-/
import Derived.Test.YtbejmdlncnkaaaaGreatFuH
import Derived.Test.YtbejmdlncnkaaaaGreatFuB
import Derived.Test.YtbejmdlncnkaaaaGreatFuF
set_option maxRecDepth 100000
set_option maxHeartbeats 16000000
set_option linter.unusedSimpArgs false
namespace Go.Proofs.YtbejmdlncnkaaaaGreat
section
open Go.RowKit
theorem VdR.at {w0 w : World} {v : Value} {ks : List Vd} (h : VdR w0 w v ks) {j : Nat} {k : Vd} (hj : ks[j]? = some k) :
  ∃ g off c, v = .slice (some ⟨g, off, none⟩) ks.length c /\ ks.length <= c /\ g < w.heap.size /\ w.cell? ⟨g, off + j * 4, none⟩ = some (.int .i64 k.nr) /\ w.cell? ⟨g, off + j * 4 + 1, none⟩ = some (.int .i64 k.time) /\ w.cell? ⟨g, off + j * 4 + 2, none⟩ = some k.a /\ w.cell? ⟨g, off + j * 4 + 3, none⟩ = some k.b /\ (∀ i, w.frozen? ⟨g, i, none⟩ = false) /\ TT w0 w (.agg #[k.a, k.b]) k.t := by
 have hjl := (List.getElem?_eq_some_iff.1 hj).1
 obtain ⟨g, off, c, he, hle, _, hg, hc, hf⟩ := h.sl.form (by omega)
 have key : ∀ i, i < 4 -> w.cell? ⟨g, off + j * 4 + i, none⟩ = k.cells[i]? := fun i hi => by
  have := hc (j * 4 + i) (by omega)
  rw [flatVd hj i hi] at this
  rw [Nat.add_assoc]
  exact this
 exact ⟨g, off, c, he, hle, hg, key 0 (by omega), key 1 (by omega), key 2 (by omega), key 3 (by omega), hf, h.tab k (List.mem_of_getElem? hj)⟩
theorem same34r {P : Nat -> Prop} {w0 w : World} (hw0 : w0.Fr w []) {v1 v2 : Value} {ks ls : List Vd} (h1 : VdAt P w v1 ks) (h2 : VdR w0 w v2 ls) (he : ks.map Vd.tt = ls.map Vd.tt) (hs : ∀ k, k ∈ ks -> Small k.t) (hm : ks.length <= 1000) :
  Calls Tryz.prog 34 #[v1, v2] w fun e w' => e = .returned (.bool true) /\ w.Fr w' [] := by
 obtain ⟨a1, a2, rfl⟩ := h1.shape
 obtain ⟨b1, b2, rfl⟩ := h2.shape
 have hl : ls.length = ks.length := by have := congrArg List.length he; simpa using this.symm
 rw [hl]
 rw [show Value.slice b1 ls.length b2 = Value.slice b1 ks.length b2 by rw [hl]] at h2
 have H1 := Hz h1; have H2 := Hz h2; have HE := Hz he; have HS := Hz hs; have HL := Hz hl
 have F0 := Hz (World.Fr.refl w [])
 have HW0 := Hz hw0
 clear hw0
 clear h1 h2 he hs hl
 go_enter Tryz.func34, Tryz.ntmps34
 go_wp2
 go_loopw [13] (fun s13 wr => ∃ j : Nat, s13 = .int .i64 j /\ j <= ks.length /\ Hid (w.Fr wr [])) (fun s13 _ => (ks.length - intOf s13).toNat)
 case atStart => exact ⟨0, rfl, Nat.zero_le _, F0⟩
 case round =>
  obtain ⟨j, rfl, hj, HF⟩ := hrel
  by_cases hlt : j < ks.length
  ·obtain ⟨k, hk⟩ : ∃ k, ks[j]? = some k := ⟨ks[j], List.getElem?_eq_getElem hlt⟩
   obtain ⟨l, hl⟩ : ∃ l, ls[j]? = some l := ⟨ls[j]'(by have := HL.out; omega), List.getElem?_eq_getElem _⟩
   have hkl : k.tt = l.tt := by
    have := congrArg (fun x => x[j]?) HE.out
    simpa [hk, hl] using this
   obtain ⟨g1, o1, c1, hv1, hc1, hg1, x0, x1, x2, x3, xf, xt⟩ := (H1.out.still HF.out).at hk
   obtain ⟨g2, o2, c2, hv2, hc2, hg2, y0, y1, y2, y3, yf, yt⟩ := (H2.out.still HF.out).at hl
   cases hv1
   rw [HL.out] at hv2
   cases hv2
   obtain ⟨kn, kt, ka, kb, ktb⟩ := k
   obtain ⟨ln, lt, la, lb, ltb⟩ := l
   simp only [Prod.mk.injEq] at hkl
   obtain ⟨rfl, rfl, rfl⟩ := hkl
   have hsm := HS.out _ (List.mem_of_getElem? hk)
   simp only at x0 x1 x2 x3 y0 y1 y2 y3 xt yt hsm
   obtain ⟨z1, z2, z3, z4, rfl, rfl⟩ := xt.shape
   obtain ⟨u1, u2, u3, u4, rfl, rfl⟩ := (yt.rd (HW0.out.trans HF.out (by simp))).forms
   have hjI : (j : Int) < (ks.length : Int) := by omega
   have hnn : (0 : Int) <= (j : Int) := by omega
   have hw1 : IntKind.i64.wrap ((j : Int) + 1) = (j : Int) + 1 := IntWalk.i64_in _ (by omega)
   have hc := rsame17 (xt.still ((World.Fr.refl wr []).drew)).rd ((yt.still ((World.Fr.refl wr []).drew)).rd ((HW0.out.trans HF.out (by simp)).trans ((World.Fr.refl wr []).drew) (by simp))) hsm
   rw [show sameB ktb ktb = true by simp [sameB, eqB_true]] at hc
   have Hc := Hz hc
   clear hc hk hl xt yt hsm
   go_upto_region 6 with (fail)
   have hfx := (World.Fr.refl wr [])
   have hmk : ∀ W, wr.Fr W [] -> (W.cell? ⟨g1, o1 + j * 4, none⟩ = some (.int .i64 kn) /\ W.cell? ⟨g1, o1 + j * 4 + 1, none⟩ = some (.int .i64 kt) /\ W.cell? ⟨g1, o1 + j * 4 + 2, none⟩ = some (.slice z1 ktb.vars.length z2) /\ W.cell? ⟨g1, o1 + j * 4 + 3, none⟩ = some (.slice z3 ktb.rows.length z4) /\ W.cell? ⟨g2, o2 + j * 4, none⟩ = some (.int .i64 kn) /\ W.cell? ⟨g2, o2 + j * 4 + 1, none⟩ = some (.int .i64 kt) /\ W.cell? ⟨g2, o2 + j * 4 + 2, none⟩ = some (.slice u1 ktb.vars.length u2) /\ W.cell? ⟨g2, o2 + j * 4 + 3, none⟩ = some (.slice u3 ktb.rows.length u4) /\ wr.Fr W []) := fun W hf => ⟨cellFr hf x0 (by simp), cellFr hf x1 (by simp), cellFr hf x2 (by simp), cellFr hf x3 (by simp), cellFr hf y0 (by simp), cellFr hf y1 (by simp), cellFr hf y2 (by simp), cellFr hf y3 (by simp), hf⟩
   have Hmk := Hz hmk
   clear hmk
   go_region_held3 (fun w' => w'.cell? ⟨g1, o1 + j * 4, none⟩ = some (.int .i64 kn) /\ w'.cell? ⟨g1, o1 + j * 4 + 1, none⟩ = some (.int .i64 kt) /\ w'.cell? ⟨g1, o1 + j * 4 + 2, none⟩ = some (.slice z1 ktb.vars.length z2) /\ w'.cell? ⟨g1, o1 + j * 4 + 3, none⟩ = some (.slice z3 ktb.rows.length z4) /\ w'.cell? ⟨g2, o2 + j * 4, none⟩ = some (.int .i64 kn) /\ w'.cell? ⟨g2, o2 + j * 4 + 1, none⟩ = some (.int .i64 kt) /\ w'.cell? ⟨g2, o2 + j * 4 + 2, none⟩ = some (.slice u1 ktb.vars.length u2) /\ w'.cell? ⟨g2, o2 + j * 4 + 3, none⟩ = some (.slice u3 ktb.rows.length u4) /\ wr.Fr w' [])
    (first | exact Hmk.out _ hfx | exact Hmk.out _ hfx.drew)
    (first | (go_at_call 19; (with_reducible refine Hc.out.mono ?_); rintro e w2 ⟨rfl, hf2⟩; have hfx := ((World.Fr.refl wr []).drew).trans hf2 (by simp)))
   have HF2 := Hz (HF.out.trans hfx (by simp))
   clear hfx hf2 Hmk Hc x0 x1 x2 x3 xf y0 y1 y2 y3 yf hg1 hg2
   go_wp2
   go_roundw
   case rel => exact ⟨j + 1, by go_num, by omega, HF2⟩
   case measure => simp [intOf]; omega
  ·have hd : ¬ (j : Int) < (ks.length : Int) := by omega
   go_wp2
   go_ret
   exact ⟨rfl, HF.out⟩
end
section
open Go.RowKit
theorem RefF.off {w0 w w' : World} {p : Nat} {S : RF} {vl vr vt vL vR : Value} {M : List Nat} (h : RefF w0 w p S vl vr vt vL vR) (hf : w.Fr w' M) (hn : ∀ k, k ∈ vl.blk ++ vr.blk -> k ∉ M) (ho : ∀ k, k ∈ p :: (vt.blk ++ (vL.blk ++ vR.blk)) -> k ∉ M) (hM : ∀ k, k ∈ M -> w0.heap.size <= k) : RefF w0 w' p S vl vr vt vL vR :=
 ⟨hf.heap h.box (ho p (by simp)), ⟨h.nl.sl.fr hf (fun k hk => hn k (by simp [hk])), h.nl.wf, h.nl.blk⟩, ⟨h.nr.sl.fr hf (fun k hk => hn k (by simp [hk])), h.nr.wf, h.nr.blk⟩, h.ts.fr hf (fun k hk => ho k (by simp [hk])), h.l.fr hf (fun k hk => ho k (by simp [hk])), h.r.fr hf (fun k hk => ho k (by simp [hk])), h.dj, h.new, h.fr.trans hf (fun k hk => .inr (hM k hk))⟩
theorem RefF.lt {w0 w : World} {p : Nat} {S : RF} {vl vr vt vL vR : Value} (h : RefF w0 w p S vl vr vt vL vR) : ∀ k, k ∈ vl.blk ++ (vr.blk ++ (p :: (vt.blk ++ (vL.blk ++ vR.blk)))) -> k < w.heap.size := by
 obtain ⟨_, hl⟩ := h.l.sl
 obtain ⟨_, hr⟩ := h.r.sl
 intro k hk
 simp only [List.mem_append, List.mem_cons] at hk
 rcases hk with hk | hk | rfl | hk | hk | hk
 ·exact h.nl.sl.lt k hk
 ·exact h.nr.sl.lt k hk
 ·exact lt_of_heap h.box
 ·exact h.ts.lt k hk
 ·exact hl.lt k hk
 ·exact hr.lt k hk
theorem RefF.beside {Q : Nat -> Prop} {w0 w w' : World} {p q : Nat} {S : RF} {vl vr vt vL vR : Value} {X : FS} {B : List Nat} (h : RefF w0 w p S vl vr vt vL vR) (hb : FutOp Q w q X B) (hf : w.Fr w' B) (hB : ∀ k, k ∈ B -> w0.heap.size <= k) : RefF w0 w' p S vl vr vt vL vR := by
 have hs : ∀ {e : TypeId} {size n : Nat} {v : Value} {xs : List Value}, w.Sl e size v n xs -> e ≠ 119 -> e ≠ 121 -> ∀ k, k ∈ v.blk -> k ∉ B := fun hs h1 h2 k hk => by
  obtain ⟨cs, hg⟩ := Sl.ty hs k hk
  exact hb.ne hg h1 h2
 obtain ⟨_, hl⟩ := h.l.sl
 obtain ⟨_, hr⟩ := h.r.sl
 refine h.off hf (fun k hk => ?_) (fun k hk => ?_) hB
 ·rcases List.mem_append.1 hk with hk | hk
  ·exact hs h.nl.sl (by decide) (by decide) k hk
  ·exact hs h.nr.sl (by decide) (by decide) k hk
 ·simp only [List.mem_append, List.mem_cons] at hk
  rcases hk with rfl | hk | hk | hk
  ·exact hb.ne h.box (by decide) (by decide)
  ·exact hs h.ts (by decide) (by decide) k hk
  ·exact hs hl (by decide) (by decide) k hk
  ·exact hs hr (by decide) (by decide) k hk
theorem FutOp.beside {Q : Nat -> Prop} {w0 w w' : World} {p q : Nat} {S : RF} {vl vr vt vL vR : Value} {X : FS} {B : List Nat} (hb : FutOp Q w q X B) (h : RefF w0 w p S vl vr vt vL vR) (hf : w.Fr w' (p :: (vt.blk ++ (vL.blk ++ vR.blk)))) : FutOp Q w' q X B := by
 obtain ⟨_, hl⟩ := h.l.sl
 obtain ⟨_, hr⟩ := h.r.sl
 have hs : ∀ {e : TypeId} {size n : Nat} {v : Value} {xs : List Value}, w.Sl e size v n xs -> e ≠ 119 -> e ≠ 121 -> ∀ k, k ∈ v.blk -> k ∉ B := fun hs h1 h2 k hk => by
  obtain ⟨cs, hg⟩ := Sl.ty hs k hk
  exact hb.ne hg h1 h2
 refine hb.fr hf h.odd (fun k hk hm => ?_)
 simp only [List.mem_append, List.mem_cons] at hm
 rcases hm with rfl | hm | hm | hm
 ·exact hb.ne h.box (by decide) (by decide) hk
 ·exact hs h.ts (by decide) (by decide) k hm hk
 ·exact hs hl (by decide) (by decide) k hm hk
 ·exact hs hr (by decide) (by decide) k hm hk
theorem VdAt.beside {Q : Nat -> Prop} {w0 w w' : World} {p : Nat} {S : RF} {vl vr vt vL vR v : Value} {ks : List Vd} (hv : VdAt Q w v ks) (h : RefF w0 w p S vl vr vt vL vR) (hf : w.Fr w' (p :: (vt.blk ++ (vL.blk ++ vR.blk)))) : VdAt Q w' v ks := by
 obtain ⟨_, hl⟩ := h.l.sl
 obtain ⟨_, hr⟩ := h.r.sl
 refine hv.fr hf h.odd (fun k hk hm => ?_)
 simp only [List.mem_append, List.mem_cons] at hm
 rcases hm with rfl | hm | hm | hm
 ·exact Sl.off_box hv.sl h.box (by decide) hk
 ·exact Sl.apart hv.sl h.ts (by decide) k hk hm
 ·exact Sl.apart hv.sl hl (by decide) k hk hm
 ·exact Sl.apart hv.sl hr (by decide) k hk hm
theorem LT.beside {w w1 w2 : World} {vo : Value} {hd : List (Value × Value)} {ts : List Tb} (h : LT w w1 vo hd ts) {M : List Nat} (hf : w1.Fr w2 M) (hM : Odd w1 M) (hv : ∀ k, k ∈ vo.blk -> k ∉ M) : w2.Sl 34 2 vo hd.length (hd.flatMap fun x => [x.1, x.2]) /\ ∀ (i : Nat) (x : Value × Value) (t : Tb), hd[i]? = some x -> ts[i]? = some t -> TabIn (fun k => w.heap.size <= k /\ k < w1.heap.size) w2 (.agg #[x.1, x.2]) t :=
 ⟨h.sl.fr hf hv, fun i x t e1 e2 => ((h.tab i x t e1 e2).imp (fun _ hk h => ⟨h, hk⟩)).fr hf hM⟩
end
section
open Go.RowKit
theorem sa_list {L : Nat -> Prop} {w : World} : ∀ {hd : List (Value × Value)} {ts : List Tb}, hd.length = ts.length -> (∀ (i : Nat) (x : Value × Value) (t : Tb), hd[i]? = some x -> ts[i]? = some t -> TabIn L w (.agg #[x.1, x.2]) t) -> (∀ t, t ∈ ts -> t.vars.length <= 1048576 /\ t.rows.length <= 1048576 /\ ∀ r, r ∈ t.rows -> r.length <= 1048576) ->
  ∃ D : List SR, D.length = hd.length /\ (D.flatMap fun d => [d.a, d.b]) = (hd.flatMap fun x => [x.1, x.2]) /\ ∀ d, d ∈ D -> SQ L w d
 | [], _, _, _, _ => ⟨[], rfl, rfl, by simp⟩
 | x :: hd, [], hl, _, _ => by simp at hl
 | x :: hd, t :: ts, hl, ht, hb => by
  obtain ⟨D, h1, h2, h3⟩ := sa_list (hd := hd) (ts := ts) (by simpa using hl) (fun i x t e1 e2 => ht (i + 1) x t (by simpa using e1) (by simpa using e2)) (fun t h => hb t (List.mem_cons_of_mem _ h))
  have hbt := hb t (List.mem_cons_self ..)
  obtain ⟨hs, hq⟩ := (ht 0 x t rfl rfl).sq hbt.1 (by omega) hbt.2.2
  refine ⟨⟨x.1, x.2, t.vars.length, hs, t.rows.map List.length⟩ :: D, by simp [h1], by simp [h2], fun d hd => ?_⟩
  rcases List.mem_cons.1 hd with rfl | hd
  ·exact hq
  ·exact h3 d hd
theorem SA.begin {L : Nat -> Prop} {w : World} {v : Value} {hd : List (Value × Value)} {D : List SR} (hs : w.Sl 34 2 v hd.length (hd.flatMap fun x => [x.1, x.2])) (h1 : D.length = hd.length) (h2 : (D.flatMap fun d => [d.a, d.b]) = (hd.flatMap fun x => [x.1, x.2])) (h3 : ∀ d, d ∈ D -> SQ L w d) : SA L w w v D :=
 ⟨by rw [h1, h2]; exact hs, h3, ⟨[], World.Fr.refl _ _, by simp⟩, fun _ _ h => h, fun _ _ _ h _ _ => h⟩
theorem spoil_lent {w w1 w2 : World} {vo : Value} {hd : List (Value × Value)} {ts : List Tb} (hs : w2.Sl 34 2 vo hd.length (hd.flatMap fun x => [x.1, x.2])) (hlen : hd.length = ts.length) (ht : ∀ (i : Nat) (x : Value × Value) (t : Tb), hd[i]? = some x -> ts[i]? = some t -> TabIn (fun k => w.heap.size <= k /\ k < w1.heap.size) w2 (.agg #[x.1, x.2]) t) (hn : ts.length <= 1048576) (hb : ∀ t, t ∈ ts -> t.vars.length <= 1048576 /\ t.rows.length <= 1048576 /\ ∀ r, r ∈ t.rows -> r.length <= 1048576) :
  Calls Tryz.prog 40 #[vo] w2 fun e w' => e = .returned (.tuple #[]) /\ ∃ M, w2.Fr w' M /\ (∀ k, k ∈ M -> w.heap.size <= k /\ k < w1.heap.size) /\ ∀ (k : Nat) (cs : Array Value) (e : TypeId), w2.heap[k]? = some (.cells cs e (0, 0)) -> e ≠ 9 -> e ≠ 83 -> w'.heap[k]? = some (.cells cs e (0, 0)) := by
 obtain ⟨D, h1, h2, h3⟩ := sa_list (L := fun k => w.heap.size <= k /\ k < w1.heap.size) hlen ht hb
 refine (spoil40 (SA.begin hs h1 h2 h3) (by omega)).mono fun e w' ⟨he, hsa⟩ => ?_
 obtain ⟨M, hf, hM⟩ := hsa.fr
 exact ⟨he, M, hf, hM, hsa.typ⟩
structure StR (cf : V -> V -> Int) (w wr : World) (p : Nat) (X : FS) (B : List Nat) (r : Nat) (S : RF) (vl vr vt vL vR : Value) (j : Nat) : Prop where
 op : FutOp anyB wr p X B
 fok : FOk cf X
 ref : RefF w wr r S vl vr vt vL vR
 rok : RfOk S
 eq : S.X = X
 new : ∀ k, k ∈ B -> w.heap.size <= k
 few : S.T.length <= j
theorem StR.still {cf : V -> V -> Int} {w wr w' : World} {p : Nat} {X : FS} {B : List Nat} {r : Nat} {S : RF} {vl vr vt vL vR : Value} {j : Nat} (h : StR cf w wr p X B r S vl vr vt vL vR j) (hf : wr.Fr w' []) : StR cf w w' p X B r S vl vr vt vL vR j :=
 ⟨h.op.still hf, h.fok, h.ref.still hf, h.rok, h.eq, h.new, h.few⟩
structure TwoR (cf : V -> V -> Int) (w wa wl w3 : World) (p : Nat) (X : FS) (B : List Nat) (m h : Nat) (r : Nat) (S : RF) (vl vr vt vL vR u u2 vo : Value) (vs vs2 : List Vd) (hd : List (Value × Value)) (ts : List Tb) (j : Nat) : Prop where
 op : FutOp (fun b => (b < wa.heap.size ∨ wl.heap.size <= b) /\ b < m) w3 p X B
 fok : FOk cf X
 ref : RefF w w3 r S vl vr vt vL vR
 rok : RfOk S
 eq : S.X = X
 new : ∀ k, k ∈ B -> w.heap.size <= k
 few : S.T.length <= j + 1
 told : VdAt (fun b => m <= b /\ b < h) w3 u vs
 told2 : VdR w w3 u2 vs2
 same : vs.map Vd.tt = vs2.map Vd.tt
 lent : w3.Sl 34 2 vo hd.length (hd.flatMap fun x => [x.1, x.2])
 tabs : ∀ (i : Nat) (x : Value × Value) (t : Tb), hd[i]? = some x -> ts[i]? = some t -> TabIn (fun k => wa.heap.size <= k /\ k < wl.heap.size) w3 (.agg #[x.1, x.2]) t
 nm : ∀ k, k ∈ vl.blk ++ vr.blk -> k < wa.heap.size
 own : ∀ k, k ∈ r :: (vt.blk ++ (vL.blk ++ vR.blk)) -> k < wa.heap.size ∨ h <= k
 lo : w.heap.size <= wa.heap.size
 mid : wa.heap.size <= wl.heap.size
 hi : wl.heap.size <= m
 top : m <= h
theorem StR.ref2 {cf : V -> V -> Int} {w wa wl w2 : World} {p : Nat} {X : FS} {B : List Nat} {r : Nat} {S : RF} {vl vr vt vL vR vo u : Value} {j m : Nat} {hd : List (Value × Value)} {ts : List Tb} {n : Int} {B' : List Nat} {vs : List Vd} (h : StR cf w wa p X B r S vl vr vt vL vR j) (hl : LT wa wl vo hd ts) (hF : FOut cf (fun b => b < wa.heap.size ∨ wl.heap.size <= b) wl w2 p X B n ts u m B' vs) : RefF w w2 r S vl vr vt vL vR :=
 (h.ref.still hl.fr).beside (h.op.still hl.fr) hF.fr h.new
theorem StR.both {cf : V -> V -> Int} {w wa wl w2 w3 : World} {p : Nat} {X : FS} {B : List Nat} {r : Nat} {S S' : RF} {vl vr vt vL vR vt' vL' vR' vo u u2 : Value} {j m : Nat} {hd : List (Value × Value)} {ts : List Tb} {n : Int} {B' : List Nat} {vs vs2 : List Vd} (h : StR cf w wa p X B r S vl vr vt vL vR j) (hl : LT wa wl vo hd ts) (hF : FOut cf (fun b => b < wa.heap.size ∨ wl.heap.size <= b) wl w2 p X B n ts u m B' vs) (hR : ROut cf w w2 w3 r S vl vr vt vL vR n ts u2 vs2 S' vt' vL' vR') :
  TwoR cf w wa wl w3 p (stepX cf X n ts).2.2 B' m w2.heap.size r S' vl vr vt' vL' vR' u u2 vo vs vs2 hd ts j := by
 have href := h.ref2 hl hF
 have hlt := h.ref.lt
 have hm2 := hF.hi
 have hlo := hF.lo
 have hfl := hl.fr.size
 have hf0 := h.ref.fr.size
 have hB0 := h.op.lt
 have hopl := h.op.still hl.fr
 have hvo : ∀ k, k ∈ vo.blk -> k ∉ B := fun k hk hm => by
  have h1 := hl.new k hk
  have h2 := hB0 k hm
  omega
 obtain ⟨l1, l2⟩ := hl.beside hF.fr hopl.odd hvo
 have hvo2 : ∀ k, k ∈ vo.blk -> k ∉ r :: (vt.blk ++ (vL.blk ++ vR.blk)) := fun k hk hm => by
  have h1 := hl.new k hk
  have h2 := hlt k (by rw [List.mem_append, List.mem_append]; exact .inr (.inr hm))
  omega
 have heq := hR.eq
 rw [h.eq] at heq
 have e1 : (stepX cf X n ts).2.1 = vs2.map Vd.tt := by rw [heq]
 have e2 : (stepX cf X n ts).2.2 = S'.X := by rw [heq]
 refine ⟨hF.op.beside href hR.fr, hF.ok, hR.ref, hR.ok, e2.symm, fun k hk => ?_, by have := hR.len; have := h.few; omega, VdAt.beside (Q := fun b => m <= b /\ b < w2.heap.size) ⟨hF.told.sl, fun k hk => (hF.told.tab k hk).imp (fun b hb h => ⟨h, hb⟩)⟩ href hR.fr, hR.told, hF.eq.trans e1, l1.fr hR.fr hvo2, fun i x t a b => (l2 i x t a b).fr hR.fr href.odd, fun k hk => ?_, fun k hk => ?_, hf0, hfl, hlo, hm2⟩
 ·rcases (hF.blk k hk).2 with h1 | h1
  ·exact h.new k h1
  ·omega
 ·exact hlt k (by simp only [List.mem_append] at hk ⊢; rcases hk with hk | hk <;> simp [hk])
 ·rcases List.mem_cons.1 hk with rfl | hk
  ·exact .inl (hlt _ (by simp))
  ·rcases hR.own k hk with h1 | h1
   ·exact .inl (hlt k (by rw [List.mem_append, List.mem_append]; exact .inr (.inr (List.mem_cons_of_mem _ h1))))
   ·exact .inr (by omega)
structure AftR (cf : V -> V -> Int) (w w4 : World) (p : Nat) (X : FS) (B : List Nat) (m h : Nat) (r : Nat) (S : RF) (vl vr vt vL vR u : Value) (vs : List Vd) (j : Nat) : Prop where
 op : FutOp (fun b => b < m) w4 p X B
 fok : FOk cf X
 ref : RefF w w4 r S vl vr vt vL vR
 rok : RfOk S
 eq : S.X = X
 new : ∀ k, k ∈ B -> w.heap.size <= k
 few : S.T.length <= j + 1
 sl : w4.Sl 74 4 u vs.length (vs.flatMap Vd.cells)
 tab : ∀ k, k ∈ vs -> ∃ hs, SQ (fun b => m <= b /\ b < h) w4 ⟨k.a, k.b, k.t.vars.length, hs, k.t.rows.map List.length⟩
 nm : ∀ k, k ∈ vl.blk ++ vr.blk -> k < m
 own : ∀ k, k ∈ r :: (vt.blk ++ (vL.blk ++ vR.blk)) -> k < m ∨ h <= k
 lo : w.heap.size <= m
theorem AftR.still {cf : V -> V -> Int} {w w4 w' : World} {p : Nat} {X : FS} {B : List Nat} {m h r : Nat} {S : RF} {vl vr vt vL vR u : Value} {vs : List Vd} {j : Nat} (a : AftR cf w w4 p X B m h r S vl vr vt vL vR u vs j) (hf : w4.Fr w' []) : AftR cf w w' p X B m h r S vl vr vt vL vR u vs j :=
 ⟨a.op.still hf, a.fok, a.ref.still hf, a.rok, a.eq, a.new, a.few, a.sl.fr hf (by simp), fun k hk => by obtain ⟨hs, hq⟩ := a.tab k hk; exact ⟨hs, hq.still hf⟩, a.nm, a.own, a.lo⟩
theorem AftR.spoil {cf : V -> V -> Int} {w w4 : World} {p : Nat} {X : FS} {B : List Nat} {m h r : Nat} {S : RF} {vl vr vt vL vR u v : Value} {vs : List Vd} {j : Nat} (a : AftR cf w w4 p X B m h r S vl vr vt vL vR u vs j) {k : Vd} (hk : k ∈ vs) (hs : w4.Sl 34 2 v 1 [k.a, k.b]) (hdj : ∀ b, b ∈ B -> b < m) :
  Calls Tryz.prog 40 #[v] w4 fun e w' => e = .returned (.tuple #[]) /\ AftR cf w w' p X B m h r S vl vr vt vL vR u vs j /\ ∀ (k : Nat) (cs : Array Value) (e : TypeId), w4.heap[k]? = some (.cells cs e (0, 0)) -> e ≠ 9 -> e ≠ 83 -> w'.heap[k]? = some (.cells cs e (0, 0)) := by
 obtain ⟨hh, hq⟩ := a.tab k hk
 have hsa : SA (fun b => m <= b /\ b < h) w4 w4 v [⟨k.a, k.b, k.t.vars.length, hh, k.t.rows.map List.length⟩] :=
  ⟨by simpa using hs, fun d hd => by simp at hd; subst hd; exact hq, ⟨[], World.Fr.refl _ _, by simp⟩, fun _ _ h => h, fun _ _ _ h _ _ => h⟩
 refine (spoil40 hsa (by simp)).mono fun e w' ⟨he, hx⟩ => ?_
 obtain ⟨M, hf, hM⟩ := hx.fr
 have hlo := a.lo
 refine ⟨he, ⟨a.op.off hf (fun b hb h1 => by have := (hM b hb).1; omega) (fun b hb hm => by have := hdj b hb; have := (hM b hm).1; omega), a.fok, a.ref.off hf (fun b hb hm => by have := a.nm b hb; have := (hM b hm).1; omega) (fun b hb hm => by have := hM b hm; rcases a.own b hb with h1 | h1 <;> omega) (fun b hb => by have := (hM b hb).1; omega), a.rok, a.eq, a.new, a.few, ?_, fun d hd => ?_, a.nm, a.own, a.lo⟩, hx.typ⟩
 ·refine ⟨a.sl.1, ?_⟩
  rcases a.sl.2 with h1 | ⟨g, off, cap, cur, e1, e2, e3⟩
  ·exact .inl h1
  ·exact .inr ⟨g, off, cap, cur, e1, hx.typ g cur 74 e2 (by decide) (by decide), e3⟩
 ·obtain ⟨h2, q2⟩ := a.tab d hd
  exact ⟨h2, hx.keep _ _ q2⟩
theorem TwoR.still {cf : V -> V -> Int} {w wa wl w3 w' : World} {p : Nat} {X : FS} {B : List Nat} {m h r : Nat} {S : RF} {vl vr vt vL vR u u2 vo : Value} {vs vs2 : List Vd} {hd : List (Value × Value)} {ts : List Tb} {j : Nat} (a : TwoR cf w wa wl w3 p X B m h r S vl vr vt vL vR u u2 vo vs vs2 hd ts j) (hf : w3.Fr w' []) : TwoR cf w wa wl w' p X B m h r S vl vr vt vL vR u u2 vo vs vs2 hd ts j :=
 ⟨a.op.still hf, a.fok, a.ref.still hf, a.rok, a.eq, a.new, a.few, a.told.still hf, a.told2.still hf, a.same, a.lent.fr hf (by simp), fun i x t e1 e2 => (a.tabs i x t e1 e2).still hf, a.nm, a.own, a.lo, a.mid, a.hi, a.top⟩
theorem TwoR.spoil {cf : V -> V -> Int} {w wa wl w3 : World} {p : Nat} {X : FS} {B : List Nat} {m h r : Nat} {S : RF} {vl vr vt vL vR u u2 vo : Value} {vs vs2 : List Vd} {hd : List (Value × Value)} {ts : List Tb} {j : Nat} (a : TwoR cf w wa wl w3 p X B m h r S vl vr vt vL vR u u2 vo vs vs2 hd ts j) (hlen : hd.length = ts.length) (hn : ts.length <= 1048576) (hb : ∀ t, t ∈ ts -> t.vars.length <= 1048576 /\ t.rows.length <= 1048576 /\ ∀ r, r ∈ t.rows -> r.length <= 1048576) (hvs : ∀ k, k ∈ vs -> k.t.vars.length <= 1048576 /\ k.t.rows.length <= 1048576 /\ ∀ r, r ∈ k.t.rows -> r.length <= 1048576) (hB : ∀ b, b ∈ B -> b < wa.heap.size ∨ wl.heap.size <= b) :
  Calls Tryz.prog 40 #[vo] w3 fun e w' => e = .returned (.tuple #[]) /\ AftR cf w w' p X B m h r S vl vr vt vL vR u vs j /\ ∀ (k : Nat) (cs : Array Value) (e : TypeId), w3.heap[k]? = some (.cells cs e (0, 0)) -> e ≠ 9 -> e ≠ 83 -> w'.heap[k]? = some (.cells cs e (0, 0)) := by
 refine (spoil_lent a.lent hlen a.tabs hn hb).mono fun e w' ⟨he, M, hf, hM, typ⟩ => ?_
 have h1 := a.lo; have h2 := a.mid; have h3 := a.hi; have h4 := a.top
 refine ⟨he, ⟨(a.op.off hf (fun b hb hq => ?_) (fun b hb hm => ?_)).imp (fun _ _ h => h.2), a.fok, a.ref.off hf (fun b hb hm => ?_) (fun b hb hm => ?_) (fun b hb => ?_), a.rok, a.eq, a.new, a.few, ?_, fun d hd => ?_, fun b hb => ?_, fun b hb => ?_, by omega⟩, typ⟩
 ·have := hM b hb; omega
 ·have := hM b hm; have := hB b hb; omega
 ·have := hM b hm; have := a.nm b hb; omega
 ·have := hM b hm; have := a.own b hb; omega
 ·have := hM b hb; omega
 ·refine ⟨a.told.sl.1, ?_⟩
  rcases a.told.sl.2 with h1 | ⟨g, off, cap, cur, e1, e2, e3⟩
  ·exact .inl h1
  ·exact .inr ⟨g, off, cap, cur, e1, typ g cur 74 e2 (by decide) (by decide), e3⟩
 ·have hv := hvs d hd
  exact ((a.told.tab d hd).off hf (fun b hb hq => by have := hM b hb; omega)).sq hv.1 (by omega) hv.2.2
 ·have := a.nm b hb; omega
 ·have := a.own b hb; omega
theorem AftR.done {cf : V -> V -> Int} {w w4 : World} {p : Nat} {X : FS} {B : List Nat} {m h r : Nat} {S : RF} {vl vr vt vL vR u : Value} {vs : List Vd} {j : Nat} (a : AftR cf w w4 p X B m h r S vl vr vt vL vR u vs j) : StR cf w w4 p X B r S vl vr vt vL vR (j + 1) :=
 ⟨a.op.imp (fun _ _ _ => trivial), a.fok, a.ref, a.rok, a.eq, a.new, a.few⟩
theorem AftR.cloned {cf : V -> V -> Int} {Q : Nat -> Prop} {w w4 w5 wl w6 : World} {p c : Nat} {X : FS} {B Bc B' : List Nat} {m h r m' : Nat} {S : RF} {vl vr vt vL vR u vo u' : Value} {vs vs' : List Vd} {j : Nat} {hd : List (Value × Value)} {ts ts' : List Tb} {n : Int} (a : AftR cf w w4 p X B m h r S vl vr vt vL vR u vs j) (hc : FutOp (fun b => b < m) w5 c X Bc) (hB : ∀ k, k ∈ Bc -> w4.heap.size <= k) (h5 : w4.Fr w5 []) (hl : LT w5 wl vo hd ts') (hF : FOut cf Q wl w6 p X B n ts u' m' B' vs') : StR cf w w6 c X Bc r S vl vr vt vL vR (j + 1) := by
 have hp := (a.op.still h5).still hl.fr
 have hlt := a.op.lt
 have hw := a.ref.fr.size
 refine ⟨(((hc.still hl.fr).fr hF.fr hp.odd (fun k hk hm => ?_))).imp (fun _ _ _ => trivial), a.fok, ((a.ref.still h5).still hl.fr).beside hp hF.fr a.new, a.rok, a.eq, fun k hk => ?_, a.few⟩
 ·have h1 := hB k hk; have h2 := hlt k hm; omega
 ·have := hB k hk; omega
theorem AftR.at {cf : V -> V -> Int} {w w4 : World} {p : Nat} {X : FS} {B : List Nat} {m h r : Nat} {S : RF} {vl vr vt vL vR u : Value} {vs : List Vd} {j : Nat} (a : AftR cf w w4 p X B m h r S vl vr vt vL vR u vs j) {q : Nat} {k : Vd} (hq : vs[q]? = some k) :
  ∃ g off c x1 x2 x3 x4, u = .slice (some ⟨g, off, none⟩) vs.length c /\ g < w4.heap.size /\ w4.cell? ⟨g, off + q * 4, none⟩ = some (.int .i64 k.nr) /\ w4.cell? ⟨g, off + q * 4 + 1, none⟩ = some (.int .i64 k.time) /\ w4.cell? ⟨g, off + q * 4 + 2, none⟩ = some k.a /\ w4.cell? ⟨g, off + q * 4 + 3, none⟩ = some k.b /\ k.a = .slice x1 k.t.vars.length x2 /\ k.b = .slice x3 k.t.rows.length x4 := by
 have hjl := (List.getElem?_eq_some_iff.1 hq).1
 obtain ⟨g, off, c, he, hle, _, hg, hc, hf⟩ := a.sl.form (by omega)
 have key : ∀ i, i < 4 -> w4.cell? ⟨g, off + q * 4 + i, none⟩ = k.cells[i]? := fun i hi => by
  have := hc (q * 4 + i) (by omega)
  rw [flatVd hq i hi] at this
  rw [Nat.add_assoc]
  exact this
 obtain ⟨hs, hsq⟩ := a.tab k (List.mem_of_getElem? hq)
 obtain ⟨x1, x2, e1⟩ := hsq.a_shape
 obtain ⟨x3, x4, e2, _, _⟩ := hsq.sl.shape
 have hlen := hsq.len
 simp only [List.length_map] at hlen e1 e2
 rw [hlen] at e2
 exact ⟨g, off, c, x1, x2, x3, x4, he, hg, key 0 (by omega), key 1 (by omega), key 2 (by omega), key 3 (by omega), e1, e2⟩
def MkD.S (m : MkD) : RF := ⟨m.r, m.i, m.n, sortS m.l, sortS m.right, [], [], [], 0⟩
theorem MkD.S_X (m : MkD) : m.S.X = m.X := by
 have h1 : m.S.parts = m.p := by
  show (if m.r = 16 then (2 : Int) else 1) = m.p
  unfold MkD.r MkD.p
  by_cases h16 : m.kind = 16
  ·simp [h16]
  ·by_cases h14 : m.kind = 14 <;> simp [h16, h14]
 have h2 : m.S.nx = m.x := by
  show decide (m.r = 12) = m.x
  unfold MkD.r MkD.x
  by_cases h16 : m.kind = 16
  ·simp [h16]
  ·by_cases h14 : m.kind = 14 <;> simp [h16, h14]
 show (⟨m.i, m.n, sortS m.l, sortS m.right, [], ((0 : Nat) : Int), lastI [], m.S.parts, m.S.nx⟩ : FS) = m.X
 rw [h1, h2]
 rfl
theorem MkD.S_ok (m : MkD) : RfOk m.S := ⟨rfl, rfl, Nat.le_refl _, by simp [MkD.S], by
 show m.r = 12 ∨ m.r = 14 ∨ m.r = 16
 unfold MkD.r
 by_cases h16 : m.kind = 16
 ·simp [h16]
 ·by_cases h14 : m.kind = 14 <;> simp [h16, h14], by simp [MkD.S]⟩
theorem StR.begin {cf : V -> V -> Int} {w wr : World} {m : MkD} {p r : Nat} {vl vr : Value} (hop : FutOp anyB wr p m.X [p]) (hok : FOk cf m.X) (hb : wr.heap[r]? = some (.cells (rcells11 m.r m.i m.n vl vr (.slice none 0 0) (.slice none 0 0) (.slice none 0 0) 0) 128 (0, 0))) (h1 : NamesIn anyB wr vl (sortS m.l)) (h2 : NamesIn anyB wr vr (sortS m.right)) (hp : w.heap.size <= p) (hr : w.heap.size <= r) (hf : w.Fr wr []) : StR cf w wr p m.X [p] r m.S vl vr (.slice none 0 0) (.slice none 0 0) (.slice none 0 0) 0 :=
 ⟨hop, hok, ⟨hb, h1, h2, World.Sl.nil _ _ _, Hdr.nil _ _, Hdr.nil _ _, by simp [Value.blk], fun k hk => by simp [Value.blk] at hk; subst hk; exact hr, hf⟩, m.S_ok, m.S_X, fun k hk => by simp at hk; subst hk; exact hp, by simp [MkD.S]⟩
end
end Go.Proofs.YtbejmdlncnkaaaaGreat
