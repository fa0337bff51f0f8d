/-
  The walk of the statements' live of the future. The walk of the statement FutureOrder.
-/
import Derived.Test.YtbejmdlncnkaaaaGreatFuC
import Derived.Deep.RegionHeld3
import Derived.Test.YtbejmdlncnkaaaaGreatFuB
import Derived.Test.YtbejmdlncnkaaaaGreatFuD
import Derived.Test.YtbejmdlncnkaaaaGreatPaF
set_option maxRecDepth 100000
set_option maxHeartbeats 16000000
set_option linter.unusedSimpArgs false
namespace Go.Proofs.YtbejmdlncnkaaaaGreat
section
open Go.RowKit
theorem vd_one {vs : List Vd} {x : Int × Int × Tb} (h : vs.map Vd.tt = [x]) : ∃ a b, vs = [⟨x.1, x.2.1, a, b, x.2.2⟩] := by
 match vs, h with
 | [k], h =>
  simp at h
  obtain ⟨n, t, a, b, tt⟩ := k
  subst h
  exact ⟨a, b, rfl⟩
theorem live29 {cf : V -> V -> Int} (hK : Ctx V.wf cf) (h12 : cf (vI 1) (vI 2) < 0) (w : World) : Calls Tryz.prog 29 #[] w fun e w' => e = .returned (.bool true) /\ w.Fr w' [] := by
 have HK := Hz hK; have H12 := Hz h12
 have hc := Hz (nx_call hK w)
 clear hK h12
 go_enter Tryz.func29, Tryz.ntmps29
 go_wp2_with fail
 (with_reducible refine hc.out.mono ?_)
 rintro e w1 ⟨k1, rfl, h1⟩
 clear hc
 have hc := Hz (so_call HK.out w1)
 go_wp2_with fail
 (with_reducible refine hc.out.mono ?_)
 rintro e w2 ⟨k2, rfl, h2⟩
 have HL : Hid (FV w w2 k1 nxX [k1] k2 soX [k2]) := Hz (by
  obtain ⟨a1, a2, a3⟩ := h1.out
  obtain ⟨b1, b2, b3⟩ := h2.out
  have hlt := a1.lt k1 (by simp)
  refine ⟨a1.still b3, b1, fun k hk hm => ?_, fun k hk => ?_, fun k hk => ?_, a3.trans b3 (by simp)⟩
  ·simp at hk hm; omega
  ·simp at hk; omega
  ·simp at hk; have := a3.size; omega)
 clear h1 h2 hc
 have hc := Hz (op_call HK.out w2)
 go_wp2_with fail
 (with_reducible refine hc.out.mono ?_)
 rintro e wa ⟨rfl, fx⟩
 have HL := Hz (HL.out.still fx)
 clear hc fx
 go_upto_region 6 with (fail)
 have hc := Hz (xs78_lit 1 in1 wa)
 go_wp2_with fail
 (with_reducible refine hc.out.mono ?_)
 rintro e w3 ⟨x1, y1, x2, y2, rfl, ho⟩
 clear hc
 have HG := Hz ((World.Fr.refl w3 []).alloc (.cells #[.slice x1 1 y1, .slice x2 1 y2] 34))
 have HL := Hz ((HL.out.still ho.out.fr).still HG.out)
 have hc := Hz (fstep_one HK.out (Q := anyB) (fun _ _ => trivial) HL.out.p nxX_ok (by decide) (heap_alloc_at w3 (.cells #[.slice x1 1 y1, .slice x2 1 y2] 34) _ rfl) (ho.out.sl.still HG.out) (fitX 1 in1) (by simp [xT, xsR]) nx_step0 (ln := 0) rfl)
 clear ho HG
 go_wp2_with fail
 (with_reducible refine hc.out.mono ?_)
 rintro e w4 ⟨z1, z2, B1, rfl, hd⟩
 have HL := Hz (HL.out.stepP hd.out.2.1 hd.out.2.2.2.1 hd.out.2.2.2.2)
 have HO := Hz hd.out.1
 clear hc hd
 go_upto_region 7 with (fail)
 have hc := Hz (xs78_lit 2 in2 w4)
 go_wp2_with fail
 (with_reducible refine hc.out.mono ?_)
 rintro e w5 ⟨x1, y1, x2, y2, rfl, ho⟩
 clear hc
 have HG := Hz ((World.Fr.refl w5 []).alloc (.cells #[.slice x1 1 y1, .slice x2 1 y2] 34))
 have HL := Hz ((HL.out.still ho.out.fr).still HG.out)
 have hc := Hz (fstep_one HK.out (Q := anyB) (fun _ _ => trivial) HL.out.p HO.out (by decide) (heap_alloc_at w5 (.cells #[.slice x1 1 y1, .slice x2 1 y2] 34) _ rfl) (ho.out.sl.still HG.out) (fitX 2 in2) (by simp [xT, xsR]) nx_step1 (ln := 1) rfl)
 clear ho HG
 go_wp2_with fail
 (with_reducible refine hc.out.mono ?_)
 rintro e w6 ⟨a1, a2, B1, rfl, hd⟩
 have HL := Hz (HL.out.stepP hd.out.2.1 hd.out.2.2.2.1 hd.out.2.2.2.2)
 have HO := Hz hd.out.1
 obtain ⟨vsA, hA, eA⟩ := hd.out.2.2.1
 obtain ⟨aa, ab, rfl⟩ := vd_one eA
 have HA := Hz hA
 clear hA eA
 clear hc hd
 go_upto_region 8 with (fail)
 have hc := Hz (xs78_lit 1 in1 w6)
 go_wp2_with fail
 (with_reducible refine hc.out.mono ?_)
 rintro e w7 ⟨x1, y1, x2, y2, rfl, ho⟩
 clear hc
 have HG := Hz ((World.Fr.refl w7 []).alloc (.cells #[.slice x1 1 y1, .slice x2 1 y2] 34))
 have HL := Hz ((HL.out.still ho.out.fr).still HG.out)
 have HA := Hz ((HA.out.still ho.out.fr).still HG.out)
 have hc := Hz (fstep_one HK.out (Q := anyB) (fun _ _ => trivial) HL.out.s soX_ok (by decide) (heap_alloc_at w7 (.cells #[.slice x1 1 y1, .slice x2 1 y2] 34) _ rfl) (ho.out.sl.still HG.out) (fitX 1 in1) (by simp [xT, xsR]) so_step0 (ln := 0) rfl)
 clear ho HG
 go_wp2_with fail
 (with_reducible refine hc.out.mono ?_)
 rintro e w8 ⟨z1, z2, B2, rfl, hd⟩
 have HA := Hz (HA.out.off HL.out.s hd.out.2.2.2.2)
 have HL := Hz (HL.out.stepS hd.out.2.1 hd.out.2.2.2.1 hd.out.2.2.2.2)
 have HO := Hz hd.out.1
 clear hc hd
 go_upto_region 9 with (fail)
 have hc := Hz (xs78_lit 2 in2 w8)
 go_wp2_with fail
 (with_reducible refine hc.out.mono ?_)
 rintro e w9 ⟨x1, y1, x2, y2, rfl, ho⟩
 clear hc
 have HG := Hz ((World.Fr.refl w9 []).alloc (.cells #[.slice x1 1 y1, .slice x2 1 y2] 34))
 have HL := Hz ((HL.out.still ho.out.fr).still HG.out)
 have HA := Hz ((HA.out.still ho.out.fr).still HG.out)
 have hc := Hz (fstep_one HK.out (Q := anyB) (fun _ _ => trivial) HL.out.s HO.out (by decide) (heap_alloc_at w9 (.cells #[.slice x1 1 y1, .slice x2 1 y2] 34) _ rfl) (ho.out.sl.still HG.out) (fitX 2 in2) (by simp [xT, xsR]) so_step1 (ln := 0) rfl)
 clear ho HG
 go_wp2_with fail
 (with_reducible refine hc.out.mono ?_)
 rintro e w10 ⟨z1, z2, B2, rfl, hd⟩
 have HA := Hz (HA.out.off HL.out.s hd.out.2.2.2.2)
 have HL := Hz (HL.out.stepS hd.out.2.1 hd.out.2.2.2.1 hd.out.2.2.2.2)
 have HO := Hz hd.out.1
 clear hc hd
 go_upto_region 10 with (fail)
 have hc := Hz (xs78_lit 3 in3 w10)
 go_wp2_with fail
 (with_reducible refine hc.out.mono ?_)
 rintro e w11 ⟨x1, y1, x2, y2, rfl, ho⟩
 clear hc
 have HG := Hz ((World.Fr.refl w11 []).alloc (.cells #[.slice x1 1 y1, .slice x2 1 y2] 34))
 have HL := Hz ((HL.out.still ho.out.fr).still HG.out)
 have HA := Hz ((HA.out.still ho.out.fr).still HG.out)
 have hc := Hz (fstep_one HK.out (Q := anyB) (fun _ _ => trivial) HL.out.s HO.out (by decide) (heap_alloc_at w11 (.cells #[.slice x1 1 y1, .slice x2 1 y2] 34) _ rfl) (ho.out.sl.still HG.out) (fitX 3 in3) (by simp [xT, xsR]) (so_step2 HK.out.ord H12.out) (ln := 1) rfl)
 clear ho HG
 go_wp2_with fail
 (with_reducible refine hc.out.mono ?_)
 rintro e w12 ⟨b1, b2, B2, rfl, hd⟩
 have HA := Hz (HA.out.off HL.out.s hd.out.2.2.2.2)
 have HL := Hz (HL.out.stepS hd.out.2.1 hd.out.2.2.2.1 hd.out.2.2.2.2)
 have HO := Hz hd.out.1
 obtain ⟨vsB, hB, eB⟩ := hd.out.2.2.1
 obtain ⟨ba, bb, rfl⟩ := vd_one eB
 have HB := Hz hB
 clear hB eB
 clear hc hd
 go_upto_region 11 with (fail)
 obtain ⟨g1, o1, c1, hv1, hc1, hg1, x0, x1, x2, x3, xf, xt⟩ := HA.out.at (j := 0) rfl
 obtain ⟨g2, o2, c2, hv2, hc2, hg2, y0, y1, y2, y3, yf, yt⟩ := HB.out.at (j := 0) rfl
 cases hv1
 cases hv2
 simp only [Nat.zero_mul, Nat.add_zero] at x0 x1 x2 x3 y0 y1 y2 y3 xt yt
 obtain ⟨z1, z2, z3, z4, rfl, rfl⟩ := xt.shape
 obtain ⟨u1, u2, u3, u4, rfl, rfl⟩ := yt.shape
 have r2 : w12.cell? ⟨g1, o1 + 2, none⟩ = some (.slice z1 1 z2) := x2
 have r3 : w12.cell? ⟨g1, o1 + 3, none⟩ = some (.slice z3 1 z4) := x3
 have s0 : w12.cell? ⟨g2, o2, none⟩ = some (.int .i64 0) := y0
 have s2 : w12.cell? ⟨g2, o2 + 2, none⟩ = some (.slice u1 1 u2) := y2
 have s3 : w12.cell? ⟨g2, o2 + 3, none⟩ = some (.slice u3 2 u4) := y3
 have hT1 : TabIn anyB w12 (.agg #[.slice z1 1 z2, .slice z3 1 z4]) (xT [2]) := xt
 have hT2 : TabIn anyB w12 (.agg #[.slice u1 1 u2, .slice u3 2 u4]) (xT [1, 2]) := yt
 have hw : ∀ W, w12.Fr W [] -> Calls Tryz.prog 35 #[.pointer (some ⟨k2, 0, none⟩)] W fun e w' => e = .returned (.int .i64 2) /\ W = w' := fun W hf => fwaits35 (HL.out.s.still hf)
 clear x0 x1 x2 x3 y0 y1 y2 y3 xt yt xf yf
 have Hfw := Hz HL.out.fr
 generalize w12 = WA at *
 have hmk : ∀ w', WA.Fr w' [] -> (w'.cell? ⟨g1, o1 + 2, none⟩ = some (.slice z1 1 z2) /\ w'.cell? ⟨g1, o1 + 3, none⟩ = some (.slice z3 1 z4) /\ w'.cell? ⟨g2, o2, none⟩ = some (.int .i64 0) /\ w'.cell? ⟨g2, o2 + 2, none⟩ = some (.slice u1 1 u2) /\ w'.cell? ⟨g2, o2 + 3, none⟩ = some (.slice u3 2 u4) /\ WA.Fr w' []) := fun w' hf => ⟨cellFr hf r2 (by simp), cellFr hf r3 (by simp), cellFr hf s0 (by simp), cellFr hf s2 (by simp), cellFr hf s3 (by simp), hf⟩
 have hs1 : ∀ W v, WA.Fr W [] -> RdTab W v (xT [2]) -> Calls Tryz.prog 19 #[.agg #[.slice z1 1 z2, .slice z3 1 z4], v] W fun e w' => e = .returned (.bool true) /\ W.Fr w' [] := fun W v hf hv => by
  have hc := rsame17 (hT1.rd.still hf) hv (fitX 2 in2).small
  rw [same_refl] at hc
  exact hc
 have hs2 : ∀ W v, WA.Fr W [] -> RdTab W v (xT [1, 2]) -> Calls Tryz.prog 19 #[.agg #[.slice u1 1 u2, .slice u3 2 u4], v] W fun e w' => e = .returned (.bool true) /\ W.Fr w' [] := fun W v hf hv => by
  have hc := rsame17 (hT2.rd.still hf) hv (xT_fits (l := [1, 2]) (by simp) (by simp [in1, in2])).small
  rw [same_refl] at hc
  exact hc
 have hxa : ∀ W : World, Calls Tryz.prog 78 #[.slice (some ⟨W.heap.size, 0, none⟩) 1 1] (W.alloc (.cells #[.int .i64 2] 2)).drew fun e w' => ∃ x1 y1 x2 y2, e = .returned (.agg #[.slice x1 1 y1, .slice x2 1 y2]) /\ Hid (RdTab w' (.agg #[.slice x1 1 y1, .slice x2 1 y2]) (xT [2])) /\ W.Fr w' [] := fun W => (xs78_at (l := [2]) 1 rfl (by decide) (by simp [in2]) (W := (W.alloc (.cells #[.int .i64 2] 2)).drew) (heap_alloc_at W _ _ rfl)).mono fun e w' ⟨x1, y1, x2, y2, he, ho⟩ => ⟨x1, y1, x2, y2, he, Hz ho.out.rd, (((World.Fr.refl W []).alloc _).drew).trans ho.out.fr (by simp)⟩
 have hxa2 : ∀ W : World, Calls Tryz.prog 78 #[.slice (some ⟨W.heap.size, 0, none⟩) 1 1] (W.alloc (.cells #[.int .i64 2] 2)) fun e w' => ∃ x1 y1 x2 y2, e = .returned (.agg #[.slice x1 1 y1, .slice x2 1 y2]) /\ Hid (RdTab w' (.agg #[.slice x1 1 y1, .slice x2 1 y2]) (xT [2])) /\ W.Fr w' [] := fun W => (xs78_at (l := [2]) 1 rfl (by decide) (by simp [in2]) (heap_alloc_at W _ _ rfl)).mono fun e w' ⟨x1, y1, x2, y2, he, ho⟩ => ⟨x1, y1, x2, y2, he, Hz ho.out.rd, ((World.Fr.refl W []).alloc _).trans ho.out.fr (by simp)⟩
 have hxb : ∀ W : World, Calls Tryz.prog 78 #[.slice (some ⟨W.heap.size, 0, none⟩) 2 2] (W.alloc (.cells #[.int .i64 1, .int .i64 2] 2)).drew fun e w' => ∃ x1 y1 x2 y2, e = .returned (.agg #[.slice x1 1 y1, .slice x2 2 y2]) /\ Hid (RdTab w' (.agg #[.slice x1 1 y1, .slice x2 2 y2]) (xT [1, 2])) /\ W.Fr w' [] := fun W => (xs78_at (l := [1, 2]) 2 rfl (by decide) (by simp [in1, in2]) (W := (W.alloc (.cells #[.int .i64 1, .int .i64 2] 2)).drew) (heap_alloc_at W _ _ rfl)).mono fun e w' ⟨x1, y1, x2, y2, he, ho⟩ => ⟨x1, y1, x2, y2, he, Hz ho.out.rd, (((World.Fr.refl W []).alloc _).drew).trans ho.out.fr (by simp)⟩
 have hxb2 : ∀ W : World, Calls Tryz.prog 78 #[.slice (some ⟨W.heap.size, 0, none⟩) 2 2] (W.alloc (.cells #[.int .i64 1, .int .i64 2] 2)) fun e w' => ∃ x1 y1 x2 y2, e = .returned (.agg #[.slice x1 1 y1, .slice x2 2 y2]) /\ Hid (RdTab w' (.agg #[.slice x1 1 y1, .slice x2 2 y2]) (xT [1, 2])) /\ W.Fr w' [] := fun W => (xs78_at (l := [1, 2]) 2 rfl (by decide) (by simp [in1, in2]) (heap_alloc_at W _ _ rfl)).mono fun e w' ⟨x1, y1, x2, y2, he, ho⟩ => ⟨x1, y1, x2, y2, he, Hz ho.out.rd, ((World.Fr.refl W []).alloc _).trans ho.out.fr (by simp)⟩
 have Hxa := Hz hxa; have Hxb := Hz hxb; have Hxa2 := Hz hxa2; have Hxb2 := Hz hxb2
 have hFx : WA.Fr WA.drew [] := (World.Fr.refl WA []).drew
 have Hmk := Hz hmk; have Hs1 := Hz hs1; have Hs2 := Hz hs2; have Hwt := Hz hw
 clear hxa hxb hxa2 hxb2 hmk hs1 hs2 hT1 hT2 HL HA HB HO r2 r3 s0 s2 s3 HK H12 hw hg1 hg2
 go_region_held3 (fun w' => w'.cell? ⟨g1, o1 + 2, none⟩ = some (.slice z1 1 z2) /\ w'.cell? ⟨g1, o1 + 3, none⟩ = some (.slice z3 1 z4) /\ w'.cell? ⟨g2, o2, none⟩ = some (.int .i64 0) /\ w'.cell? ⟨g2, o2 + 2, none⟩ = some (.slice u1 1 u2) /\ w'.cell? ⟨g2, o2 + 3, none⟩ = some (.slice u3 2 u4) /\ WA.Fr w' [])
  (first | exact Hmk.out _ hFx | exact Hmk.out _ (World.Fr.refl WA []) | exact Hmk.out _ (World.Fr.alloc hFx _) | exact Hmk.out _ (World.Fr.drew (World.Fr.alloc (undrew hFx) _)) | exact Hmk.out _ (World.Fr.drew hFx))
  (first | (go_at_call 78; (with_reducible refine (Hxa.out _).mono ?_); rintro e w2 ⟨c1, e1, c2, e2, rfl, hXr, hc⟩; have hFx := World.Fr.trans (L := []) (undrew hFx) hc (fun _ h => nomatch h)) | (go_at_call 78; (with_reducible refine (Hxa2.out _).mono ?_); rintro e w2 ⟨c1, e1, c2, e2, rfl, hXr, hc⟩; have hFx := World.Fr.trans (L := []) hFx hc (fun _ h => nomatch h)) | (go_at_call 78; (with_reducible refine (Hxb.out _).mono ?_); rintro e w2 ⟨c1, e1, c2, e2, rfl, hYr, hc⟩; have hFx := World.Fr.trans (L := []) (undrew hFx) hc (fun _ h => nomatch h)) | (go_at_call 78; (with_reducible refine (Hxb2.out _).mono ?_); rintro e w2 ⟨c1, e1, c2, e2, rfl, hYr, hc⟩; have hFx := World.Fr.trans (L := []) hFx hc (fun _ h => nomatch h)) | (go_at_call 19; (with_reducible refine (Hs1.out _ _ hFx hXr.out).mono ?_); rintro e w2 ⟨rfl, hc⟩; have hFx := World.Fr.trans (L := []) hFx hc (fun _ h => nomatch h)) | (go_at_call 19; (with_reducible refine (Hs2.out _ _ hFx hYr.out).mono ?_); rintro e w2 ⟨rfl, hc⟩; have hFx := World.Fr.trans (L := []) hFx hc (fun _ h => nomatch h)) | (go_at_call 35; (with_reducible refine (Hwt.out _ hFx).mono ?_); rintro e w2 ⟨rfl, rfl⟩))
 go_wp2
 go_ret
 exact ⟨rfl, Hfw.out.trans hFx (by simp)⟩
end
section
open Go.RowKit
theorem info2 : (Tryz.prog.info? 2).map (fun i => (i.zero, i.size, i.bytes)) = some (some (.int .i64 0), 1, 8) := by kernel_rfl
structure OrR (cf : V -> V -> Int) (w wr : World) (p b2 : Nat) (m : MkD) (v1 v2 vt : Value) (X : FS) (B : List Nat) (TS : List Int) (o j : Nat) : Prop where
 op : FutOp anyB wr p X B
 ok : FOk cf X
 ord : OrdI X TS o
 ts : wr.Sl 2 1 vt TS.length (tms TS)
 rng : ∀ t, t ∈ TS -> 0 <= t /\ t <= 1099511627776
 few : TS.length <= j
 newB : ∀ k, k ∈ B -> w.heap.size <= k
 newT : ∀ k, k ∈ vt.blk -> w.heap.size <= k
 fr : w.Fr wr []
 fix : X.i = m.i /\ X.nx = m.x
 box : wr.heap[b2]? = some (.cells #[.int .i64 m.kind, .int .i64 m.i.lo, .int .i64 m.i.hi, .bool m.i.op, .bool m.nt, v1, v2] 68 (0, 0))
theorem OrR.still {cf : V -> V -> Int} {w wr w' : World} {p b2 : Nat} {m : MkD} {v1 v2 vt : Value} {X : FS} {B : List Nat} {TS : List Int} {o j : Nat} (h : OrR cf w wr p b2 m v1 v2 vt X B TS o j) (hf : wr.Fr w' []) : OrR cf w w' p b2 m v1 v2 vt X B TS o j :=
 ⟨h.op.still hf, h.ok, h.ord, h.ts.fr hf (by simp), h.rng, h.few, h.newB, h.newT, h.fr.trans hf (by simp), h.fix, hf.heap h.box (by simp)⟩
theorem OrR.more {cf : V -> V -> Int} {w wr : World} {p b2 : Nat} {m : MkD} {v1 v2 vt : Value} {X : FS} {B : List Nat} {TS : List Int} {o j : Nat} (h : OrR cf w wr p b2 m v1 v2 vt X B TS o j) : OrR cf w wr p b2 m v1 v2 vt X B TS o (j + 1) :=
 ⟨h.op, h.ok, h.ord, h.ts, h.rng, Nat.le_succ_of_le h.few, h.newB, h.newT, h.fr, h.fix, h.box⟩
theorem OrR.push {cf : V -> V -> Int} {w wr w' : World} {p b2 : Nat} {m : MkD} {v1 v2 vt vt' : Value} {X X' : FS} {B B' : List Nat} {TS : List Int} {o o' j : Nat} {n : Int} (h : OrR cf w wr p b2 m v1 v2 vt X B TS o j) (hop : FutOp anyB w' p X' B') (hok : FOk cf X') (hord : OrdI X' (TS ++ [n]) o') (hts : w'.Sl 2 1 vt' (TS.length + 1) (tms TS ++ [.int .i64 n])) (hn : 0 <= n /\ n <= 1099511627776) (hB : ∀ k, k ∈ B' -> w.heap.size <= k) (hT : ∀ k, k ∈ vt'.blk -> w.heap.size <= k) (hf : w.Fr w' []) (hfix : X'.i = X.i /\ X'.nx = X.nx) (hbox : w'.heap[b2]? = wr.heap[b2]?) : OrR cf w w' p b2 m v1 v2 vt' X' B' (TS ++ [n]) o' (j + 1) :=
 ⟨hop, hok, hord, by simpa [tms] using hts, fun t ht => by
  rcases List.mem_append.1 ht with ht | ht
  ·exact h.rng t ht
  ·simp at ht; subst ht; exact hn, by have := h.few; simp; omega, hB, hT, hf, ⟨hfix.1.trans h.fix.1, hfix.2.trans h.fix.2⟩, hbox.trans h.box⟩
theorem MkD.nx_eq (m : MkD) : m.x = ((m.kind != 14) && (m.kind != 16)) := by
 unfold MkD.x
 by_cases h16 : m.kind = 16
 ·simp [h16]
 ·by_cases h14 : m.kind = 14
  ·simp [h14]
  ·simp [h16, h14]
theorem MkD.p_eq (m : MkD) : m.p = 1 ∨ m.p = 2 := by unfold MkD.p; split <;> simp
end
end Go.Proofs.YtbejmdlncnkaaaaGreat
