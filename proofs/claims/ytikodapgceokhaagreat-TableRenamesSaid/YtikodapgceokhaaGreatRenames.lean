/-
  The walk of the statement TableRenames (live's contract as a hypothesis; joined later).
-/
import Derived.Test.YtikodapgceokhaaGreatCuts
import Derived.Test.YtikodapgceokhaaGreatRn1
namespace Go.Proofs.YtikodapgceokhaaGreat
open Go.RowKit

theorem renameT_small {cf : V → V → Int} (hO : OrdOk (fun v => V.wf v ∧ vcheck v = 0) cf) {t : Tb} {fs ts : List BA} (ht : Small t) (hwf : ∀ r, r ∈ t.rows → ∀ x, x ∈ r → V.wf x) : Small (renameT cf t fs ts).2 := by
  unfold renameT
  split
  · exact tNone_small
  · rename_i h0
    split
    · exact tNone_small
    · split
      · exact tNone_small
      · split
        · exact tNone_small
        · rename_i hn
          obtain ⟨k1, _, k3, _⟩ := tcheck_zero (Classical.not_not.1 h0)
          have hl := renL_len t.vars fs ts t.vars
          exact madeT_small hO (Classical.not_not.1 hn) (by rw [hl]; exact ht.vars) ht.rows (fun r hr => by rw [hl]; exact (k3 r hr).1) (fun r hr x hx => ⟨hwf r hr x hx, (k3 r hr).2 x hx⟩)

set_option maxRecDepth 100000 in
set_option maxHeartbeats 4000000 in
theorem renames6 {cf : V → V → Int} (live : ∀ w, Calls Tryz.prog 18 #[] w fun e w' => e = .returned (.bool true) ∧ w.Fr w' []) (hK : Ctx V.wf cf) (hRK : RChkOk V.wf) (hRC : RCmpOk V.wf cf) {w : World} {v1 v2 v3 : Value} {a : Tb} {fs ts : List BA} (h1 : RdTab w v1 a) (h2 : RdStr w v2 fs) (h3 : RdStr w v3 ts) (sa : Fit14 a) (hl : fs.length ≤ 8796093021952) :
    Calls Tryz.prog 6 #[v1, v2, v3] w fun e w' => e = .returned (.bool true) ∧ w.Fr w' [] := by
  have hwf := h1.wf
  have hfit : Fits V.wf a := ⟨sa.small, sa.rows, hwf⟩
  have hs : Small (renameT cf a fs ts).2 := renameT_small hK.ord sa.small hwf
  obtain ⟨x1, y1, hs1, rfl, hv1, hr1⟩ := h1.ex
  obtain ⟨a1, c1, rfl, _, _⟩ := hv1.rd.shape
  obtain ⟨a2, c2, rfl, _, _⟩ := hr1.rd.shape
  obtain ⟨a3, c3, rfl, _, _⟩ := h2.rd.shape
  obtain ⟨a4, c4, rfl, _, _⟩ := h3.rd.shape
  have hlen := hr1.len
  rw [hlen] at h1 ⊢
  clear hv1 hr1 hlen
  have hF : ∀ w', w.Fr w' [] → Calls Tryz.prog 28 #[.agg #[.slice a1 a.vars.length c1, .slice a2 a.rows.length c2], .slice a3 fs.length c3, .slice a4 ts.length c4] w' fun e x => ∃ v, e = .returned (.tuple #[v, .int .i64 (renameT cf a fs ts).1]) ∧ OwnTab w' x v (renameT cf a fs ts).2 := fun w' hf => rename28 hK (h1.still hf) (h2.fr hf (by simp)) (h3.fr hf (by simp)) hfit hl
  have hG : ∀ w' u, w.Fr w' [] → RdTab w' u a → Calls Tryz.prog 29 #[u, .slice a3 fs.length c3, .slice a4 ts.length c4] w' fun e x => ∃ v, e = .returned (.tuple #[v, .int .i64 (renameT cf a fs ts).1]) ∧ OwnTab w' x v (renameT cf a fs ts).2 := fun w' u hf hu => rrename29 hRK hRC hK.ord hu (h2.fr hf (by simp)) (h3.fr hf (by simp)) hfit hl
  generalize renameT cf a fs ts = R at *
  obtain ⟨E, T⟩ := R
  simp only at hF hG hs
  have kis : ∀ (wa wb : World) (x y : Value), OwnTab wa wb x T → RdTab wb y T → Calls Tryz.prog 30 #[x, .int .i64 E, y, .int .i64 E] wb fun e w' => e = .returned (.bool true) ∧ wa.Fr w' [] := fun wa wb x y h1 h2 => by
    have hc := is30 (e := E) (f := E) h1 h2 hs
    rwa [sameB_self, Bool.true_and, beq_self_eq_true] at hc
  have ksame : ∀ (w' : World) (x y : Value), RdTab w' x a → RdTab w' y a → Calls Tryz.prog 17 #[x, y] w' fun e x => e = .returned (.bool true) ∧ w'.Fr x [] := fun w' x y h1 h2 => by
    have hc := rsame17 h1 h2 sa.small
    rwa [sameB_self] at hc
  have q1 := heap_alloc_at w (.cells #[.slice a1 a.vars.length c1, .slice a2 a.rows.length c2] 25) _ rfl
  have f1 := (World.Fr.refl w []).alloc (.cells #[.slice a1 a.vars.length c1, .slice a2 a.rows.length c2] 25)
  have Ha := Lib.hid h1; have Sa := Lib.hid sa; have HF := Lib.hid hF; have HG := Lib.hid hG; have KI := Lib.hid kis; have KS := Lib.hid ksame; have Hlive := Lib.hid live
  clear h1 h2 h3 sa hs hF hG kis ksame live hK hRK hRC hwf hfit hl
  go_enter Tryz.func6, Tryz.ntmps6
  go_upto_region 1 with (fail)
  generalize hW : World.alloc w _ = W at *
  clear hW
  generalize w.heap.size = p3 at *
  have k := Lib.hid (copied14 (Ha.out.still f1) Sa.out.vars Sa.out.rows Sa.out.row)
  obtain ⟨m0, m1, mf⟩ := two q1
  have hz := lt_of_heap q1
  have Q1 := Lib.hid q1; have F1 := Lib.hid f1
  clear q1 f1
  go_wp2_with fail
  (with_reducible refine k.out.mono ?_)
  rintro e w1 ⟨u, rfl, ho⟩
  obtain ⟨b1, b2, b3, b4, rfl⟩ := ho.shape
  clear k m0 m1 mf hz
  have hy := lt_of_heap (ho.fr.heap Q1.out (by simp))
  have Q1 := Lib.hid (heap_alloc_some (ho.fr.heap Q1.out (by simp)) (.cells #[.slice b1 a.vars.length b2, .slice b3 a.rows.length b4] 25))
  have Q7 := Lib.hid (heap_alloc_at w1 (.cells #[.slice b1 a.vars.length b2, .slice b3 a.rows.length b4] 25) _ rfl)
  have F4 := Lib.hid ((F1.out.trans ho.fr (by simp)).alloc (.cells #[.slice b1 a.vars.length b2, .slice b3 a.rows.length b4] 25))
  have U1 := Lib.hid (ho.on ((World.Fr.refl w1 []).alloc (.cells #[.slice b1 a.vars.length b2, .slice b3 a.rows.length b4] 25))).rd
  clear F1 ho
  go_upto_region 2 with (fail)
  generalize hW : World.alloc w1 _ = w4 at *
  clear hW hy
  generalize w1.heap.size = p7 at *
  have k := Lib.hid (HF.out w4 F4.out)
  obtain ⟨m0, m1, mf⟩ := two Q1.out
  have hz := lt_of_heap Q1.out
  go_wp2_with fail
  (with_reducible refine k.out.mono ?_)
  rintro e w5 ⟨u, rfl, ho⟩
  obtain ⟨t1, t2, t3, t4, rfl⟩ := ho.shape
  clear k m0 m1 mf hz HF
  have Q11 := Lib.hid (heap_alloc_at w5 (.cells #[.slice t1 T.vars.length t2, .slice t3 T.rows.length t4] 25) _ rfl)
  have O1 := Lib.hid (ho.on ((World.Fr.refl w5 []).alloc (.cells #[.slice t1 T.vars.length t2, .slice t3 T.rows.length t4] 25)))
  clear ho
  go_upto_region 3 with (fail)
  generalize hW : World.alloc w5 _ = w6 at *
  clear hW
  generalize w5.heap.size = p11 at *
  have k := Lib.hid (HG.out w6 _ (F4.out.trans O1.out.fr (by simp)) (U1.out.still O1.out.fr))
  have q9 := O1.out.fr.heap Q7.out (by simp)
  obtain ⟨m0, m1, mf⟩ := two q9
  have hz := lt_of_heap q9
  clear q9
  go_wp2_with fail
  (with_reducible refine k.out.mono ?_)
  rintro e w7 ⟨u, rfl, ho⟩
  obtain ⟨r1, r2, r3, r4, rfl⟩ := ho.shape
  clear k m0 m1 mf hz HG
  have Q11 := Lib.hid (heap_alloc_some (ho.fr.heap Q11.out (by simp)) (.cells #[.slice r1 T.vars.length r2, .slice r3 T.rows.length r4] 25))
  have Q13 := Lib.hid (heap_alloc_at w7 (.cells #[.slice r1 T.vars.length r2, .slice r3 T.rows.length r4] 25) _ rfl)
  have O1 := Lib.hid (O1.out.on (ho.fr.alloc (.cells #[.slice r1 T.vars.length r2, .slice r3 T.rows.length r4] 25)))
  have O2 := Lib.hid (ho.on ((World.Fr.refl w7 []).alloc (.cells #[.slice r1 T.vars.length r2, .slice r3 T.rows.length r4] 25))).rd
  clear ho
  go_upto_region 4 with (fail)
  generalize hW : World.alloc w7 _ = w8 at *
  clear hW
  generalize w7.heap.size = p13 at *
  have k := Lib.hid (KI.out w4 w8 _ _ O1.out O2.out)
  obtain ⟨m0, m1, mf⟩ := two Q11.out
  obtain ⟨n0, n1, nf⟩ := two Q13.out
  have hz := lt_of_heap Q11.out
  have hy := lt_of_heap Q13.out
  go_wp2_with fail
  (with_reducible refine k.out.mono ?_)
  rintro e w9 ⟨rfl, f9⟩
  clear k m0 m1 mf n0 n1 nf hz hy Q11 Q13 O1 O2 KI
  have Q1 := Lib.hid (f9.heap Q1.out (by simp))
  have Q7 := Lib.hid (f9.heap Q7.out (by simp))
  have U1 := Lib.hid (U1.out.still f9)
  have F9 := Lib.hid (F4.out.trans f9 (by simp))
  clear f9 F4
  go_wp2_with fail
  (with_reducible refine (Hlive.out _).mono ?_)
  rintro e x1 ⟨rfl, fx⟩
  have q1 := fx.heap Q1.out (by simp)
  have q7 := fx.heap Q7.out (by simp)
  have F10 := Lib.hid (F9.out.trans fx (by simp))
  have k := Lib.hid (KS.out x1 _ _ (Ha.out.still F10.out) (U1.out.still fx))
  obtain ⟨m0, m1, mf⟩ := two q1
  obtain ⟨n0, n1, nf⟩ := two q7
  have hz := lt_of_heap q1
  have hy := lt_of_heap q7
  clear q1 q7 fx Q1 Q7 U1 F9 KS Hlive
  go_wp2_with fail
  (with_reducible refine k.out.mono ?_)
  rintro e x2 ⟨rfl, fx⟩
  clear k m0 m1 mf n0 n1 nf hz hy
  go_wp2
  go_ret
  exact ⟨rfl, F10.out.trans fx (by simp)⟩
end Go.Proofs.YtikodapgceokhaaGreat
