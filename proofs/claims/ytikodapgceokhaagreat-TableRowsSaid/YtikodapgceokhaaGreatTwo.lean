/-
  The law's two: what is told of two tables is the document's; both stay as they were.
-/
import Derived.Test.YtikodapgceokhaaGreatIs
namespace Go.Proofs.YtikodapgceokhaaGreat
open Go.RowKit

set_option maxRecDepth 100000 in
set_option maxHeartbeats 4000000 in
theorem two23 {F G : Nat} {w : World} {v1 v2 : Value} {a b : Tb} {E : Int} {T : Tb} (h1 : RdTab w v1 a) (h2 : RdTab w v2 b) (sa : Fit14 a) (sb : Fit14 b) (hs : Small T)
    (eF : ∀ args w, (callFunc F args).run Tryz.prog w = .ok (.enter F args) w) (eG : ∀ args w, (callFunc G args).run Tryz.prog w = .ok (.enter G args) w)
    (hF : ∀ w', w.Fr w' [] → Calls Tryz.prog F #[v1, v2] w' fun e x => ∃ v, e = .returned (.tuple #[v, .int .i64 E]) ∧ OwnTab w' x v T)
    (hG : ∀ w' u1 u2, RdTab w' u1 a → RdTab w' u2 b → Calls Tryz.prog G #[u1, u2] w' fun e x => ∃ v, e = .returned (.tuple #[v, .int .i64 E]) ∧ OwnTab w' x v T) :
    Calls Tryz.prog 23 #[v1, v2, .func (.func F) #[] #[], .func (.func G) #[] #[]] w fun e w' => e = .returned (.bool true) ∧ w.Fr w' [] := by
  obtain ⟨x1, y1, hs1, rfl, hv1, hr1⟩ := h1.ex
  obtain ⟨x2, y2, hs2, rfl, hv2, hr2⟩ := h2.ex
  obtain ⟨a1, c1, rfl, _, _⟩ := hv1.rd.shape
  obtain ⟨a2, c2, rfl, _, _⟩ := hr1.rd.shape
  obtain ⟨a3, c3, rfl, _, _⟩ := hv2.rd.shape
  obtain ⟨a4, c4, rfl, _, _⟩ := hr2.rd.shape
  have hlen := hr1.len
  have hlen2 := hr2.len
  rw [hlen] at h1 hF ⊢
  rw [hlen2] at h2 hF ⊢
  clear hv1 hr1 hv2 hr2 hlen hlen2
  have kis : ∀ (wa wb : World) (x y : Value), OwnTab wa wb x T → RdTab wb y T → Calls Tryz.prog 30 #[x, .int .i64 E, y, .int .i64 E] wb fun e w' => e = .returned (.bool true) ∧ wa.Fr w' [] := fun wa wb x y h1 h2 => by
    have hc := is30 (e := E) (f := E) h1 h2 hs
    rwa [sameB_self, Bool.true_and, beq_self_eq_true] at hc
  have ksame : ∀ (t : Tb) (w' : World) (x y : Value), Small t → RdTab w' x t → RdTab w' y t → Calls Tryz.prog 17 #[x, y] w' fun e x => e = .returned (.bool true) ∧ w'.Fr x [] := fun t w' x y ht h1 h2 => by
    have hc := rsame17 h1 h2 ht
    rwa [sameB_self] at hc
  have q1 := heap_alloc_some (heap_alloc_at w (.cells #[.slice a1 a.vars.length c1, .slice a2 a.rows.length c2] 25) _ rfl) (.cells #[.slice a3 b.vars.length c3, .slice a4 b.rows.length c4] 25)
  have q2 : ((w.alloc (.cells #[.slice a1 a.vars.length c1, .slice a2 a.rows.length c2] 25)).alloc (.cells #[.slice a3 b.vars.length c3, .slice a4 b.rows.length c4] 25)).heap[w.heap.size + 1]? = some (.cells #[.slice a3 b.vars.length c3, .slice a4 b.rows.length c4] 25 (0, 0)) := heap_alloc_at _ _ _ (by simp)
  have f1 := ((World.Fr.refl w []).alloc (.cells #[.slice a1 a.vars.length c1, .slice a2 a.rows.length c2] 25)).alloc (.cells #[.slice a3 b.vars.length c3, .slice a4 b.rows.length c4] 25)
  have Ha := Lib.hid h1; have Hb := Lib.hid h2; have Sa := Lib.hid sa; have Sb := Lib.hid sb; have HF := Lib.hid hF; have HG := Lib.hid hG; have KI := Lib.hid kis; have KS := Lib.hid ksame
  clear h1 h2 sa sb hs hF hG kis ksame
  go_enter Tryz.func23, Tryz.ntmps23
  go_upto_region 1 with (fail)
  generalize hW : World.alloc (World.alloc w _) _ = W at *
  clear hW
  generalize w.heap.size = p4 at *
  have k := Lib.hid (copied14 (Ha.out.still f1) Sa.out.vars Sa.out.rows Sa.out.row)
  obtain ⟨m0, m1, mf⟩ := two q1
  have hz := lt_of_heap q1
  have Q1 := Lib.hid q1; have Q2 := Lib.hid q2; have F1 := Lib.hid f1
  clear q1 q2 f1
  go_wp2_with fail
  (with_reducible refine k.out.mono ?_)
  rintro e w1 ⟨u, rfl, ho⟩
  obtain ⟨b1, b2, b3, b4, rfl⟩ := ho.shape
  clear k m0 m1 mf hz
  have hy := lt_of_heap (ho.fr.heap Q1.out (by simp))
  have Q1 := Lib.hid (heap_alloc_some (ho.fr.heap Q1.out (by simp)) (.cells #[.slice b1 a.vars.length b2, .slice b3 a.rows.length b4] 25))
  have Q2 := Lib.hid (heap_alloc_some (ho.fr.heap Q2.out (by simp)) (.cells #[.slice b1 a.vars.length b2, .slice b3 a.rows.length b4] 25))
  have Q9 := Lib.hid (heap_alloc_at w1 (.cells #[.slice b1 a.vars.length b2, .slice b3 a.rows.length b4] 25) _ rfl)
  have F2 := Lib.hid ((F1.out.trans ho.fr (by simp)).alloc (.cells #[.slice b1 a.vars.length b2, .slice b3 a.rows.length b4] 25))
  have U1 := Lib.hid (ho.on ((World.Fr.refl w1 []).alloc (.cells #[.slice b1 a.vars.length b2, .slice b3 a.rows.length b4] 25))).rd
  clear F1 ho
  go_upto_region 2 with (fail)
  generalize hW : World.alloc w1 _ = w2 at *
  clear hW hy
  generalize w1.heap.size = p9 at *
  have k := Lib.hid (copied14 (Hb.out.still F2.out) Sb.out.vars Sb.out.rows Sb.out.row)
  obtain ⟨m0, m1, mf⟩ := two Q2.out
  have hz := lt_of_heap Q2.out
  go_wp2_with fail
  (with_reducible refine k.out.mono ?_)
  rintro e w3 ⟨u, rfl, ho⟩
  obtain ⟨d1, d2, d3, d4, rfl⟩ := ho.shape
  clear k m0 m1 mf hz
  have Q1 := Lib.hid (heap_alloc_some (ho.fr.heap Q1.out (by simp)) (.cells #[.slice d1 b.vars.length d2, .slice d3 b.rows.length d4] 25))
  have Q2 := Lib.hid (heap_alloc_some (ho.fr.heap Q2.out (by simp)) (.cells #[.slice d1 b.vars.length d2, .slice d3 b.rows.length d4] 25))
  have Q9 := Lib.hid (heap_alloc_some (ho.fr.heap Q9.out (by simp)) (.cells #[.slice d1 b.vars.length d2, .slice d3 b.rows.length d4] 25))
  have Q10 := Lib.hid (heap_alloc_at w3 (.cells #[.slice d1 b.vars.length d2, .slice d3 b.rows.length d4] 25) _ rfl)
  have U1 := Lib.hid ((U1.out.still ho.fr).still ((World.Fr.refl w3 []).alloc (.cells #[.slice d1 b.vars.length d2, .slice d3 b.rows.length d4] 25)))
  have U2 := Lib.hid (ho.on ((World.Fr.refl w3 []).alloc (.cells #[.slice d1 b.vars.length d2, .slice d3 b.rows.length d4] 25))).rd
  have F4 := Lib.hid ((F2.out.trans ho.fr (by simp)).alloc (.cells #[.slice d1 b.vars.length d2, .slice d3 b.rows.length d4] 25))
  clear F2 ho
  go_upto_region 3 with (fail)
  generalize hW : World.alloc w3 _ = w4 at *
  clear hW
  generalize w3.heap.size = p10 at *
  have k := Lib.hid (HF.out w4 F4.out)
  obtain ⟨m0, m1, mf⟩ := two Q1.out
  obtain ⟨n0, n1, nf⟩ := two Q2.out
  have hz := lt_of_heap Q1.out
  have hy := lt_of_heap Q2.out
  go_wp2_with fail
  (with_reducible refine k.out.mono ?_)
  rintro e w5 ⟨u, rfl, ho⟩
  obtain ⟨t1, t2, t3, t4, rfl⟩ := ho.shape
  clear k m0 m1 mf n0 n1 nf hz hy HF
  have Q11 := Lib.hid (heap_alloc_at w5 (.cells #[.slice t1 T.vars.length t2, .slice t3 T.rows.length t4] 25) _ rfl)
  have O1 := Lib.hid (ho.on ((World.Fr.refl w5 []).alloc (.cells #[.slice t1 T.vars.length t2, .slice t3 T.rows.length t4] 25)))
  clear ho
  go_upto_region 4 with (fail)
  generalize hW : World.alloc w5 _ = w6 at *
  clear hW
  generalize w5.heap.size = p11 at *
  have k := Lib.hid (HG.out w6 _ _ (U1.out.still O1.out.fr) (U2.out.still O1.out.fr))
  have q9 := O1.out.fr.heap Q9.out (by simp)
  have q10 := O1.out.fr.heap Q10.out (by simp)
  obtain ⟨m0, m1, mf⟩ := two q9
  obtain ⟨n0, n1, nf⟩ := two q10
  have hz := lt_of_heap q9
  have hy := lt_of_heap q10
  clear q9 q10
  go_wp2_with fail
  (with_reducible refine k.out.mono ?_)
  rintro e w7 ⟨u, rfl, ho⟩
  obtain ⟨r1, r2, r3, r4, rfl⟩ := ho.shape
  clear k m0 m1 mf n0 n1 nf hz hy HG
  have Q11 := Lib.hid (heap_alloc_some (ho.fr.heap Q11.out (by simp)) (.cells #[.slice r1 T.vars.length r2, .slice r3 T.rows.length r4] 25))
  have Q13 := Lib.hid (heap_alloc_at w7 (.cells #[.slice r1 T.vars.length r2, .slice r3 T.rows.length r4] 25) _ rfl)
  have O1 := Lib.hid (O1.out.on (ho.fr.alloc (.cells #[.slice r1 T.vars.length r2, .slice r3 T.rows.length r4] 25)))
  have O2 := Lib.hid (ho.on ((World.Fr.refl w7 []).alloc (.cells #[.slice r1 T.vars.length r2, .slice r3 T.rows.length r4] 25))).rd
  clear ho
  go_upto_region 5 with (fail)
  generalize hW : World.alloc w7 _ = w8 at *
  clear hW
  generalize w7.heap.size = p13 at *
  have k := Lib.hid (KI.out w4 w8 _ _ O1.out O2.out)
  obtain ⟨m0, m1, mf⟩ := two Q11.out
  obtain ⟨n0, n1, nf⟩ := two Q13.out
  have hz := lt_of_heap Q11.out
  have hy := lt_of_heap Q13.out
  go_wp2_with fail
  (with_reducible refine k.out.mono ?_)
  rintro e w9 ⟨rfl, f9⟩
  clear k m0 m1 mf n0 n1 nf hz hy Q11 Q13 O1 O2 KI
  have q1 := f9.heap Q1.out (by simp)
  have q9 := f9.heap Q9.out (by simp)
  have F9 := Lib.hid (F4.out.trans f9 (by simp))
  have k := Lib.hid (KS.out a w9 _ _ Sa.out.small (Ha.out.still F9.out) (U1.out.still f9))
  have Q2 := Lib.hid (f9.heap Q2.out (by simp))
  have Q10 := Lib.hid (f9.heap Q10.out (by simp))
  have U2 := Lib.hid (U2.out.still f9)
  obtain ⟨m0, m1, mf⟩ := two q1
  obtain ⟨n0, n1, nf⟩ := two q9
  have hz := lt_of_heap q1
  have hy := lt_of_heap q9
  clear q1 q9 f9 Q1 Q9 U1 F4
  go_wp2_with fail
  (with_reducible refine k.out.mono ?_)
  rintro e x1 ⟨rfl, fx⟩
  clear k m0 m1 mf n0 n1 nf hz hy
  have q2 := fx.heap Q2.out (by simp)
  have q10 := fx.heap Q10.out (by simp)
  have F10 := Lib.hid (F9.out.trans fx (by simp))
  have k := Lib.hid (KS.out b x1 _ _ Sb.out.small (Hb.out.still F10.out) (U2.out.still fx))
  obtain ⟨m0, m1, mf⟩ := two q2
  obtain ⟨n0, n1, nf⟩ := two q10
  have hz := lt_of_heap q2
  have hy := lt_of_heap q10
  clear q2 q10 fx Q2 Q10 U2 F9 KS
  go_wp2_with fail
  (with_reducible refine k.out.mono ?_)
  rintro e x2 ⟨rfl, fx⟩
  clear k m0 m1 mf n0 n1 nf hz hy
  go_wp2
  go_ret
  exact ⟨rfl, F10.out.trans fx (by simp)⟩
end Go.Proofs.YtikodapgceokhaaGreat
