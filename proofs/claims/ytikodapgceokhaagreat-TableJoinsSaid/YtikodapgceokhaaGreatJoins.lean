/-
  The walk of the statement TableJoins (live's contract as a hypothesis; joined later).
-/
import Derived.Test.YtikodapgceokhaaGreatSmalls
namespace Go.Proofs.YtikodapgceokhaaGreat
open Go.RowKit

set_option maxRecDepth 100000 in
set_option maxHeartbeats 4000000 in
theorem joins5 {cf : V → V → Int} (live : ∀ w, Calls Tryz.prog 18 #[] w fun e w' => e = .returned (.bool true) ∧ w.Fr w' []) (hK : Ctx V.wf cf) (hRK : RChkOk V.wf) (hRC : RCmpOk V.wf cf) {w : World} {v1 v2 : Value} {a b : Tb} (h1 : RdTab w v1 a) (h2 : RdTab w v2 b) (sa : Fit14 a) (sb : Fit14 b) :
    Calls Tryz.prog 5 #[v1, v2] w fun e w' => e = .returned (.bool true) ∧ w.Fr w' [] := by
  have k1 := fun (hm : a.rows.length * b.rows.length ≤ 1000000000) w' (hf : w.Fr w' []) => two_join hK hRK hRC (h1.still hf) (h2.still hf) sa sb hm
  have k2 := fun w' (hf : w.Fr w' []) => two_anti hK hRK hRC (h1.still hf) (h2.still hf) sa sb
  obtain ⟨x1, y1, hs1, rfl, hv1, hr1⟩ := h1.ex
  obtain ⟨x2, y2, hs2, rfl, hv2, hr2⟩ := h2.ex
  obtain ⟨a1, c1, rfl, _, _⟩ := hv1.rd.shape
  obtain ⟨a2, c2, rfl, _, _⟩ := hr1.rd.shape
  obtain ⟨a3, c3, rfl, _, _⟩ := hv2.rd.shape
  obtain ⟨a4, c4, rfl, _, _⟩ := hr2.rd.shape
  have hlen := hr1.len
  have hlen2 := hr2.len
  rw [hlen, hlen2] at k1 k2 ⊢
  clear hv1 hr1 hv2 hr2 hlen hlen2 h1 h2 hK hRK hRC
  have sra := sa.rows
  have srb := sb.rows
  generalize a.vars.length = n1 at *
  generalize a.rows.length = n2 at *
  generalize b.vars.length = n3 at *
  generalize b.rows.length = n4 at *
  have q1 := heap_alloc_some (heap_alloc_at w (.cells #[.slice a1 n1 c1, .slice a2 n2 c2] 25) _ rfl) (.cells #[.slice a3 n3 c3, .slice a4 n4 c4] 25)
  have q2 : ((w.alloc (.cells #[.slice a1 n1 c1, .slice a2 n2 c2] 25)).alloc (.cells #[.slice a3 n3 c3, .slice a4 n4 c4] 25)).heap[w.heap.size + 1]? = some (.cells #[.slice a3 n3 c3, .slice a4 n4 c4] 25 (0, 0)) := heap_alloc_at _ _ _ (by simp)
  have f1 := ((World.Fr.refl w []).alloc (.cells #[.slice a1 n1 c1, .slice a2 n2 c2] 25)).alloc (.cells #[.slice a3 n3 c3, .slice a4 n4 c4] 25)
  have K1 := Lib.hid k1; have K2 := Lib.hid k2; have Hlive := Lib.hid live; have Sra := Lib.hid sra; have Srb := Lib.hid srb
  clear k1 k2 live sa sb sra srb
  go_enter Tryz.func5, Tryz.ntmps5
  go_upto_region 1 with (fail)
  generalize hW : World.alloc (World.alloc w _) _ = W at *
  clear hW
  generalize w.heap.size = p2 at *
  obtain ⟨m0, m1, mf⟩ := two q1
  obtain ⟨o0, o1, of⟩ := two q2
  have hc := light22 (ls := [n2, n4]) (cap := 2) (lens2 (W := W) (x1 := a1) (x2 := a2) (y1 := a3) (y2 := a4) (n1 := n1) (n2 := n2) (m1 := n3) (m2 := n4) (c1 := c1) (c2 := c2) (d1 := c3) (d2 := c4)) (by simp) (fun n hn => by simp at hn; rcases hn with rfl | rfl; exact Sra.out; exact Srb.out) (by simp)
  have hl2 : [n2, n4].length = 2 := rfl
  rw [hl2] at hc
  have hlt := light2 (x := n2) (y := n4)
  generalize lightF 1 [n2, n4] = L at *
  have Hlt := Lib.hid hlt; have Hc := Lib.hid hc; have Q1 := Lib.hid q1; have Q2 := Lib.hid q2; have F1 := Lib.hid f1
  clear hlt hc q1 q2 f1 hl2
  go_wp2_with fail
  (with_reducible refine Hc.out.mono ?_)
  rintro e w1 ⟨rfl, hw⟩

  have q1 := heap_alloc_some Q1.out (.cells #[.slice a1 n1 c1, .slice a2 n2 c2, .slice a3 n3 c3, .slice a4 n4 c4] 25)
  have q2 := heap_alloc_some Q2.out (.cells #[.slice a1 n1 c1, .slice a2 n2 c2, .slice a3 n3 c3, .slice a4 n4 c4] 25)
  have f2 := F1.out.alloc (.cells #[.slice a1 n1 c1, .slice a2 n2 c2, .slice a3 n3 c3, .slice a4 n4 c4] 25)
  rw [hw] at q1 q2 f2
  clear hw m0 m1 mf o0 o1 of Hc Q1 Q2 F1
  have Q1 := Lib.hid q1; have Q2 := Lib.hid q2; have F2 := Lib.hid f2
  clear q1 q2 f2
  cases L with
  | false =>
    go_wp2_with fail
    (with_reducible refine (Hlive.out _).mono ?_)
    rintro e x1 ⟨rfl, fx⟩
    go_wp2
    go_ret
    exact ⟨rfl, F2.out.trans fx (by simp)⟩
  | true =>
    have hm : n2 * n4 ≤ 1000000000 := by have := Hlt.out rfl; omega
    have Hm := Lib.hid hm
    clear hm
    have k := Lib.hid (K1.out Hm.out _ F2.out)
    obtain ⟨m0, m1, mf⟩ := two Q1.out
    obtain ⟨o0, o1, of⟩ := two Q2.out
    have hz := lt_of_heap Q1.out
    have hy := lt_of_heap Q2.out
    go_wp2_with fail
    (with_reducible refine k.out.mono ?_)
    rintro e x1 ⟨rfl, fx⟩
    have q1 := fx.heap Q1.out (by simp)
    have q2 := fx.heap Q2.out (by simp)
    have F3 := Lib.hid (F2.out.trans fx (by simp))
    clear m0 m1 mf o0 o1 of hz hy k fx Q1 Q2 F2 K1
    have k := Lib.hid (K2.out _ F3.out)
    obtain ⟨m0, m1, mf⟩ := two q1
    obtain ⟨o0, o1, of⟩ := two q2
    have hz := lt_of_heap q1
    have hy := lt_of_heap q2
    clear q1 q2
    go_wp2_with fail
    (with_reducible refine k.out.mono ?_)
    rintro e x2 ⟨rfl, fx⟩
    have F4 := Lib.hid (F3.out.trans fx (by simp))
    clear m0 m1 mf o0 o1 of hz hy k fx F3 K2
    go_wp2_with fail
    (with_reducible refine (Hlive.out _).mono ?_)
    rintro e x3 ⟨rfl, fx⟩
    go_wp2
    go_ret
    exact ⟨rfl, F4.out.trans fx (by simp)⟩
end Go.Proofs.YtikodapgceokhaaGreat
