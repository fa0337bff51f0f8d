/-
  The walks of table.both, table.True.
-/
import Derived.Test.YtikodapgceokhaaGreatDel
namespace Go.Proofs.YtikodapgceokhaaGreat
open Go.RowKit

/-- values that Check and Compare are known of -/
structure Known (okv : V → Prop) (cf : V → V → Int) : Prop where
  chk : ChkOk okv
  cmp : CmpOk okv cf
def TabOf (okv : V → Prop) (t : Tb) : Prop := ∀ r, r ∈ t.rows → ∀ x, x ∈ r → okv x
noncomputable def bothE (cf : V → V → Int) (a b : Tb) : Int := if tcheck cf a = 0 then tcheck cf b else tcheck cf a

theorem check15' {okv : V → Prop} {cf : V → V → Int} (hK : Known okv cf) {w : World} {v : Value} {t : Tb} (h : RdTab w v t) (ho : TabOf okv t) (hs : Small t) :
    Calls Tryz.prog 15 #[v] w fun e w' => e = .returned (.int .i64 (tcheck cf t)) ∧ w.Fr w' [] := check15 hK.chk hK.cmp h ho hs.vars hs.rows hs.row

theorem RdTab.agg {w : World} {v : Value} {t : Tb} (h : RdTab w v t) : ∃ a b, v = .agg #[a, b] := by
  obtain ⟨a, b, hs, hv, _⟩ := h.ex
  exact ⟨a, b, hv⟩

set_option maxRecDepth 100000 in
set_option maxHeartbeats 1000000 in
theorem both62 {okv : V → Prop} {cf : V → V → Int} (hK : Known okv cf) {w : World} {v1 v2 : Value} {s t : Tb} (h1 : RdTab w v1 s) (h2 : RdTab w v2 t) (ho1 : TabOf okv s) (ho2 : TabOf okv t) (hs1 : Small s) (hs2 : Small t) :
    Calls Tryz.prog 62 #[v1, v2] w fun e w' => e = .returned (.int .i64 (bothE cf s t)) ∧ w.Fr w' [] := by
  have hc1 := fun w' (hf : w.Fr w' []) => check15' hK (h1.still hf) ho1 hs1
  have hc2 := fun w' (hf : w.Fr w' []) => check15' hK (h2.still hf) ho2 hs2
  obtain ⟨x1, y1, rfl⟩ := h1.agg
  obtain ⟨x2, y2, rfl⟩ := h2.agg
  obtain ⟨xa, xb, xhs, hxe, hxv, hxr⟩ := h1.ex
  cases hxe
  obtain ⟨ya, yb, yhs, hye, hyv, hyr⟩ := h2.ex
  cases hye
  obtain ⟨a1, c1, rfl, _, _⟩ := hxv.rd.shape
  obtain ⟨a2, c2, rfl, _, _⟩ := hxr.rd.shape
  obtain ⟨a3, c3, rfl, _, _⟩ := hyv.rd.shape
  obtain ⟨a4, c4, rfl, _, _⟩ := hyr.rd.shape
  have Hc1 := Lib.hid hc1; have Hc2 := Lib.hid hc2; clear hc1 hc2 h1 h2 ho1 ho2 hs1 hs2 hxv hxr hyv hyr hK
  generalize hR : bothE cf s t = R
  have HR := Lib.hid hR; clear hR
  have q1 := heap_alloc_some (heap_alloc_at w (.cells #[.slice a1 s.vars.length c1, .slice a2 xhs.length c2] 25) _ rfl) (.cells #[.slice a3 t.vars.length c3, .slice a4 yhs.length c4] 25)
  have q2 : ((w.alloc (.cells #[.slice a1 s.vars.length c1, .slice a2 xhs.length c2] 25)).alloc (.cells #[.slice a3 t.vars.length c3, .slice a4 yhs.length c4] 25)).heap[w.heap.size + 1]? = some (.cells #[.slice a3 t.vars.length c3, .slice a4 yhs.length c4] 25) := heap_alloc_at _ _ _ (by simp)
  have q3 := ((World.Fr.refl w []).alloc (.cells #[.slice a1 s.vars.length c1, .slice a2 xhs.length c2] 25)).alloc (.cells #[.slice a3 t.vars.length c3, .slice a4 yhs.length c4] 25)
  go_enter Tryz.func62, Tryz.ntmps62
  go_upto_region 1 with (fail)
  generalize hW : World.alloc (World.alloc w _) _ = W at *
  clear hW
  obtain ⟨p0, p1, pf⟩ := two q1
  obtain ⟨r0, r1, rf⟩ := two q2
  have Q2 := Lib.hid q2; have Q3 := Lib.hid q3; clear q1 q2 q3
  go_wp2_with fail
  refine (Hc1.out _ Q3.out).mono ?_
  rintro e w1 ⟨rfl, hf1⟩
  have q2 := hf1.heap Q2.out (by simp)
  have Q4 := Lib.hid (Q3.out.trans hf1 (by simp))
  clear p0 p1 pf r0 r1 rf hf1 Q2 Q3
  obtain ⟨r0, r1, rf⟩ := two q2
  clear q2
  by_cases h0 : tcheck cf s = 0
  · have hres : R = tcheck cf t := by rw [← HR.out, bothE, if_pos h0]
    subst hres
    rw [h0]
    clear h0 HR
    go_wp2_with fail
    refine (Hc2.out _ Q4.out).mono ?_
    rintro e w2 ⟨rfl, hf2⟩
    have Q5 := Lib.hid (Q4.out.trans hf2 (by simp)); clear hf2
    go_wp2
    go_ret
    exact ⟨rfl, Q5.out⟩
  · have hres : R = tcheck cf s := by rw [← HR.out, bothE, if_neg h0]
    subst hres
    have h0b : (tcheck cf s == 0) = false := beq_eq_false_iff_ne.2 h0
    clear h0 HR
    go_wp2
    go_ret
    exact ⟨rfl, Q4.out⟩
end Go.Proofs.YtikodapgceokhaaGreat
