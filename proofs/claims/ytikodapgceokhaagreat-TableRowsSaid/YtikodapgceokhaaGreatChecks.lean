/-
  The walk of the statement TableChecks (live's contract as a hypothesis; joined later).
-/
import Derived.Test.YtikodapgceokhaaGreatAsks
import Derived.Test.YtikodapgceokhaaGreatCopied
import Derived.Test.YtikodapgceokhaaGreatRvs
namespace Go.Proofs.YtikodapgceokhaaGreat
open Go.RowKit
/-- what the copies want -/
structure Fit14 (t : Tb) : Prop where
  vars : t.vars.length ≤ 8796093021952
  rows : t.rows.length ≤ 5864062014634
  row : ∀ r, r ∈ t.rows → r.length ≤ 3518437208780
theorem Fit14.small {t : Tb} (h : Fit14 t) : Small t := ⟨by have := h.vars; omega, by have := h.rows; omega, fun r hr => by have := h.row r hr; omega⟩
theorem RdTab.wf {w : World} {v : Value} {t : Tb} (h : RdTab w v t) : ∀ r, r ∈ t.rows → ∀ x, x ∈ r → V.wf x := by
  obtain ⟨va, vb, hs, rfl, hv, hr⟩ := h.ex
  intro r hrm
  obtain ⟨i, hi⟩ := List.getElem?_of_mem hrm
  have hlt := (List.getElem?_eq_some_iff.1 hi).1
  have hlen := hr.len
  obtain ⟨hvv, hh⟩ : ∃ x, hs[i]? = some x := ⟨hs[i]'(by omega), List.getElem?_eq_getElem (by omega)⟩
  exact (hr.row i hvv r hh hi).wf

set_option maxRecDepth 100000 in
set_option maxHeartbeats 4000000 in
theorem checks3 {cf : V → V → Int} (live : ∀ w, Calls Tryz.prog 18 #[] w fun e w' => e = .returned (.bool true) ∧ w.Fr w' []) (hK : Known V.wf cf) (hRK : RChkOk V.wf) (hRC : RCmpOk V.wf cf) {w : World} {v : Value} {t : Tb} (h : RdTab w v t) (st : Fit14 t) :
    Calls Tryz.prog 3 #[v] w fun e w' => e = .returned (.bool true) ∧ w.Fr w' [] := by
  have hwf := h.wf
  obtain ⟨x1, y1, hs1, rfl, hv1, hr1⟩ := h.ex
  obtain ⟨a1, c1, rfl, _, _⟩ := hv1.rd.shape
  obtain ⟨a2, c2, rfl, _, _⟩ := hr1.rd.shape
  clear hv1 hr1
  generalize t.vars.length = n1 at *
  generalize hs1.length = n2 at *
  have q1 := heap_alloc_at w (.cells #[.slice a1 n1 c1, .slice a2 n2 c2] 25) _ rfl
  have q3 := (World.Fr.refl w []).alloc (.cells #[.slice a1 n1 c1, .slice a2 n2 c2] 25)
  go_enter Tryz.func3, Tryz.ntmps3
  go_upto_region 1 with (fail)
  generalize hW : World.alloc w _ = W at *
  clear hW
  have h1 := h.still q3
  obtain ⟨p0, p1, pf⟩ := two q1
  have hc := copied14 h1 st.vars st.rows st.row
  have Hc := Lib.hid hc; have H1 := Lib.hid h1; have Q1 := Lib.hid q1; have Q3 := Lib.hid q3; have St := Lib.hid st; have Hwf := Lib.hid hwf; have HK := Lib.hid hK; have HRK := Lib.hid hRK; have HRC := Lib.hid hRC; have Hlive := Lib.hid live
  clear hc h1 q1 q3 st hwf hK hRK hRC live h
  go_wp2_with fail
  (with_reducible refine Hc.out.mono ?_)
  rintro e w1 ⟨u, rfl, ho⟩
  clear p0 p1 pf Hc
  obtain ⟨b1, d1, b2, d2, rfl⟩ := ho.shape
  generalize t.rows.length = n3 at *
  generalize hn4 : t.vars.length = n4 at *
  clear hn4
  have hq1 := ho.fr.heap Q1.out (by simp)
  have hsz : w.heap.size < w1.heap.size := lt_of_heap hq1
  have hq2 := heap_alloc_at w1 (.cells #[.slice b1 n4 d1, .slice b2 n3 d2] 25) _ rfl
  have hq1 := heap_alloc_some hq1 (.cells #[.slice b1 n4 d1, .slice b2 n3 d2] 25)
  have hf := (Q3.out.trans ho.fr (by simp)).alloc (.cells #[.slice b1 n4 d1, .slice b2 n3 d2] 25)
  have ht := (H1.out.still ho.fr).still ((World.Fr.refl w1 []).alloc (.cells #[.slice b1 n4 d1, .slice b2 n3 d2] 25))
  have hu := ho.rd.still ((World.Fr.refl w1 []).alloc (.cells #[.slice b1 n4 d1, .slice b2 n3 d2] 25))
  clear Q1 Q3 H1 ho
  go_upto_region 2 with (fail)
  generalize hW : World.alloc w1 _ = W2 at *
  clear hW
  generalize w1.heap.size = p at *
  obtain ⟨p0, p1, pf⟩ := two hq1
  obtain ⟨r0, r1, rf⟩ := two hq2
  have hmk : ∀ w', W2.Fr w' [] → (w'.cell? ⟨w.heap.size, 0, none⟩ = some (.slice a1 n1 c1) ∧ w'.cell? ⟨w.heap.size, 1, none⟩ = some (.slice a2 n2 c2) ∧ w'.cell? ⟨p, 0, none⟩ = some (.slice b1 n4 d1) ∧ w'.cell? ⟨p, 1, none⟩ = some (.slice b2 n3 d2) ∧ W2.Fr w' []) := fun w' hf => ⟨cellFrA hf p0, cellFrA hf p1, cellFrA hf r0, cellFrA hf r1, hf⟩
  have k1 := check15' HK.out ht Hwf.out St.out.small
  have k2 : ∀ W', W2.Fr W' [] → Calls Tryz.prog 16 #[.agg #[.slice b1 n4 d1, .slice b2 n3 d2]] W' fun e w' => e = .returned (.int .i64 (tcheck cf t)) ∧ W'.Fr w' [] := fun W' hf => rcheck16 HRK.out HRC.out (hu.still hf) Hwf.out St.out.small.vars St.out.small.rows St.out.small.row
  have k3 : ∀ W', W2.Fr W' [] → Calls Tryz.prog 17 #[.agg #[.slice a1 n1 c1, .slice a2 n2 c2], .agg #[.slice b1 n4 d1, .slice b2 n3 d2]] W' fun e w' => e = .returned (.bool true) ∧ W'.Fr w' [] := fun W' hf => by
    have hc := rsame17 (ht.still hf) (hu.still hf) St.out.small
    rwa [sameB_self] at hc
  generalize tcheck cf t = E at *
  have K1 := Lib.hid k1; have K2 := Lib.hid k2; have K3 := Lib.hid k3; have Hmk := Lib.hid hmk; have Hf := Lib.hid hf
  clear k1 k2 k3 hmk hf ht hu hq1 hq2 HK HRK HRC Hwf St
  have hee : (E == E) = true := by simp
  go_wp2_with fail
  (with_reducible refine K1.out.mono ?_)
  rintro e w2 ⟨rfl, hFx⟩
  clear p0 p1 pf r0 r1 rf
  obtain ⟨p0, p1, r0, r1, _⟩ := Hmk.out _ hFx
  go_wp2_with fail
  (with_reducible refine (K2.out _ hFx).mono ?_)
  rintro e w3 ⟨rfl, hf2⟩
  have hFx := World.Fr.trans (L := []) hFx hf2 (fun _ h => nomatch h)
  clear p0 p1 r0 r1 hf2
  obtain ⟨p0, p1, r0, r1, _⟩ := Hmk.out _ hFx
  go_wp2_with fail
  (with_reducible refine (K3.out _ hFx).mono ?_)
  rintro e w4 ⟨rfl, hf2⟩
  have hFx := World.Fr.trans (L := []) hFx hf2 (fun _ h => nomatch h)
  clear p0 p1 r0 r1 hf2
  go_wp2_with fail
  (with_reducible refine (Hlive.out _).mono ?_)
  rintro e w5 ⟨rfl, hf2⟩
  have hFx := World.Fr.trans (L := []) hFx hf2 (fun _ h => nomatch h)
  clear hf2
  go_wp2
  go_ret
  exact ⟨rfl, Hf.out.trans hFx (by simp)⟩
end Go.Proofs.YtikodapgceokhaaGreat
