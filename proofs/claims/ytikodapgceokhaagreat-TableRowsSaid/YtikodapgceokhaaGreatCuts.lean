/-
  The walk of the statement TableCuts (live's contract as a hypothesis; joined later).
-/
import Derived.Test.YtikodapgceokhaaGreatIs
import Derived.Test.YtikodapgceokhaaGreatRcA
namespace Go.Proofs.YtikodapgceokhaaGreat
open Go.RowKit

theorem madeT_small {cf : V → V → Int} (hO : OrdOk (fun v => V.wf v ∧ vcheck v = 0) cf) {l : List BA} {rs : List Row} (hn : l.Nodup) (hl : l.length ≤ 8000000000000000000) (hm : rs.length ≤ 8000000000000000000) (hw : ∀ r, r ∈ rs → r.length = l.length) (hok : ∀ r, r ∈ rs → ∀ x, x ∈ r → V.wf x ∧ vcheck x = 0) : Small (madeT cf l rs) := by
  have heq := rmadeT_eq hO (hs := List.replicate rs.length (.slice none 0 0)) hn (by simp) hw hok
  rw [← heq]
  unfold rmadeT
  have hs := sortP_sub (cf := cf) _ ((List.replicate rs.length (Value.slice none 0 0)).zip (rs.map fun r => pick l r (risL l))) (Nat.le_refl _)
  refine ⟨by rw [risL_len]; exact hl, ?_, fun r hr => ?_⟩
  · have := hs.2
    rw [List.length_map]
    rw [List.length_zip, List.length_map, List.length_replicate] at this
    omega
  · obtain ⟨x, hx, rfl⟩ := List.mem_map.1 hr
    have h2 := (List.of_mem_zip (hs.1 x hx)).2
    obtain ⟨r0, _, he2⟩ := List.mem_map.1 h2
    rw [← he2, pick_len, risL_len]; exact hl
theorem tNone_small : Small tNone := ⟨by simp, by simp, fun r hr => by simp at hr⟩
theorem picked_small {cf : V → V → Int} (hO : OrdOk (fun v => V.wf v ∧ vcheck v = 0) cf) {t : Tb} {want : List BA} (ht : Small t) (hwf : ∀ r, r ∈ t.rows → ∀ x, x ∈ r → V.wf x) (hn : want.Nodup) (hin : ∀ x, x ∈ want → x ∈ t.vars) (hc : ∀ r, r ∈ t.rows → r.length = t.vars.length ∧ ∀ x, x ∈ r → vcheck x = 0) : Small (madeT cf want (t.rows.map fun r => pick t.vars r want)) :=
  madeT_small hO hn (Nat.le_trans (nodup_le want t.vars hn hin) ht.vars) (by rw [List.length_map]; exact ht.rows)
    (fun r hr => by obtain ⟨r0, _, rfl⟩ := List.mem_map.1 hr; exact pick_len _ _ _)
    (fun r hr y hy => by
      obtain ⟨r0, hr0, rfl⟩ := List.mem_map.1 hr
      have hm := pick_mem hin (hc r0 hr0).1 hy
      exact ⟨hwf r0 hr0 y hm, (hc r0 hr0).2 y hm⟩)
theorem projectT_small {cf : V → V → Int} (hO : OrdOk (fun v => V.wf v ∧ vcheck v = 0) cf) {t : Tb} {want : List BA} (ht : Small t) (hwf : ∀ r, r ∈ t.rows → ∀ x, x ∈ r → V.wf x) : Small (projectT cf t want).2 := by
  unfold projectT
  split
  · exact tNone_small
  · rename_i h0
    split
    · exact tNone_small
    · rename_i h1
      have hn : want.Nodup := Classical.not_not.1 fun h => h1 (.inl h)
      have hin : ∀ x, x ∈ want → x ∈ t.vars := Classical.not_not.1 fun h => h1 (.inr h)
      obtain ⟨_, _, k3, _⟩ := tcheck_zero (Classical.not_not.1 h0)
      exact picked_small hO ht hwf hn hin k3
theorem dropT_small {cf : V → V → Int} (hO : OrdOk (fun v => V.wf v ∧ vcheck v = 0) cf) {t : Tb} {want : List BA} (ht : Small t) (hwf : ∀ r, r ∈ t.rows → ∀ x, x ∈ r → V.wf x) : Small (dropT cf t want).2 := by
  unfold dropT
  split
  · exact tNone_small
  · rename_i h0
    obtain ⟨_, k2, k3, _⟩ := tcheck_zero (Classical.not_not.1 h0)
    exact picked_small hO ht hwf ((nodup_of_pair k2).sublist List.filter_sublist) (fun x hx => (leftL_mem.1 hx).1) k3

set_option maxRecDepth 100000 in
set_option maxHeartbeats 4000000 in
theorem cuts9 {cf : V → V → Int} (live : ∀ w, Calls Tryz.prog 18 #[] w fun e w' => e = .returned (.bool true) ∧ w.Fr w' []) (hK : Ctx V.wf cf) (hRK : RChkOk V.wf) (hRC : RCmpOk V.wf cf) {w : World} {v1 v2 : Value} {t : Tb} {want : List BA} (h1 : RdTab w v1 t) (h2 : RdStr w v2 want) (st : Fit14 t) (hl : want.length ≤ 8796093021952) :
    Calls Tryz.prog 9 #[v1, v2] w fun e w' => e = .returned (.bool true) ∧ w.Fr w' [] := by
  have hwf := h1.wf
  have hfit : Fits V.wf t := ⟨st.small, st.rows, hwf⟩
  have hsm : Small (projectT cf t want).2 := projectT_small hK.ord st.small hwf
  have hsm0 : Small (dropT cf t want).2 := dropT_small hK.ord st.small hwf
  obtain ⟨x1, y1, hs1, rfl, hv1, hr1⟩ := h1.ex
  obtain ⟨a1, c1, rfl, _, _⟩ := hv1.rd.shape
  obtain ⟨a2, c2, rfl, _, _⟩ := hr1.rd.shape
  obtain ⟨a3, c3, rfl, _, _⟩ := h2.rd.shape
  have hlen := hr1.len
  rw [hlen] at h1 ⊢
  clear hv1 hr1 hlen
  have q2 := heap_alloc_at w (.cells #[.slice a1 t.vars.length c1, .slice a2 t.rows.length c2] 25) _ rfl
  have f1 := (World.Fr.refl w []).alloc (.cells #[.slice a1 t.vars.length c1, .slice a2 t.rows.length c2] 25)
  have Ht := Lib.hid h1; have Hs := Lib.hid h2; have Hfit := Lib.hid hfit; have St := Lib.hid st; have Hl := Lib.hid hl; have HK := Lib.hid hK; have HRK := Lib.hid hRK; have HRC := Lib.hid hRC; have Hlive := Lib.hid live; have Hsm := Lib.hid hsm; have Hsm0 := Lib.hid hsm0
  clear h1 h2 hfit st hl hK hRK hRC live hsm hsm0 hwf
  go_enter Tryz.func9, Tryz.ntmps9
  go_upto_region 1 with (fail)
  generalize hW : World.alloc w _ = W at *
  clear hW
  generalize w.heap.size = p2 at *
  have k1 := copied14 (Ht.out.still f1) St.out.vars St.out.rows St.out.row
  have hw0 := lt_of_heap q2
  obtain ⟨m0, m1, mf⟩ := two q2
  have K1 := Lib.hid k1; have Q2 := Lib.hid q2; have F1 := Lib.hid f1
  clear k1 q2 f1
  go_wp2_with fail
  (with_reducible refine K1.out.mono ?_)
  rintro e w1 ⟨u, rfl, ho⟩
  obtain ⟨b1, d1, b2, d2, rfl⟩ := ho.shape
  have q2 := heap_alloc_some (ho.fr.heap Q2.out (by simp)) (.cells #[.slice b1 t.vars.length d1, .slice b2 t.rows.length d2] 25)
  have q5 := heap_alloc_at w1 (.cells #[.slice b1 t.vars.length d1, .slice b2 t.rows.length d2] 25) _ rfl
  have f2 := (F1.out.trans ho.fr (by simp)).alloc (.cells #[.slice b1 t.vars.length d1, .slice b2 t.rows.length d2] 25)
  have u2 := (ho.on ((World.Fr.refl w1 []).alloc (.cells #[.slice b1 t.vars.length d1, .slice b2 t.rows.length d2] 25))).rd
  have hl2 : p2 < w1.heap.size := lt_of_heap (ho.fr.heap Q2.out (by simp))
  go_upto_region 2 with (fail)
  generalize hW : World.alloc w1 _ = w2 at *
  clear hW ho m0 m1 mf hw0
  generalize w1.heap.size = p5 at *
  have k3 : ∀ w', w2.Fr w' [] → Calls Tryz.prog 35 #[.agg #[.slice a1 t.vars.length c1, .slice a2 t.rows.length c2], .slice a3 want.length c3] w' fun e x => ∃ v, e = .returned (.tuple #[v, .int .i64 (projectT cf t want).1]) ∧ OwnTab w' x v (projectT cf t want).2 := fun w' hf => project35 HK.out (Ht.out.still (f2.trans hf (by simp))) (Hs.out.fr (f2.trans hf (by simp)) (by simp)) Hfit.out Hl.out
  have k4 : ∀ w', w2.Fr w' [] → Calls Tryz.prog 36 #[.agg #[.slice b1 t.vars.length d1, .slice b2 t.rows.length d2], .slice a3 want.length c3] w' fun e x => ∃ v, e = .returned (.tuple #[v, .int .i64 (projectT cf t want).1]) ∧ OwnTab w' x v (projectT cf t want).2 := fun w' hf => rproject36 HRK.out HRC.out HK.out.ord (u2.still hf) (Hs.out.fr (f2.trans hf (by simp)) (by simp)) Hfit.out Hl.out
  have k5 : ∀ w', w2.Fr w' [] → Calls Tryz.prog 37 #[.agg #[.slice a1 t.vars.length c1, .slice a2 t.rows.length c2], .slice a3 want.length c3] w' fun e x => ∃ v, e = .returned (.tuple #[v, .int .i64 (dropT cf t want).1]) ∧ OwnTab w' x v (dropT cf t want).2 := fun w' hf => drop37 HK.out (Ht.out.still (f2.trans hf (by simp))) (Hs.out.fr (f2.trans hf (by simp)) (by simp)) Hfit.out Hl.out
  have k6 : ∀ w', w2.Fr w' [] → Calls Tryz.prog 38 #[.agg #[.slice b1 t.vars.length d1, .slice b2 t.rows.length d2], .slice a3 want.length c3] w' fun e x => ∃ v, e = .returned (.tuple #[v, .int .i64 (dropT cf t want).1]) ∧ OwnTab w' x v (dropT cf t want).2 := fun w' hf => rdrop38 HRK.out HRC.out HK.out.ord (u2.still hf) (Hs.out.fr (f2.trans hf (by simp)) (by simp)) Hfit.out Hl.out
  have k7 : ∀ w', w2.Fr w' [] → Calls Tryz.prog 17 #[.agg #[.slice a1 t.vars.length c1, .slice a2 t.rows.length c2], .agg #[.slice b1 t.vars.length d1, .slice b2 t.rows.length d2]] w' fun e x => e = .returned (.bool true) ∧ w'.Fr x [] := fun w' hf => by
    have hc := rsame17 (Ht.out.still (f2.trans hf (by simp))) (u2.still hf) St.out.small
    rwa [sameB_self] at hc
  have hsm := Hsm.out
  have hsm0 := Hsm0.out
  generalize projectT cf t want = R at *
  generalize dropT cf t want = R0 at *
  obtain ⟨E, T⟩ := R
  obtain ⟨E0, T0⟩ := R0
  simp only at k3 k4 k5 k6 hsm hsm0
  have kis : ∀ (L : List Nat) (wb : World) (x y : Value), Lent L wb x T → RdTab wb y T → Calls Tryz.prog 30 #[x, .int .i64 E, y, .int .i64 E] wb fun e w' => e = .returned (.bool true) ∧ wb.Fr w' L := fun L wb x y h1 h2 => by
    have hc := is30L (e := E) (f := E) h1 h2 hsm
    rwa [sameB_self, Bool.true_and, beq_self_eq_true] at hc
  have kis0 : ∀ (L : List Nat) (wb : World) (x y : Value), Lent L wb x T0 → RdTab wb y T0 → Calls Tryz.prog 30 #[x, .int .i64 E0, y, .int .i64 E0] wb fun e w' => e = .returned (.bool true) ∧ wb.Fr w' L := fun L wb x y h1 h2 => by
    have hc := is30L (e := E0) (f := E0) h1 h2 hsm0
    rwa [sameB_self, Bool.true_and, beq_self_eq_true] at hc
  have K3 := Lib.hid k3; have K4 := Lib.hid k4; have K5 := Lib.hid k5; have K6 := Lib.hid k6; have K7 := Lib.hid k7; have KI := Lib.hid kis; have KI0 := Lib.hid kis0
  have Q2z : Hid (p2 < w2.heap.size) := Lib.hid (lt_of_heap q2); have Q5z : Hid (p5 < w2.heap.size) := Lib.hid (lt_of_heap q5)
  have Q2b := Lib.hid q2; have Q5 := Lib.hid q5; have F2 := Lib.hid f2; have FF := Lib.hid (World.Fr.refl w2 [])
  clear k3 k4 k5 k6 k7 kis kis0 q2 q5 f2 u2 hsm hsm0 Ht Hs St Hfit Hl HK HRK HRC Hsm Hsm0 K1 Q2 F1

  obtain ⟨m0, m1, mf⟩ := two Q2b.out
  obtain ⟨n0, n1, nf⟩ := two Q5.out
  have hz2 := lt_of_heap Q2b.out
  have hz5 := lt_of_heap Q5.out
  have k := Lib.hid (K3.out w2 FF.out)
  clear K3
  go_wp2_with fail
  (with_reducible refine k.out.mono ?_)
  rintro e x3 ⟨v, rfl, ho⟩
  obtain ⟨ta1, ta2, ta3, ta4, rfl⟩ := ho.shape
  clear k m0 m1 mf n0 n1 nf hz2 hz5
  have Q2b := Lib.hid (heap_alloc_some (ho.fr.heap Q2b.out (by simp)) (.cells #[.slice ta1 T.vars.length ta2, .slice ta3 T.rows.length ta4] 25))
  have Q5 := Lib.hid (heap_alloc_some (ho.fr.heap Q5.out (by simp)) (.cells #[.slice ta1 T.vars.length ta2, .slice ta3 T.rows.length ta4] 25))
  have taq := Lib.hid (heap_alloc_at x3 (.cells #[.slice ta1 T.vars.length ta2, .slice ta3 T.rows.length ta4] 25) _ rfl)
  have tao := Lib.hid (ho.lent.fr ((World.Fr.refl x3 []).alloc (.cells #[.slice ta1 T.vars.length ta2, .slice ta3 T.rows.length ta4] 25)) (fun k _ => by simp))
  have tas : Hid (w2.heap.size ≤ w2.heap.size) := Lib.hid FF.out.size
  have FF := Lib.hid (FF.out.trans (ho.fr.alloc (.cells #[.slice ta1 T.vars.length ta2, .slice ta3 T.rows.length ta4] 25)) (by simp))
  have hsz := ho.fr.size
  have taz := Lib.hid hsz
  generalize hL : span w2.heap.size x3.heap.size = Lta at *
  have hLm : Hid (∀ k, k ∈ Lta → w2.heap.size ≤ k ∧ k < x3.heap.size) := Lib.hid (by rw [← hL]; exact fun k hk => span_mem.1 hk)
  have Ltam := hLm
  clear hL hLm hsz ho
  go_upto_region 3 with (fail)
  generalize hW : World.alloc x3 _ = w3 at *
  have hxz : Hid (x3.heap.size ≤ w3.heap.size) := Lib.hid (by rw [← hW]; exact ((World.Fr.refl x3 []).alloc _).size)
  have tax := hxz
  clear hW hxz
  generalize x3.heap.size = p6 at *
  obtain ⟨m0, m1, mf⟩ := two Q2b.out
  obtain ⟨n0, n1, nf⟩ := two Q5.out
  have hz2 := lt_of_heap Q2b.out
  have hz5 := lt_of_heap Q5.out
  have k := Lib.hid (K4.out w3 FF.out)
  clear K4
  go_wp2_with fail
  (with_reducible refine k.out.mono ?_)
  rintro e x4 ⟨v, rfl, ho⟩
  obtain ⟨tb1, tb2, tb3, tb4, rfl⟩ := ho.shape
  clear k m0 m1 mf n0 n1 nf hz2 hz5
  have Q2b := Lib.hid (heap_alloc_some (ho.fr.heap Q2b.out (by simp)) (.cells #[.slice tb1 T.vars.length tb2, .slice tb3 T.rows.length tb4] 25))
  have Q5 := Lib.hid (heap_alloc_some (ho.fr.heap Q5.out (by simp)) (.cells #[.slice tb1 T.vars.length tb2, .slice tb3 T.rows.length tb4] 25))
  have taq := Lib.hid (heap_alloc_some (ho.fr.heap taq.out (by simp)) (.cells #[.slice tb1 T.vars.length tb2, .slice tb3 T.rows.length tb4] 25))
  have tbq := Lib.hid (heap_alloc_at x4 (.cells #[.slice tb1 T.vars.length tb2, .slice tb3 T.rows.length tb4] 25) _ rfl)
  have tao := Lib.hid (tao.out.fr (ho.fr.alloc (.cells #[.slice tb1 T.vars.length tb2, .slice tb3 T.rows.length tb4] 25)) (fun k _ => by simp))
  have tbo := Lib.hid (ho.lent.fr ((World.Fr.refl x4 []).alloc (.cells #[.slice tb1 T.vars.length tb2, .slice tb3 T.rows.length tb4] 25)) (fun k _ => by simp))
  have tbs : Hid (w2.heap.size ≤ w3.heap.size) := Lib.hid FF.out.size
  have FF := Lib.hid (FF.out.trans (ho.fr.alloc (.cells #[.slice tb1 T.vars.length tb2, .slice tb3 T.rows.length tb4] 25)) (by simp))
  have hsz := ho.fr.size
  have tbz := Lib.hid hsz
  generalize hL : span w3.heap.size x4.heap.size = Ltb at *
  have hLm : Hid (∀ k, k ∈ Ltb → w3.heap.size ≤ k ∧ k < x4.heap.size) := Lib.hid (by rw [← hL]; exact fun k hk => span_mem.1 hk)
  have Ltbm := hLm
  clear hL hLm hsz ho
  go_upto_region 4 with (fail)
  generalize hW : World.alloc x4 _ = w4 at *
  have hxz : Hid (x4.heap.size ≤ w4.heap.size) := Lib.hid (by rw [← hW]; exact ((World.Fr.refl x4 []).alloc _).size)
  have tbx := hxz
  clear hW hxz
  generalize x4.heap.size = p8 at *
  obtain ⟨m0, m1, mf⟩ := two Q2b.out
  obtain ⟨n0, n1, nf⟩ := two Q5.out
  have hz2 := lt_of_heap Q2b.out
  have hz5 := lt_of_heap Q5.out
  have k := Lib.hid (K5.out w4 FF.out)
  clear K5
  go_wp2_with fail
  (with_reducible refine k.out.mono ?_)
  rintro e x5 ⟨v, rfl, ho⟩
  obtain ⟨tc1, tc2, tc3, tc4, rfl⟩ := ho.shape
  clear k m0 m1 mf n0 n1 nf hz2 hz5
  have Q2b := Lib.hid (heap_alloc_some (ho.fr.heap Q2b.out (by simp)) (.cells #[.slice tc1 T0.vars.length tc2, .slice tc3 T0.rows.length tc4] 25))
  have Q5 := Lib.hid (heap_alloc_some (ho.fr.heap Q5.out (by simp)) (.cells #[.slice tc1 T0.vars.length tc2, .slice tc3 T0.rows.length tc4] 25))
  have taq := Lib.hid (heap_alloc_some (ho.fr.heap taq.out (by simp)) (.cells #[.slice tc1 T0.vars.length tc2, .slice tc3 T0.rows.length tc4] 25))
  have tbq := Lib.hid (heap_alloc_some (ho.fr.heap tbq.out (by simp)) (.cells #[.slice tc1 T0.vars.length tc2, .slice tc3 T0.rows.length tc4] 25))
  have tcq := Lib.hid (heap_alloc_at x5 (.cells #[.slice tc1 T0.vars.length tc2, .slice tc3 T0.rows.length tc4] 25) _ rfl)
  have tao := Lib.hid (tao.out.fr (ho.fr.alloc (.cells #[.slice tc1 T0.vars.length tc2, .slice tc3 T0.rows.length tc4] 25)) (fun k _ => by simp))
  have tbo := Lib.hid (tbo.out.fr (ho.fr.alloc (.cells #[.slice tc1 T0.vars.length tc2, .slice tc3 T0.rows.length tc4] 25)) (fun k _ => by simp))
  have tco := Lib.hid (ho.lent.fr ((World.Fr.refl x5 []).alloc (.cells #[.slice tc1 T0.vars.length tc2, .slice tc3 T0.rows.length tc4] 25)) (fun k _ => by simp))
  have tcs : Hid (w2.heap.size ≤ w4.heap.size) := Lib.hid FF.out.size
  have FF := Lib.hid (FF.out.trans (ho.fr.alloc (.cells #[.slice tc1 T0.vars.length tc2, .slice tc3 T0.rows.length tc4] 25)) (by simp))
  have hsz := ho.fr.size
  have tcz := Lib.hid hsz
  generalize hL : span w4.heap.size x5.heap.size = Ltc at *
  have hLm : Hid (∀ k, k ∈ Ltc → w4.heap.size ≤ k ∧ k < x5.heap.size) := Lib.hid (by rw [← hL]; exact fun k hk => span_mem.1 hk)
  have Ltcm := hLm
  clear hL hLm hsz ho
  go_upto_region 5 with (fail)
  generalize hW : World.alloc x5 _ = w5 at *
  have hxz : Hid (x5.heap.size ≤ w5.heap.size) := Lib.hid (by rw [← hW]; exact ((World.Fr.refl x5 []).alloc _).size)
  have tcx := hxz
  clear hW hxz
  generalize x5.heap.size = p10 at *
  obtain ⟨m0, m1, mf⟩ := two Q2b.out
  obtain ⟨n0, n1, nf⟩ := two Q5.out
  have hz2 := lt_of_heap Q2b.out
  have hz5 := lt_of_heap Q5.out
  have k := Lib.hid (K6.out w5 FF.out)
  clear K6
  go_wp2_with fail
  (with_reducible refine k.out.mono ?_)
  rintro e x6 ⟨v, rfl, ho⟩
  obtain ⟨td1, td2, td3, td4, rfl⟩ := ho.shape
  clear k m0 m1 mf n0 n1 nf hz2 hz5
  have Q2b := Lib.hid (heap_alloc_some (ho.fr.heap Q2b.out (by simp)) (.cells #[.slice td1 T0.vars.length td2, .slice td3 T0.rows.length td4] 25))
  have Q5 := Lib.hid (heap_alloc_some (ho.fr.heap Q5.out (by simp)) (.cells #[.slice td1 T0.vars.length td2, .slice td3 T0.rows.length td4] 25))
  have taq := Lib.hid (heap_alloc_some (ho.fr.heap taq.out (by simp)) (.cells #[.slice td1 T0.vars.length td2, .slice td3 T0.rows.length td4] 25))
  have tbq := Lib.hid (heap_alloc_some (ho.fr.heap tbq.out (by simp)) (.cells #[.slice td1 T0.vars.length td2, .slice td3 T0.rows.length td4] 25))
  have tcq := Lib.hid (heap_alloc_some (ho.fr.heap tcq.out (by simp)) (.cells #[.slice td1 T0.vars.length td2, .slice td3 T0.rows.length td4] 25))
  have tdq := Lib.hid (heap_alloc_at x6 (.cells #[.slice td1 T0.vars.length td2, .slice td3 T0.rows.length td4] 25) _ rfl)
  have tao := Lib.hid (tao.out.fr (ho.fr.alloc (.cells #[.slice td1 T0.vars.length td2, .slice td3 T0.rows.length td4] 25)) (fun k _ => by simp))
  have tbo := Lib.hid (tbo.out.fr (ho.fr.alloc (.cells #[.slice td1 T0.vars.length td2, .slice td3 T0.rows.length td4] 25)) (fun k _ => by simp))
  have tco := Lib.hid (tco.out.fr (ho.fr.alloc (.cells #[.slice td1 T0.vars.length td2, .slice td3 T0.rows.length td4] 25)) (fun k _ => by simp))
  have tdo := Lib.hid (ho.lent.fr ((World.Fr.refl x6 []).alloc (.cells #[.slice td1 T0.vars.length td2, .slice td3 T0.rows.length td4] 25)) (fun k _ => by simp))
  have tds : Hid (w2.heap.size ≤ w5.heap.size) := Lib.hid FF.out.size
  have FF := Lib.hid (FF.out.trans (ho.fr.alloc (.cells #[.slice td1 T0.vars.length td2, .slice td3 T0.rows.length td4] 25)) (by simp))
  have hsz := ho.fr.size
  have tdz := Lib.hid hsz
  generalize hL : span w5.heap.size x6.heap.size = Ltd at *
  have hLm : Hid (∀ k, k ∈ Ltd → w5.heap.size ≤ k ∧ k < x6.heap.size) := Lib.hid (by rw [← hL]; exact fun k hk => span_mem.1 hk)
  have Ltdm := hLm
  clear hL hLm hsz ho
  go_upto_region 6 with (fail)
  generalize hW : World.alloc x6 _ = w6 at *
  have hxz : Hid (x6.heap.size ≤ w6.heap.size) := Lib.hid (by rw [← hW]; exact ((World.Fr.refl x6 []).alloc _).size)
  have tdx := hxz
  clear hW hxz
  generalize x6.heap.size = p12 at *
  obtain ⟨m0, m1, mf⟩ := two taq.out
  obtain ⟨n0, n1, nf⟩ := two tbq.out
  have hza := lt_of_heap taq.out
  have hzb := lt_of_heap tbq.out
  have k := Lib.hid (KI.out Lta w6 _ _ tao.out tbo.out.rd)
  clear KI
  go_wp2_with fail
  (with_reducible refine k.out.mono ?_)
  rintro e y1 ⟨rfl, fy1⟩
  have hcs := Ltam.out
  have htc := Ltcm.out
  have htd := Ltdm.out
  have hs1 := tbs.out; have hs2 := tcs.out; have hs3 := tds.out; have hs4 := tbz.out; have hs5 := tcz.out; have hs6 := taz.out; have hs7 := tdz.out; have hx1 := tax.out; have hx2 := tbx.out; have hx3 := tcx.out; have hx4 := tdx.out; have hs8 := tas.out
  have tcq := Lib.hid (fy1.heap tcq.out (fun hk => by have := hcs _ hk; omega))
  have tdq := Lib.hid (fy1.heap tdq.out (fun hk => by have := hcs _ hk; omega))
  have tco := Lib.hid (tco.out.fr fy1 (fun k hk hk2 => by have := hcs _ hk2; have := htc _ hk; omega))
  have tdo := Lib.hid (tdo.out.fr fy1 (fun k hk hk2 => by have := hcs _ hk2; have := htd _ hk; omega))
  have Q2b := Lib.hid (fy1.heap Q2b.out (fun hk => by have := hcs _ hk; have := Q2z.out; omega))
  have Q5 := Lib.hid (fy1.heap Q5.out (fun hk => by have := hcs _ hk; have := Q5z.out; omega))
  have FF := Lib.hid (FF.out.trans fy1 (fun k hk => .inr (by have := hcs _ hk; omega)))
  clear k m0 m1 mf n0 n1 nf hza hzb fy1 hcs htc htd hs1 hs2 hs3 hs4 hs5 hs6 hs7 hs8 hx1 hx2 hx3 hx4 tao tbo taq tbq
  obtain ⟨m0, m1, mf⟩ := two tcq.out
  obtain ⟨n0, n1, nf⟩ := two tdq.out
  have hza := lt_of_heap tcq.out
  have hzb := lt_of_heap tdq.out
  have k := Lib.hid (KI0.out Ltc y1 _ _ tco.out tdo.out.rd)
  clear KI0
  go_wp2_with fail
  (with_reducible refine k.out.mono ?_)
  rintro e y2 ⟨rfl, fy2⟩
  have htc := Ltcm.out
  have hs2 := tcs.out
  have Q2b := Lib.hid (fy2.heap Q2b.out (fun hk => by have := htc _ hk; have := Q2z.out; omega))
  have Q5 := Lib.hid (fy2.heap Q5.out (fun hk => by have := htc _ hk; have := Q5z.out; omega))
  have FF := Lib.hid (FF.out.trans fy2 (fun k hk => .inr (by have := htc _ hk; omega)))
  clear k m0 m1 mf n0 n1 nf hza hzb fy2 htc hs2
  go_wp2_with fail
  (with_reducible refine (Hlive.out _).mono ?_)
  rintro e y3 ⟨rfl, fy3⟩
  have q2 := fy3.heap Q2b.out (by simp)
  have q5 := fy3.heap Q5.out (by simp)
  obtain ⟨m0, m1, mf⟩ := two q2
  obtain ⟨n0, n1, nf⟩ := two q5
  have hza := lt_of_heap q2
  have hzb := lt_of_heap q5
  have FF := Lib.hid (FF.out.trans fy3 (by simp))
  have k := Lib.hid (K7.out y3 FF.out)
  clear q2 q5 fy3
  go_wp2_with fail
  (with_reducible refine k.out.mono ?_)
  rintro e y4 ⟨rfl, fy4⟩
  go_wp2
  go_ret
  exact ⟨rfl, (F2.out.trans FF.out (by simp)).trans fy4 (by simp)⟩
end Go.Proofs.YtikodapgceokhaaGreat
