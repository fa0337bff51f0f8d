/-
  The walk of the statement TableMakes (live's contract as a hypothesis; joined later).
-/
import Derived.Test.YtikodapgceokhaaGreatIs
namespace Go.Proofs.YtikodapgceokhaaGreat
open Go.RowKit

theorem ofT_small {cf : V → V → Int} (hO : OrdOk (fun v => V.wf v ∧ vcheck v = 0) cf) {l : List BA} {rs : List Row} (hm : rs.length ≤ 5864062014634) (hok : ∀ r, r ∈ rs → ∀ x, x ∈ r → V.wf x) : Small (ofT cf l rs).2 := by
  unfold ofT
  by_cases h8 : 8 < l.length ∨ ¬ l.Nodup
  · rw [if_pos h8]
    exact ⟨by simp, by simp, fun r hr => by simp at hr⟩
  · rw [if_neg h8]
    have hn : l.Nodup := Classical.not_not.1 (fun h => h8 (.inr h))
    have hl : l.length ≤ 8 := by
      have := fun h => h8 (.inl h)
      omega
    by_cases he : rowsErr l.length rs = 0
    · rw [if_pos he]
      have hall : ∀ r, r ∈ rs → rowCheck l.length r = 0 := fun r hr => by
        obtain ⟨i, hi⟩ := List.getElem?_of_mem hr
        exact Classical.byContradiction fun hne => by
          have key : ∀ (n : Nat) (rs : List Row), rowsErr n rs = 0 → ∀ r, r ∈ rs → rowCheck n r = 0 := by
            intro n rs
            induction rs with
            | nil => intro _ r hr; simp at hr
            | cons a t ih =>
              intro h r hr
              unfold rowsErr at h
              by_cases ha : rowCheck n a = 0
              · rw [if_pos ha] at h
                rcases List.mem_cons.1 hr with rfl | hr
                · exact ha
                · exact ih h r hr
              · rw [if_neg ha] at h; exact absurd h ha
          exact hne (key _ _ he r hr)
      have heq := rmadeT_eq hO (hs := List.replicate rs.length (.slice none 0 0)) hn (by simp) (fun r hr => (rowCheck_zero (hall r hr)).1) (fun r hr y hy => ⟨hok r hr y hy, (rowCheck_zero (hall r hr)).2 y hy⟩)
      rw [← heq]
      unfold rmadeT
      have hs := sortP_sub (cf := cf) _ ((List.replicate rs.length (Value.slice none 0 0)).zip (rs.map fun r => pick l r (risL l))) (Nat.le_refl _)
      refine ⟨by rw [risL_len]; omega, ?_, fun r hr => ?_⟩
      · have := hs.2
        rw [List.length_map]
        rw [List.length_zip, List.length_map, List.length_replicate] at this
        omega
      · obtain ⟨x, hx, rfl⟩ := List.mem_map.1 hr
        have h2 := (List.of_mem_zip (hs.1 x hx)).2
        obtain ⟨r0, _, he2⟩ := List.mem_map.1 h2
        rw [← he2, pick_len, risL_len]; omega
    · rw [if_neg he]
      exact ⟨by simp, by simp, fun r hr => by simp at hr⟩

set_option maxRecDepth 100000 in
set_option maxHeartbeats 4000000 in
theorem makes8 {cf : V → V → Int} (live : ∀ w, Calls Tryz.prog 18 #[] w fun e w' => e = .returned (.bool true) ∧ w.Fr w' []) (hK : Ctx V.wf cf) (hRK : RChkOk V.wf) (hRC : RCmpOk V.wf cf) {w : World} {v1 v2 : Value} {l : List BA} {rs : List Row} {hs : List Value} (h1 : RdStr w v1 l) (h2 : RdRows w v2 rs hs) (st : Fit14 ⟨l, rs⟩) :
    Calls Tryz.prog 8 #[v1, v2] w fun e w' => e = .returned (.bool true) ∧ w.Fr w' [] := by
  have ht : RdTab w (.agg #[v1, v2]) ⟨l, rs⟩ := ⟨_, _, hs, rfl, h1, h2⟩
  have hwf := ht.wf
  obtain ⟨a1, c1, rfl, _, _⟩ := h1.rd.shape
  obtain ⟨a2, c2, rfl, _, _⟩ := h2.rd.shape
  have hlen := h2.len
  rw [hlen] at h2 ht ⊢
  have hc := copied14 ht st.vars st.rows st.row
  have hsm : Small (ofT cf l rs).2 := ofT_small hK.ord st.rows hwf
  have hsm0 : Small (ofT cf l []).2 := ofT_small hK.ord (by simp) (by simp)
  have hsh : Short rs := st.small.row
  have Hc := Lib.hid hc; have Ht := Lib.hid ht; have H1 := Lib.hid h1; have H2 := Lib.hid h2; have St := Lib.hid st; have Hwf := Lib.hid hwf; have HK := Lib.hid hK; have HRK := Lib.hid hRK; have HRC := Lib.hid hRC; have Hlive := Lib.hid live; have Hsm := Lib.hid hsm; have Hsm0 := Lib.hid hsm0; have Hsh := Lib.hid hsh
  clear hc ht h1 h2 st hwf hK hRK hRC live hsm hsm0 hsh hlen
  go_enter Tryz.func8, Tryz.ntmps8
  go_wp2_with fail
  (with_reducible refine Hc.out.mono ?_)
  rintro e w1 ⟨u, rfl, ho⟩
  obtain ⟨b1, d1, b2, d2, rfl⟩ := ho.shape
  simp only at *
  have q5 := heap_alloc_at w1 (.cells #[.slice b1 l.length d1, .slice b2 rs.length d2] 25) _ rfl
  have f2 := ho.fr.alloc (.cells #[.slice b1 l.length d1, .slice b2 rs.length d2] 25)
  have u2 := ho.on ((World.Fr.refl w1 []).alloc (.cells #[.slice b1 l.length d1, .slice b2 rs.length d2] 25))
  go_upto_region 2 with (fail)
  generalize hW : World.alloc w1 _ = w2 at *
  clear hW
  generalize w1.heap.size = p5 at *
  have k2 := of32 HK.out (H1.out.fr f2 (by simp)) (H2.out.still f2) St.out.vars St.out.rows Hsh.out Hwf.out
  have k4 : ∀ w', w2.Fr w' [] → Calls Tryz.prog 33 #[.slice b1 l.length d1, .slice b2 rs.length d2] w' fun e x => ∃ v, e = .returned (.tuple #[v, .int .i64 (ofT cf l rs).1]) ∧ OwnTab w' x v (ofT cf l rs).2 := fun w' hf => by
    obtain ⟨xa, xb, hs', he, hA, hB⟩ := (u2.on hf).rd.ex
    cases he
    exact rof33 HRK.out HRC.out HK.out.ord hA hB St.out.vars St.out.rows Hsh.out Hwf.out
  have k7 : ∀ w', w2.Fr w' [] → Calls Tryz.prog 34 #[.slice b1 l.length d1] w' fun e x => ∃ v, e = .returned (.tuple #[v, .int .i64 (ofT cf l []).1]) ∧ OwnTab w' x v (ofT cf l []).2 := fun w' hf => by
    obtain ⟨xa, xb, hs', he, hA, hB⟩ := (u2.on hf).rd.ex
    cases he
    exact rempty34 HRK.out HRC.out HK.out.ord hA St.out.vars
  have k6 : ∀ w', w2.Fr w' [] → Calls Tryz.prog 31 #[.slice a1 l.length c1] w' fun e x => ∃ v, e = .returned (.tuple #[v, .int .i64 (ofT cf l []).1]) ∧ OwnTab w' x v (ofT cf l []).2 := fun w' hf => empty31 HK.out (H1.out.fr (f2.trans hf (by simp)) (by simp)) St.out.vars
  have k5 : ∀ w', w2.Fr w' [] → Calls Tryz.prog 17 #[.agg #[.slice a1 l.length c1, .slice a2 rs.length c2], .agg #[.slice b1 l.length d1, .slice b2 rs.length d2]] w' fun e x => e = .returned (.bool true) ∧ w'.Fr x [] := fun w' hf => by
    have hc := rsame17 (Ht.out.still (f2.trans hf (by simp))) ((u2.on hf).rd) St.out.small
    rwa [sameB_self] at hc
  have hsm := Hsm.out
  have hsm0 := Hsm0.out
  generalize ofT cf l rs = R at *
  generalize ofT cf l [] = R0 at *
  obtain ⟨E, T⟩ := R
  obtain ⟨E0, T0⟩ := R0
  simp only at k2 k4 k6 k7 hsm hsm0
  have kis : ∀ (wa wb : World) (x y : Value), OwnTab wa wb x T → RdTab wb y T → Calls Tryz.prog 30 #[x, .int .i64 E, y, .int .i64 E] wb fun e w' => e = .returned (.bool true) ∧ wa.Fr w' [] := fun wa wb x y h1 h2 => by
    have hc := is30 (e := E) (f := E) h1 h2 hsm
    rwa [sameB_self, Bool.true_and, beq_self_eq_true] at hc
  have kis0 : ∀ (wa wb : World) (x y : Value), OwnTab wa wb x T0 → RdTab wb y T0 → Calls Tryz.prog 30 #[x, .int .i64 E0, y, .int .i64 E0] wb fun e w' => e = .returned (.bool true) ∧ wa.Fr w' [] := fun wa wb x y h1 h2 => by
    have hc := is30 (e := E0) (f := E0) h1 h2 hsm0
    rwa [sameB_self, Bool.true_and, beq_self_eq_true] at hc
  have K2 := Lib.hid k2; have K4 := Lib.hid k4; have K5 := Lib.hid k5; have K6 := Lib.hid k6; have K7 := Lib.hid k7; have KI := Lib.hid kis; have KI0 := Lib.hid kis0; have Q5 := Lib.hid q5; have F2 := Lib.hid f2
  clear k2 k4 k5 k6 k7 kis kis0 q5 f2 u2 ho hsm hsm0 Hc Ht H1 H2 St Hwf HK HRK HRC Hsm Hsm0 Hsh
  go_wp2_with fail
  (with_reducible refine K2.out.mono ?_)
  rintro e w3 ⟨v3, rfl, o3⟩
  obtain ⟨x1, y1, x2, y2, rfl⟩ := o3.shape
  have q5 := o3.fr.heap Q5.out (by simp)
  have h5 : p5 < w3.heap.size := lt_of_heap q5
  have q6 := heap_alloc_at w3 (.cells #[.slice x1 T.vars.length y1, .slice x2 T.rows.length y2] 25) _ rfl
  have q5 := heap_alloc_some q5 (.cells #[.slice x1 T.vars.length y1, .slice x2 T.rows.length y2] 25)
  have o4 := o3.on ((World.Fr.refl w3 []).alloc (.cells #[.slice x1 T.vars.length y1, .slice x2 T.rows.length y2] 25))
  go_upto_region 3 with (fail)
  generalize hW : World.alloc w3 _ = w4 at *
  clear hW o3
  generalize w3.heap.size = p6 at *
  have k4 := K4.out w4 o4.fr
  obtain ⟨m0, m1, mf⟩ := two q5
  have K4' := Lib.hid k4; have Q5' := Lib.hid q5; have Q6 := Lib.hid q6; have O4 := Lib.hid o4
  clear k4 q5 q6 o4 K2 K4
  go_wp2_with fail
  (with_reducible refine K4'.out.mono ?_)
  rintro e w5 ⟨v5, rfl, o5⟩
  obtain ⟨x3, y3, x4, y4, rfl⟩ := o5.shape
  have q5 := o5.fr.heap Q5'.out (by simp)
  have q6 := o5.fr.heap Q6.out (by simp)
  have h6 : p6 < w5.heap.size := lt_of_heap q6
  have q8 := heap_alloc_at w5 (.cells #[.slice x3 T.vars.length y3, .slice x4 T.rows.length y4] 25) _ rfl
  have q5 := heap_alloc_some q5 (.cells #[.slice x3 T.vars.length y3, .slice x4 T.rows.length y4] 25)
  have q6 := heap_alloc_some q6 (.cells #[.slice x3 T.vars.length y3, .slice x4 T.rows.length y4] 25)
  have o6 := o5.on ((World.Fr.refl w5 []).alloc (.cells #[.slice x3 T.vars.length y3, .slice x4 T.rows.length y4] 25))
  go_upto_region 4 with (fail)
  generalize hW : World.alloc w5 _ = w6 at *
  clear hW o5 m0 m1 mf K4'
  generalize w5.heap.size = p8 at *
  have ki := KI.out w2 w6 _ _ (O4.out.on o6.fr) o6.rd
  obtain ⟨m0, m1, mf⟩ := two q6
  obtain ⟨n0, n1, nf⟩ := two q8
  have Ki := Lib.hid ki
  clear ki q5 q6 q8 o6 O4 Q5' Q6
  go_wp2_with fail
  (with_reducible refine Ki.out.mono ?_)
  rintro e w7 ⟨rfl, f7⟩
  have q5 := f7.heap Q5.out (by simp)
  have k5 := K5.out w7 f7
  clear m0 m1 mf n0 n1 nf Ki Q5 K5 KI
  obtain ⟨m0, m1, mf⟩ := two q5
  have K5' := Lib.hid k5; have Q5 := Lib.hid q5; have F7 := Lib.hid f7
  clear k5 q5 f7
  go_wp2_with fail
  (with_reducible refine K5'.out.mono ?_)
  rintro e w8 ⟨rfl, f8⟩
  have q5 := f8.heap Q5.out (by simp)
  have f8' := F7.out.trans f8 (by simp)
  have k6 := K6.out w8 f8'
  clear m0 m1 mf Q5 K5' K6 F7 f8
  have K6' := Lib.hid k6; have Q5 := Lib.hid q5; have F8 := Lib.hid f8'
  clear k6 q5 f8'
  go_wp2_with fail
  (with_reducible refine K6'.out.mono ?_)
  rintro e w9 ⟨v9, rfl, o9⟩
  obtain ⟨x5, y5, x6, y6, rfl⟩ := o9.shape
  have q5 := o9.fr.heap Q5.out (by simp)
  have h5 : p5 < w9.heap.size := lt_of_heap q5
  have q12 := heap_alloc_at w9 (.cells #[.slice x5 T0.vars.length y5, .slice x6 T0.rows.length y6] 25) _ rfl
  have q5 := heap_alloc_some q5 (.cells #[.slice x5 T0.vars.length y5, .slice x6 T0.rows.length y6] 25)
  have o10 := o9.on ((World.Fr.refl w9 []).alloc (.cells #[.slice x5 T0.vars.length y5, .slice x6 T0.rows.length y6] 25))
  go_upto_region 7 with (fail)
  generalize hW : World.alloc w9 _ = w10 at *
  clear hW o9 Q5 K6'
  generalize w9.heap.size = p12 at *
  have k7 := K7.out w10 (F8.out.trans o10.fr (by simp))
  obtain ⟨m0, m1, mf⟩ := two q5
  have K7' := Lib.hid k7; have Q12 := Lib.hid q12; have O10 := Lib.hid o10
  clear k7 q5 q12 o10 K7
  go_wp2_with fail
  (with_reducible refine K7'.out.mono ?_)
  rintro e w11 ⟨v11, rfl, o11⟩
  obtain ⟨x7, y7, x8, y8, rfl⟩ := o11.shape
  have q12 := o11.fr.heap Q12.out (by simp)
  have h12 : p12 < w11.heap.size := lt_of_heap q12
  have q14 := heap_alloc_at w11 (.cells #[.slice x7 T0.vars.length y7, .slice x8 T0.rows.length y8] 25) _ rfl
  have q12 := heap_alloc_some q12 (.cells #[.slice x7 T0.vars.length y7, .slice x8 T0.rows.length y8] 25)
  have o12 := o11.on ((World.Fr.refl w11 []).alloc (.cells #[.slice x7 T0.vars.length y7, .slice x8 T0.rows.length y8] 25))
  go_upto_region 8 with (fail)
  generalize hW : World.alloc w11 _ = w12 at *
  clear hW o11 m0 m1 mf K7'
  generalize w11.heap.size = p14 at *
  have Q12' := Lib.hid q12; have Q14 := Lib.hid q14; have O12 := Lib.hid o12
  clear q12 q14 o12 Q12
  go_wp2_with fail
  (with_reducible refine (Hlive.out _).mono ?_)
  rintro e w13 ⟨rfl, f13⟩
  have q12 := f13.heap Q12'.out (by simp)
  have q14 := f13.heap Q14.out (by simp)
  have ki := KI0.out w8 w13 _ _ ((O10.out.on O12.out.fr).on f13) (O12.out.on f13).rd
  obtain ⟨m0, m1, mf⟩ := two q12
  obtain ⟨n0, n1, nf⟩ := two q14
  have Ki := Lib.hid ki
  clear ki q12 q14 f13 O10 O12 Q12' Q14 Hlive KI0
  go_wp2_with fail
  (with_reducible refine Ki.out.mono ?_)
  rintro e w14 ⟨rfl, f14⟩
  go_wp2
  go_ret
  exact ⟨rfl, (F2.out.trans F8.out (by simp)).trans f14 (by simp)⟩
end Go.Proofs.YtikodapgceokhaaGreat
