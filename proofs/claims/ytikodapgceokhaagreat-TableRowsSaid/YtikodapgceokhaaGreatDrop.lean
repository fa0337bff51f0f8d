/-
  The walk of table.Drop.
-/
import Derived.Test.YtikodapgceokhaaGreatCol
namespace Go.Proofs.YtikodapgceokhaaGreat
open Go.RowKit

/-- the names that stay -/
noncomputable def leftL (a b : List BA) : List BA := a.filter fun x => !hasS b x
theorem leftL_mem {a b : List BA} {x : BA} : x ∈ leftL a b ↔ x ∈ a ∧ x ∉ b := by unfold leftL hasS; simp
/-- what Drop answers -/
noncomputable def dropT (cf : V → V → Int) (t : Tb) (want : List BA) : Int × Tb :=
  if tcheck cf t ≠ 0 then (tcheck cf t, tNone) else (0, madeT cf (leftL t.vars want) (t.rows.map fun r => pick t.vars r (leftL t.vars want)))

set_option maxRecDepth 100000 in
set_option maxHeartbeats 4000000 in
theorem drop37 {okc : V → Prop} {cf : V → V → Int} (hK : Ctx okc cf) {w : World} {v1 v2 : Value} {t : Tb} {want : List BA} (h1 : RdTab w v1 t) (h2 : RdStr w v2 want) (ht : Fits okc t) (hl : want.length ≤ 8796093021952) :
    Calls Tryz.prog 37 #[v1, v2] w fun e w' => ∃ v, e = .returned (.tuple #[v, .int .i64 (dropT cf t want).1]) ∧ OwnTab w w' v (dropT cf t want).2 := by
  have hchk := fun w' (hf : w.Fr w' []) => check15' hK.known (h1.still hf) ht.ok ht.small
  have hcol := fun w' (hf : w.Fr w' []) v' (hs : RdStr w' v' (leftL t.vars want)) => columns83 (want := leftL t.vars want) hK (h1.still hf) hs
  obtain ⟨x1, y1, hs1, rfl, hv1, hr1⟩ := h1.ex
  obtain ⟨a1, c1, rfl, _, _⟩ := hv1.rd.shape
  obtain ⟨a2, c2, rfl, _, _⟩ := h2.rd.shape
  obtain ⟨a3, c3, rfl, _, _⟩ := hr1.rd.shape
  have hlen := hr1.len
  generalize hR : dropT cf t want = R
  rw [hlen] at hr1 hchk hcol ⊢
  clear hlen h1
  have Hv1 := Lib.hid hv1; have H2 := Lib.hid h2; have Hr1 := Lib.hid hr1; have Hl := Lib.hid hl; have Ht := Lib.hid ht; have Hchk := Lib.hid hchk; have Hcol := Lib.hid hcol; have HR := Lib.hid hR; clear h2 hv1 hr1 hl ht hK hchk hcol hR
  go_enter Tryz.func37, Tryz.ntmps37
  go_upto_region 1 with (fail)
  generalize hW : World.alloc (World.alloc (World.alloc w _) _) _ = W
  have q1 : W.heap[w.heap.size]? = some (.cells #[.slice a1 t.vars.length c1, .slice a3 t.rows.length c3] 25 (0, 0)) := by rw [← hW]; exact heap_alloc_some (heap_alloc_some (heap_alloc_at _ _ _ rfl) _) _
  have q2 : W.heap[w.heap.size + 1]? = some (.cells #[.slice a2 want.length c2] 22 (0, 0)) := by rw [← hW]; exact heap_alloc_some (heap_alloc_at _ _ _ (by simp)) _
  have q4 : W.heap[w.heap.size + 1 + 1]? = some (.cells #[.slice none 0 0, .slice none 0 0] 25 (0, 0)) := by rw [← hW]; exact heap_alloc_at _ _ _ (by simp)
  have q3 : w.Fr W [] := by rw [← hW]; exact (((World.Fr.refl w []).alloc _).alloc _).alloc _
  clear hW
  generalize hb1 : w.heap.size = b1 at *
  have Hb1 := Lib.hid hb1; clear hb1
  obtain ⟨p0, p1, pf⟩ := two q1
  have Q1 := Lib.hid q1; have Q2 := Lib.hid q2; have Q3 := Lib.hid q3; have Q4 := Lib.hid q4; clear q1 q2 q3 q4
  go_wp2_with fail
  refine (Hchk.out _ Q3.out).mono ?_
  rintro e w1 ⟨rfl, hf1⟩
  have q1 := hf1.heap Q1.out (by simp)
  have q2 := hf1.heap Q2.out (by simp)
  have q4 := hf1.heap Q4.out (by simp)
  have q3 := Q3.out.trans hf1 (by simp)
  clear p0 p1 pf Q1 Q2 Q3 Q4 hf1
  obtain ⟨p0, p1, pf⟩ := two q1
  obtain ⟨r0, r1, rf⟩ := two q4
  have hlb := lt_of_heap q1
  have hlb2 := lt_of_heap q4
  have Q1 := Lib.hid q1; have Q2 := Lib.hid q2; have Q3 := Lib.hid q3; have Q4 := Lib.hid q4; clear q1 q2 q3 q4
  by_cases h0 : tcheck cf t = 0
  · rw [h0]
    have hres : R = (0, madeT cf (leftL t.vars want) (t.rows.map fun r => pick t.vars r (leftL t.vars want))) := by rw [← HR.out]; unfold dropT; rw [if_neg (by simp [h0])]
    subst hres
    obtain ⟨k1, k2, k3, k4⟩ := tcheck_zero h0
    -- the calls of the last region, over whatever world they are met in
    have hclone : Calls Tryz.prog 65 #[.slice a1 t.vars.length c1] w1.drew fun e w' => ∃ a4 c4, e = .returned (.slice a4 t.vars.length c4) ∧ Own w1.drew w' 9 (.slice a4 t.vars.length c4) (t.vars.map Value.string) :=
      (clone65 (Hv1.out.fr Q3.out.drew (by simp)) (by omega)).mono fun e w' ⟨v, he, ho⟩ => by
        obtain ⟨a4, c4, rfl⟩ := ho.shape
        rw [List.length_map] at ho he
        exact ⟨a4, c4, he, ho⟩
    have hdel : ∀ w2 a4 c4, Own w1.drew w2 9 (.slice a4 t.vars.length c4) (t.vars.map Value.string) → Calls Tryz.prog 64 #[.slice a4 t.vars.length c4, .func (.func 85) #[] #[.pointer (some ⟨b1 + 1, 0, none⟩)]] w2 fun e w' => ∃ a5 n5 c5, e = .returned (.slice a5 n5 c5) ∧ Own w1.drew w' 9 (.slice a5 n5 c5) ((leftL t.vars want).map Value.string) := fun w2 a4 c4 ho => by
      have hnew : ∀ k, k ∈ (Value.slice a4 t.vars.length c4).blk → w1.heap.size ≤ k := fun k hk => ho.new k hk
      have hfw := Q3.out.drew.trans ho.fr (by simp)
      have htl := tells85 (M := (Value.slice a4 t.vars.length c4).blk) (b1 + 1) (H2.out.fr hfw (by simp)) Hl.out (ho.fr.heap (w := w1.drew) Q2.out (by simp)) (fun hk => by have := hnew _ hk; have := lt_of_heap Q2.out; omega) (fun k hk hk2 => by have := hnew _ hk2; have := H2.out.rd.lt k hk; have := Q3.out.size; omega)
      refine (del64 (l := t.vars) (by have := ho.sl; rw [List.length_map] at this; exact this) (by omega) htl).mono fun e w' ⟨v, he, hs, hbk, hf⟩ => ?_
      obtain ⟨a5, c5, rfl, _, _⟩ := hs.shape
      exact ⟨a5, _, c5, he, ⟨by rw [List.length_map]; exact hs, fun k hk => ho.new k (hbk k hk), ho.fr.trans hf (fun k hk => .inr (ho.new k hk))⟩⟩
    have hln : (leftL t.vars want).Nodup := (nodup_of_pair k2).sublist List.filter_sublist
    have hlw : (leftL t.vars want).length ≤ 8 := Nat.le_trans (List.length_filter_le _ _) k1
    have hlast : ∀ w3 a5 n5 c5, Own w1.drew w3 9 (.slice a5 n5 c5) ((leftL t.vars want).map Value.string) → Calls Tryz.prog 83 #[.agg #[.slice a1 t.vars.length c1, .slice a3 t.rows.length c3], .slice a5 n5 c5] w3 fun e w' => ∃ x1 m1 y1 x2 m2 y2, e = .returned (.agg #[.slice x1 m1 y1, .slice x2 m2 y2]) ∧ OwnTab w w' (.agg #[.slice x1 m1 y1, .slice x2 m2 y2]) (madeT cf (leftL t.vars want) (t.rows.map fun r => pick t.vars r (leftL t.vars want))) ∧ w'.heap[b1 + 1 + 1]? = some (.cells #[.slice none 0 0, .slice none 0 0] 25 (0, 0)) := fun w3 a5 n5 c5 ho => by
      have hfw := Q3.out.drew.trans ho.fr (by simp)
      refine (Hcol.out _ hfw _ (ho.rd (fun s hs => Hv1.out.wf s (leftL_mem.1 hs).1)) k1 hlw Ht.out.rows (fun r hr => (k3 r hr).1) (fun r hr x hx => ⟨Ht.out.ok r hr x hx, (k3 r hr).2 x hx⟩) hln (fun x hx => (leftL_mem.1 hx).1)).mono fun e w' ⟨v, he, hot⟩ => ?_
      obtain ⟨x1, y1, x2, y2, rfl⟩ := hot.shape
      exact ⟨x1, _, y1, x2, _, y2, he, hot.since hfw, hot.fr.heap (ho.fr.heap (w := w1.drew) Q4.out (by simp)) (by simp)⟩
    have Hclone := Lib.hid hclone; have Hdel := Lib.hid hdel; have Hlast := Lib.hid hlast
    clear hclone hdel hlast k1 k2 k3 k4 h0 HR hln hlw r0 r1 rf hlb2
    go_upto_region 4 with (fail)
    go_region_with (first | (go_at_call 65; refine Hclone.out.mono ?_; rintro e w2 ⟨a4, c4, rfl, ho⟩; obtain ⟨d0, d1, df⟩ := two (ho.fr.heap (w := w1.drew) Q1.out (by simp)); have Ho := Lib.hid ho; clear ho) | (go_at_call 64; refine (Hdel.out _ _ _ Ho.out).mono ?_; rintro e w3 ⟨a5, n5, c5, rfl, ho⟩; obtain ⟨e0, e1, ef⟩ := two (ho.fr.heap (w := w1.drew) Q1.out (by simp)); have Ho2 := Lib.hid ho; clear ho) | (go_at_call 83; refine (Hlast.out _ _ _ _ Ho2.out).mono ?_; rintro e w4 ⟨x1, m1, y1, x2, m2, y2, rfl, ho, hbx⟩; obtain ⟨g0, g1, gf⟩ := two hbx; have hbW := lt_of_heap hbx; have Ho3 := Lib.hid ho; have Hbx := Lib.hid hbx; clear ho hbx))
    all_goals
      have ho2 := Ho3.out.put Hbx.out (by have := Hb1.out; omega)
      obtain ⟨f0, f1, _⟩ := two ho2.2
      have Hfin := Lib.hid ho2.1
      clear ho2 g0 g1 gf d0 d1 df e0 e1 ef p0 p1 pf Hclone Hdel Hlast
      go_wp2
      refine bodyPost_ret (v := .tuple #[.agg #[.slice x1 m1 y1, .slice x2 m2 y2], .int .i64 0]) (by simp [results, Tryz.results37, go_sem, f0, f1]) rfl ⟨_, rfl, Hfin.out⟩
  · have hres : R = (tcheck cf t, tNone) := by rw [← HR.out]; unfold dropT; rw [if_pos h0]
    have h0b : (tcheck cf t == 0) = false := beq_eq_false_iff_ne.2 h0
    have h0c : (tcheck cf t != 0) = true := by simp [h0]
    clear h0 HR
    generalize tcheck cf t = z at *
    subst hres
    go_wp2
    have hfin := (OwnTab.empty (w := w) Q3.out).put Q4.out (by have := Hb1.out; omega)
    obtain ⟨f0, f1, _⟩ := two hfin.2
    have Hfin := Lib.hid hfin.1
    clear hfin p0 p1 pf
    refine bodyPost_ret (v := .tuple #[.agg #[.slice none 0 0, .slice none 0 0], .int .i64 z]) (by simp [results, Tryz.results37, go_sem, f0, f1]) rfl ⟨_, rfl, Hfin.out⟩
end Go.Proofs.YtikodapgceokhaaGreat
