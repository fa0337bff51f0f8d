/-
  The walks of the window of things, more: All.
-/
import Derived.Test.YtikodccbecmjiaaWalkT2
namespace Go.Proofs.Ytikodccbecmjiaa
open Go.RowKit Go.Win

theorem pairT_len (l : List (T × T)) : (l.flatMap thK.pair).length = 4 * l.length := by
  induction l with
  | nil => rfl
  | cons q r ih => simp [Kind.pair, ih]; omega
theorem pairT_get (a0 : List (T × T)) (q : T × T) (j : Nat) : ((a0 ++ [q]).flatMap thK.pair)[4 * a0.length + j]? = (thK.pair q)[j]? := by
  rw [List.flatMap_append, List.getElem?_append_right (by rw [pairT_len]; omega), pairT_len]
  simp

section
variable {F : FuncId} {cap : Array Value} {f : T → T → T} {J : Nat → World → Prop} {Lo : List Nat} {ok : T → Prop}

set_option maxHeartbeats 1000000 in
theorem all10 (hF : OpOk F cap f J Lo ok) {w : World} {p : Nat} {L : List Nat} {s : WSt T} (h : THas F cap J Lo w p s L) (hl : s.len < 1000000) (hc : s.calls < 8000000000000000000)
    (hx : ∀ q, s.ahead.getLast? = some q → ok q.2) (hs : s.behind ≠ [] → ok s.sum) :
    Calls Try.prog 10 #[.pointer (some ⟨p,0,none⟩)] w (TPost F cap J Lo p w L s.asked (tv (s.all f))) := by
  obtain ⟨⟨va, vb, h, rfl⟩, hJ, hoff⟩ := h
  obtain ⟨hp, ha, hb, hpa, hpb, hab⟩ := h
  have hpl := lt_of_heap hp
  have hpl1 : p < w.heap.size + 1 := by omega
  obtain ⟨aa, ca, rfl, _, _⟩ := ha.shape
  obtain ⟨ab, cb, rfl, _, _⟩ := hb.shape
  obtain ⟨h0, h1, h2, h3, h4, h5, h6, h7, hf⟩ := eight hp
  have hlA : s.ahead.length < 1000000 := by unfold WSt.len at hl; omega
  have hsame : ∀ r w', w.Fr w' [] → TPost F cap J Lo p w (foot p (.slice aa s.ahead.length ca) (.slice ab s.behind.length cb)) s r (.returned r) w' := fun r w' hw =>
    TPost.mk hF (hw.heap hp (by simp)) (ha.fr hw (by simp)) (hb.fr hw (by simp)) (hF.stay _ _ _ _ hJ hw (by simp)) hJ hoff (hw.mono (by simp)) (fun k hk => .inl hk) (fun k hk => .inl hk) hpa hpb hpl hab
  have Hsame := Lib.hid hsame; clear hsame
  have Hp := Lib.hid hp; have Ha := Lib.hid ha; have Hb := Lib.hid hb; have HJ := Lib.hid hJ; have Hoff := Lib.hid hoff; have Hc := Lib.hid hc; clear hp ha hb hJ hoff hc hl
  rcases List.eq_nil_or_concat s.ahead with hA | ⟨a0, q, hA⟩
  · have hall : s.all f = if s.behind = [] then s.nothing else s.sum := by unfold WSt.all; rw [hA]; cases s.behind <;> simp
    have hask : s.asked = s := by unfold WSt.asked; rw [hA]
    have hl2 : s.ahead.length = 0 := by rw [hA]; rfl
    have hAl : ((s.ahead.length : Int) == 0) = true := by rw [hl2]; rfl
    have Hall := Lib.hid hall; have Hask := Lib.hid hask; have HA := Lib.hid hA; clear hall hask hA hl2 hx
    by_cases hB : s.behind = []
    · have hBl : ((s.behind.length : Int) == 0) = true := by rw [hB]; rfl
      have HB := Lib.hid hB; clear hB
      go_enter Try.func10, Try.ntmps10
      go_wp2
      rw [Hask.out, Hall.out, if_pos HB.out]
      refine bodyPost_ret (v := tv s.nothing) (by simp [results, Try.results10, go_sem]) rfl (Hsame.out _ _ ?_)
      exact (World.Fr.refl w []).alloc _
    · have hBl : ((s.behind.length : Int) == 0) = false := beq_eq_false_iff_ne.2 (by cases h : s.behind with | nil => exact absurd h hB | cons a b => simp; omega)
      have HB := Lib.hid hB; clear hB
      go_enter Try.func10, Try.ntmps10
      go_wp2
      rw [Hask.out, Hall.out, if_neg HB.out]
      refine bodyPost_ret (v := tv s.sum) (by simp [results, Try.results10, go_sem]) rfl (Hsame.out _ _ ?_)
      exact (World.Fr.refl w []).alloc _
  · rw [List.concat_eq_append] at hA
    have hlast : s.ahead.getLast? = some q := by rw [hA]; simp
    have hAn : s.ahead.length = a0.length + 1 := by rw [hA]; simp
    have hn : a0.length < 1000000 := by omega
    have hAl : ((a0.length : Int) + 1 == 0) = false := beq_eq_false_iff_ne.2 (by omega)
    have hokq := hx q hlast
    have ha := Ha.out
    obtain ⟨g, off, cap', he, hcap, hmax, hgl, hcells, hfree⟩ := ha.form (by omega)
    cases he
    have hq1 := hcells (4 * a0.length + 2) (by rw [hAn]; simp; omega)
    have hq2 := hcells (4 * a0.length + 3) (by rw [hAn]; simp; omega)
    have hgl1 : g < w.heap.size + 1 := by omega
    rw [hA, pairT_get, show off + (4 * a0.length + 2) = off + a0.length * 4 + 2 from by omega] at hq1
    rw [hA, pairT_get, show off + (4 * a0.length + 3) = off + a0.length * 4 + 2 + 1 from by omega] at hq2
    simp only [Kind.pair, List.cons_append, List.nil_append, List.getElem?_cons_succ, List.getElem?_cons_zero] at hq1 hq2
    rw [hAn] at h3 Hsame
    have Hpp := Hp.out
    have Hpab := Lib.hid hpa
    have Habb := Lib.hid hab
    have Hfoot := Hoff.out
    rw [hAn] at Hpp Hpab Habb Hfoot
    clear hpa hab hcells hfree ha
    have hall : s.all f = if s.behind = [] then q.2 else f q.2 s.sum := by unfold WSt.all; rw [hlast]; cases s.behind <;> simp
    have hask : s.asked = if s.behind = [] then s else { s with calls := s.calls + 1 } := by unfold WSt.asked; rw [hA]; cases s.behind <;> cases a0 <;> simp
    have Hall := Lib.hid hall; have Hask := Lib.hid hask; clear hall hask
    have HA := Lib.hid hA; have HAn := Lib.hid hAn; have Hlast := Lib.hid hlast; have Hokq := Lib.hid hokq; have HHp := Lib.hid Hpp; have HHf := Lib.hid Hfoot; clear hA hAn hlast hokq Hpp Hfoot hx
    generalize a0.length = n at *
    have hs1 : IntKind.i64.wrap ((n : Int) + 1 - 1) = n := by rw [IntWalk.i64_in _ (by omega)]; omega
    have hs2 : IntKind.i64.wrap (n : Int) = n := IntWalk.i64_in _ (by omega)
    have hs3 : (n : Int) < n + 1 := by omega
    by_cases hB : s.behind = []
    · have hBl : ((s.behind.length : Int) == 0) = true := by rw [hB]; rfl
      have HB := Lib.hid hB; clear hB
      go_enter Try.func10, Try.ntmps10
      go_wp2
      rw [Hask.out, Hall.out, if_pos HB.out, if_pos HB.out]
      refine bodyPost_ret (v := tv q.2) (by simp [results, Try.results10, go_sem]) rfl (Hsame.out _ _ ?_)
      exact (World.Fr.refl w []).alloc _
    · have hBl : ((s.behind.length : Int) == 0) = false := beq_eq_false_iff_ne.2 (by cases h : s.behind with | nil => exact absurd h hB | cons a b => simp; omega)
      have hsum := hs hB
      have HB := Lib.hid hB; have Hsum := Lib.hid hsum; clear hB hsum hs
      have hlo := hF.lo _ _ HJ.out
      have Hlo := Lib.hid hlo; clear hlo
      go_enter Try.func10, Try.ntmps10
      go_wp2
      generalize hW : World.alloc w _ = W
      have q1 : W.heap[p]? = some (.cells (wcells F cap s.nothing (.slice (some ⟨g, off, none⟩) (n + 1) ca) (.slice ab s.behind.length cb) s.sum s.calls) 60 (0, 0)) := by
        rw [← hW]; exact heap_alloc_some HHp.out _
      have q2 : W.heap[w.heap.size]? = some (.cells #[.int .u64 0, .int .u64 0] 26 (0, 0)) := by
        rw [← hW]; exact heap_alloc_at _ _ _ rfl
      have q3 : w.Fr W [] := by rw [← hW]; exact (World.Fr.refl w []).alloc _
      have q4 : W.cell? ⟨g, off + n * 4 + 2, none⟩ = some (.int .u64 q.2.1) := (World.cell?_of_block (a := ⟨g, off + n * 4 + 2, none⟩) (q3.block g hgl (by simp))).trans hq1
      have q5 : W.cell? ⟨g, off + n * 4 + 2 + 1, none⟩ = some (.int .u64 q.2.2) := (World.cell?_of_block (a := ⟨g, off + n * 4 + 2 + 1, none⟩) (q3.block g hgl (by simp))).trans hq2
      clear hW h0 h1 h2 h3 h4 h5 h6 h7 hf hq1 hq2
      have hJ1 := hF.stay _ _ _ [] HJ.out q3.drew (by simp)
      have hdoes := does29 hF p (HHf.out p (by simp [foot])) s.nothing s.sum _ (.slice ab s.behind.length cb) s.calls q.2 s.sum W.drew q1 Hc.out hJ1 Hokq.out Hsum.out
      obtain ⟨a0, a1, a2, a3, a4, a5, a6, a7, af⟩ := eight q1
      obtain ⟨b0, b1, bf⟩ := two q2
      have Q1 := Lib.hid q1; have Q2 := Lib.hid q2; have Q3 := Lib.hid q3; have Hd := Lib.hid hdoes; clear q1 q2 q3 hdoes hJ1
      go_still_tail 14, (by kernel_rfl)
      change wpList _ _ _ _ _ W.drew
      go_wp2_with fail
      refine Hd.out.mono ?_
      rintro e w2 ⟨rfl, hf2, hp2, hJ2⟩
      have hx2 := hf2.heap Q2.out (by simp; exact ⟨by omega, fun hk => by have := Hlo.out _ hk; omega⟩)
      obtain ⟨l0, l1, lf⟩ := two hx2
      have hst : w2.Fr ((w2.setCell ⟨w.heap.size, 0, none⟩ (.int .u64 (f q.2 s.sum).1)).setCell ⟨w.heap.size, 1, none⟩ (.int .u64 (f q.2 s.sum).2)) [w.heap.size] := ((World.Fr.refl w2 [w.heap.size]).setCell (by simp) _).setCell (by simp) _
      have hW3 := hst.heap hp2 (by simp; omega)
      have hJ3 := hF.stay _ _ _ _ hJ2 hst (fun k hk => by have := Hlo.out _ hk; simp; omega)
      have hdis : ∀ k, (k ∈ (Value.slice (some ⟨g, off, none⟩) (n + 1) ca).blk ∨ k ∈ (Value.slice ab s.behind.length cb).blk) → k ∉ Lo := fun k hk => HHf.out k (by simp [foot]; exact .inr hk)
      have hfin := TPost.mk (s' := { s with calls := s.calls + 1 }) (r := tv (f q.2 s.sum)) hF hW3
        (((Ha.out.fr Q3.out.drew (by simp)).fr hf2 (fun k hk => by simp; exact ⟨fun e => Hpab.out (by rw [HAn.out] at hk; exact e ▸ hk), hdis k (.inl (by rw [HAn.out] at hk; exact hk))⟩)).fr hst (fun k hk => by have := Ha.out.lt k hk; simp; omega) |> fun h => by rw [HAn.out] at h; rw [HAn.out]; exact h)
        (((Hb.out.fr Q3.out.drew (by simp)).fr hf2 (fun k hk => by simp; exact ⟨fun e => hpb (e ▸ hk), hdis k (.inr hk)⟩)).fr hst (fun k hk => by have := Hb.out.lt k hk; simp; omega))
        hJ3 HJ.out HHf.out (((Q3.out.drew.mono (L' := foot p (.slice (some ⟨g, off, none⟩) (n + 1) ca) (.slice ab s.behind.length cb) ++ Lo) (by simp)).trans hf2 (by intro j hj; simp at hj; simp [foot]; rcases hj with h | h <;> simp [h])).trans hst (by intro j hj; simp at hj; subst hj; exact .inr (Nat.le_refl _)))
        (fun k hk => .inl hk) (fun k hk => .inl hk) Hpab.out hpb hpl Habb.out
      have Hfin := Lib.hid hfin
      clear hfin hW3 hJ3 hst hx2 hp2 hf2 hJ2
      go_wp2
      rw [Hask.out, Hall.out, if_neg HB.out, if_neg HB.out]
      exact bodyPost_ret (v := tv (f q.2 s.sum)) (by simp [results, Try.results10, go_sem, l0, l1]) rfl Hfin.out
end
end Go.Proofs.Ytikodccbecmjiaa
