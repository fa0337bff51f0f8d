/-
  Package past, plainly: of an Open interval from 0 on Once loses no row, and Since gains none but its right part's.
-/
import Derived.Test.YtbejmdlncnkaaaaGreatP26
namespace Go.Proofs.YtbejmdlncnkaaaaGreat
open Go.RowKit

abbrev ever : Iv := ⟨0, 0, true⟩
theorem in_ever {n : Int} (h : 0 ≤ n) : inB n ever = true := by simp [inB, h]
theorem sinceO_rows {cf : V → V → Int} (hO : OrdOk okW cf) {n : Int} (l : List (Int × Tb)) : ∀ e : Tb, Good cf e → (∀ x, x ∈ l → Good cf x.2 ∧ x.2.vars = e.vars ∧ x.1 ≤ n) → ∀ r, r ∈ (sinceO cf ever n e l).rows ↔ r ∈ e.rows ∨ ∃ x, x ∈ l ∧ r ∈ x.2.rows := by
  induction l with
  | nil => intro e _ _ r; simp [sinceO]
  | cons x t ih =>
    intro e he hx r
    obtain ⟨h1, h2, h3⟩ := hx x (by simp)
    unfold sinceO
    rw [List.foldl_cons, if_pos (in_ever (by omega))]
    obtain ⟨u1, u2, u3, u4⟩ := union_small hO he h1 h2.symm
    have := ih _ u1 (fun y hy => by
      obtain ⟨k1, k2, k3⟩ := hx y (by simp [hy])
      exact ⟨k1, by rw [u2]; exact k2, k3⟩) r
    unfold sinceO at this
    rw [this, u4]
    simp only [List.mem_cons]
    constructor
    · rintro ((h | h) | ⟨y, hy, h⟩)
      · exact .inl h
      · exact .inr ⟨x, .inl rfl, h⟩
      · exact .inr ⟨y, .inr hy, h⟩
    · rintro (h | ⟨y, rfl | hy, h⟩)
      · exact .inl (.inl h)
      · exact .inl (.inr h)
      · exact .inr ⟨y, hy, h⟩
/-- what was told last: the rows of all points kept -/
structure Was (cf : V → V → Int) (X : PX) (t : Tb) : Prop where
  good : Good cf t
  vars : t.vars = X.right
  few : t.rows.length ≤ 1000000
  rows : ∀ r, r ∈ t.rows ↔ ∃ x, x ∈ X.w ∧ r ∈ x.2.rows
section
variable {cf : V → V → Int} (hO : OrdOk okW cf) {X : PX} {n : Int} {ts : List Tb} (h : POkP cf X 600) (hf : X.fn = 65) (hi : X.i = ever) (hm : X.w.length ≤ 1000) (hgd : ∀ t, t ∈ ts → tcheck cf t = 0 → Good cf t ∧ t.rows.length ≤ 600)
include hO h hf hi hm hgd
omit hO hf hi hm in
theorem taken_facts (he : (stepP cf X n ts).1 = 0) : wrongP cf X n ts = 0 ∧ (∀ t, t ∈ ts → Good cf t ∧ t.rows.length ≤ 600) ∧ stepP cf X n ts = (0, tellP cf X n ts, { X with time := n, w := keepP cf X n ts }) ∧ lastT ts ∈ ts ∧ firstT ts ∈ ts ∧ (lastT ts).vars = X.right := by
  have h0 : wrongP cf X n ts = 0 := by
    refine Classical.byContradiction fun hne => ?_
    unfold stepP at he
    rw [if_neg hne] at he
    exact hne he
  obtain ⟨h1, h2, h3, h4, h5, h6, h7⟩ := wrongE_zero (S := X.ps) h.parts h0
  have hpos : 0 < ts.length := by have := h.parts; simp only at h4; omega
  have hl2 : ts.length - 1 < ts.length := by omega
  have e0 : ts[0]? = some (firstT ts) := by simp [firstT, List.getD_eq_getElem?_getD, List.getElem?_eq_getElem hpos]
  have e1 : ts[ts.length - 1]? = some (lastT ts) := by simp [lastT, List.getD_eq_getElem?_getD, List.getElem?_eq_getElem hl2]
  exact ⟨h0, fun t ht => hgd t ht (h5 t ht), by unfold stepP; rw [if_pos h0], List.mem_of_getElem? e1, List.mem_of_getElem? e0, h7⟩
theorem told_was (he : (stepP cf X n ts).1 = 0) : Was cf (stepP cf X n ts).2.2 (stepP cf X n ts).2.1 := by
  obtain ⟨h0, hg, hst, _⟩ := taken_facts h hgd he
  rw [hst]
  obtain ⟨g1, g2, _, g4⟩ := tellP_good hO h (by decide) hm h0 hg
  obtain ⟨h1, h2, h3, _⟩ := wrongE_zero (S := X.ps) h.parts h0
  refine ⟨g1, g2, g4 hf, fun r => ?_⟩
  have hk := keepP_good hO h h0 hg
  have ht := keepP_times (ts := ts) h h1 h3 (cf := cf)
  have hne : ¬ X.fn = 59 := by rw [hf]; decide
  unfold tellP
  rw [if_neg hne, hi, sinceO_rows hO _ ⟨X.right, []⟩ (empty_good h) (fun x hx => ⟨(hk x hx).1, (hk x hx).2.1, (ht x hx).2⟩)]
  simp
/-- Once: what was told is told again -/
theorem once_grows (hp : X.parts = 1) {t : Tb} (hw : Was cf X t) (he : (stepP cf X n ts).1 = 0) : (unionT cf (stepP cf X n ts).2.1 t).2 = (stepP cf X n ts).2.1 := by
  have ha := told_was hO h hf hi hm hgd he
  obtain ⟨h0, hg, hst, _⟩ := taken_facts h hgd he
  have hr : (stepP cf X n ts).2.2.right = X.right := step_fix.2.2.2.1
  have hv : (stepP cf X n ts).2.1.vars = t.vars := by rw [ha.vars, hw.vars, hr]
  obtain ⟨u1, u2, u3, u4⟩ := union_small hO ha.good hw.good hv
  refine good_ext hO u1 ha.good (fun s => by rw [u2]) (fun r => ?_)
  rw [u4]
  constructor
  · rintro (h1 | h1)
    · exact h1
    · rw [ha.rows]
      obtain ⟨x, hx, hxr⟩ := (hw.rows r).1 h1
      refine ⟨x, ?_, hxr⟩
      rw [hst]
      have hne : ¬ X.fn = 59 := by rw [hf]; decide
      show x ∈ keepP cf X n ts
      unfold keepP
      rw [if_neg hne, if_pos hp, List.mem_filter]
      refine ⟨List.mem_append.2 (.inl hx), ?_⟩
      have hpos : 0 < x.2.rows.length := List.length_pos_of_mem hxr
      have hne0 : (x.2.rows.length == 0) = false := by rw [beq_eq_false_iff_ne]; omega
      simp only [goneX, hi, Bool.not_true, Bool.false_and, Bool.false_or, hne0, Bool.not_false]
  · exact .inl
/-- Since: what is told anew is its right part's -/
theorem since_gains {t : Tb} (hp : X.parts = 2) (hw : Was cf X t) (he : (stepP cf X n ts).1 = 0) : Good cf (minusT cf (stepP cf X n ts).2.1 t).2 ∧ (minusT cf (stepP cf X n ts).2.1 t).2.rows.length ≤ 1000000 ∧ (unionT cf (minusT cf (stepP cf X n ts).2.1 t).2 (lastT ts)).2 = lastT ts := by
  have ha := told_was hO h hf hi hm hgd he
  obtain ⟨h0, hg, hst, hl, hfi, hlv⟩ := taken_facts h hgd he
  have hr : (stepP cf X n ts).2.2.right = X.right := step_fix.2.2.2.1
  have hv : (stepP cf X n ts).2.1.vars = t.vars := by rw [ha.vars, hw.vars, hr]
  obtain ⟨m, e1, e2, hm1, hm2, hm3⟩ := minusT_like hO ha.good hw.good hv
  rw [e1]
  have hlg := (hg _ hl).1
  have hv2 : m.vars = (lastT ts).vars := by rw [hm2, ha.vars, hr, hlv]
  obtain ⟨u1, u2, u3, u4⟩ := union_small hO hm1 hlg hv2
  refine ⟨hm1, Nat.le_trans (rows_le m.rows _ (rows_nodup hO hm1) (fun r hr => ((hm3 r).1 hr).1)) ha.few, good_ext hO u1 hlg (fun s => by rw [u2, hv2]) (fun r => ?_)⟩
  rw [u4]
  refine ⟨fun h1 => h1.elim (fun h1 => ?_) id, .inr⟩
  obtain ⟨h2, h3⟩ := (hm3 r).1 h1
  obtain ⟨x, hx, hxr⟩ := (ha.rows r).1 h2
  rw [hst] at hx
  have hne : ¬ X.fn = 59 := by rw [hf]; decide
  change x ∈ keepP cf X n ts at hx
  unfold keepP at hx
  rw [if_neg hne, if_neg (by rw [hp]; decide)] at hx
  rcases List.mem_append.1 (List.mem_filter.1 hx).1 with hx | hx
  · exfalso
    obtain ⟨y, hy, rfl⟩ := List.mem_map.1 hx
    apply h3
    rw [hw.rows]
    refine ⟨y, hy, ?_⟩
    obtain ⟨k1, k2, k3⟩ := h.good y hy
    have hfg := (hg _ hfi).1
    have hmem : r ∈ (holdT cf X.nt y.2 (firstT ts)).rows := hxr
    unfold holdT at hmem
    by_cases hnt : X.nt = true
    · rw [if_pos hnt] at hmem
      obtain ⟨u, e, _, _, hmm⟩ := antiT_good hO k1 hfg
      rw [e] at hmem
      exact ((hmm r).1 hmem).1
    · rw [if_neg hnt] at hmem
      obtain ⟨_, _, _, _, _, h6, _⟩ := wrongE_zero (S := X.ps) h.parts h0
      obtain ⟨_, _, _, h4⟩ := join_small hO k1 hfg (fun s hs => by rw [k2]; refine h.sub s ?_; have h7 : (firstT ts).vars = X.left := h6 hp; rw [← h7]; exact hs)
      exact ((h4 r).1 hmem).1
  · simp at hx
    subst hx
    exact hxr
end
theorem was_begin {cf : V → V → Int} {X : PX} {M : Nat} (h : POkP cf X M) (hw : X.w = []) : Was cf X ⟨X.right, []⟩ := ⟨empty_good h, rfl, by simp, fun r => by rw [hw]; simp⟩
theorem Was.fits {cf : V → V → Int} {X : PX} {t : Tb} (h : Was cf X t) : Fits V.wf t := h.good.fits (by have := h.few; omega)
/-- the tables behind the first one -/
theorem RdTabs.tail {w : World} {g off c n : Nat} {t : Tb} {ts : List Tb} (h : RdTabs w (.slice (some ⟨g, off, none⟩) n c) (t :: ts)) : RdTabs w (.slice (some ⟨g, off + 2, none⟩) (n - 1) (c - 1)) ts := by
  obtain ⟨xs, h1, h2, h3⟩ := h.ex
  match xs, h1 with
  | x :: xs, h1 =>
    have hl : xs.length = ts.length := by simpa using h1
    have hn' : n = ts.length + 1 := by
      obtain ⟨a, c', e, _⟩ := h2.shape
      cases e
      rfl
    subst hn'
    refine ⟨xs, hl, ?_, fun j y t' a b => h3 (j + 1) y t' (by simpa using a) (by simpa using b)⟩
    rcases h2 with ⟨e1, e2⟩
    rcases e2 with ⟨hz, _⟩ | ⟨g', off', c', he, hc, hm, hg, hcell⟩
    · simp at hz
    · simp only [List.length_cons] at he hc
      cases he
      have e3 : (xs.flatMap fun x => [x.1, x.2]).length = ts.length * 2 := by
        have : ((x :: xs).flatMap fun x => [x.1, x.2]).length = (t :: ts).length * 2 := e1
        simp only [List.flatMap_cons, List.length_append, List.length_cons, List.length_nil] at this
        omega
      refine ⟨e3, .inr ⟨g, off + 2, c - 1, by simp, by omega, by omega, hg, fun j hj => ?_⟩⟩
      have := hcell (j + 2) (by simp only [List.length_cons]; omega)
      rw [show off + (j + 2) = off + 2 + j by omega] at this
      rw [this]
      simp only [List.flatMap_cons]
      rw [List.getElem?_append_right (by simp)]
      simp
end Go.Proofs.YtbejmdlncnkaaaaGreat
