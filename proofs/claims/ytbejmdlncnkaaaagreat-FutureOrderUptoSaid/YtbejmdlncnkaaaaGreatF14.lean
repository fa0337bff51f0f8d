/-
  The reference's Same of two lists of tables told that are alike.
-/
import Derived.Test.YtbejmdlncnkaaaaGreatFuB
import Derived.Deep.RegionHeld3
namespace Go.Proofs.YtbejmdlncnkaaaaGreat
open Go.RowKit

theorem flatVd {ks : List Vd} {j : Nat} {k : Vd} (h : ks[j]? = some k) (i : Nat) (hi : i < 4) : (ks.flatMap Vd.cells)[j * 4 + i]? = k.cells[i]? := by
  induction ks generalizing j with
  | nil => simp at h
  | cons a t ih =>
    cases j with
    | zero => simp at h; subst h; simp only [List.flatMap_cons, Nat.zero_mul, Nat.zero_add]; rw [List.getElem?_append_left (by simp [Vd.cells]; omega)]
    | succ j =>
      simp only [List.flatMap_cons]
      rw [List.getElem?_append_right (by simp [Vd.cells]; omega)]
      have := ih (j := j) (by simpa using h)
      rw [show (j + 1) * 4 + i - (Vd.cells a).length = j * 4 + i from by simp [Vd.cells]; omega]
      exact this
theorem VdAt.at {Q : Nat → Prop} {w : World} {v : Value} {ks : List Vd} (h : VdAt Q w v ks) {j : Nat} {k : Vd} (hj : ks[j]? = some k) :
    ∃ g off c, v = .slice (some ⟨g, off, none⟩) ks.length c ∧ ks.length ≤ c ∧ g < w.heap.size ∧ w.cell? ⟨g, off + j * 4, none⟩ = some (.int .i64 k.nr) ∧ w.cell? ⟨g, off + j * 4 + 1, none⟩ = some (.int .i64 k.time) ∧ w.cell? ⟨g, off + j * 4 + 2, none⟩ = some k.a ∧ w.cell? ⟨g, off + j * 4 + 3, none⟩ = some k.b ∧ (∀ i, w.frozen? ⟨g, i, none⟩ = false) ∧ TabIn Q w (.agg #[k.a, k.b]) k.t := by
  have hjl := (List.getElem?_eq_some_iff.1 hj).1
  obtain ⟨g, off, c, he, hle, _, hg, hc, hf⟩ := h.sl.form (by omega)
  have key : ∀ i, i < 4 → w.cell? ⟨g, off + j * 4 + i, none⟩ = k.cells[i]? := fun i hi => by
    have := hc (j * 4 + i) (by omega)
    rw [flatVd hj i hi] at this
    rw [Nat.add_assoc]
    exact this
  exact ⟨g, off, c, he, hle, hg, key 0 (by omega), key 1 (by omega), key 2 (by omega), key 3 (by omega), hf, h.tab k (List.mem_of_getElem? hj)⟩
set_option maxRecDepth 100000 in
set_option maxHeartbeats 4000000 in
theorem same34 {P Q : Nat → Prop} {w : World} {v1 v2 : Value} {ks ls : List Vd} (h1 : VdAt P w v1 ks) (h2 : VdAt Q w v2 ls) (he : ks.map Vd.tt = ls.map Vd.tt) (hs : ∀ k, k ∈ ks → Small k.t) (hm : ks.length ≤ 1000) :
    Calls Tryz.prog 34 #[v1, v2] w fun e w' => e = .returned (.bool true) ∧ w.Fr w' [] := by
  obtain ⟨a1, a2, rfl⟩ := h1.shape
  obtain ⟨b1, b2, rfl⟩ := h2.shape
  have hl : ls.length = ks.length := by have := congrArg List.length he; simpa using this.symm
  rw [hl]
  rw [show Value.slice b1 ls.length b2 = Value.slice b1 ks.length b2 by rw [hl]] at h2
  have H1 := Lib.hid h1; have H2 := Lib.hid h2; have HE := Lib.hid he; have HS := Lib.hid hs; have HL := Lib.hid hl
  have F0 := Lib.hid (World.Fr.refl w [])
  clear h1 h2 he hs hl
  go_enter Tryz.func34, Tryz.ntmps34
  go_wp2
  go_loopw [13] (fun s13 wr => ∃ j : Nat, s13 = .int .i64 j ∧ j ≤ ks.length ∧ Hid (w.Fr wr [])) (fun s13 _ => (ks.length - intOf s13).toNat)
  case atStart => exact ⟨0, rfl, Nat.zero_le _, F0⟩
  case round =>
    obtain ⟨j, rfl, hj, HF⟩ := hrel
    by_cases hlt : j < ks.length
    · obtain ⟨k, hk⟩ : ∃ k, ks[j]? = some k := ⟨ks[j], List.getElem?_eq_getElem hlt⟩
      obtain ⟨l, hl⟩ : ∃ l, ls[j]? = some l := ⟨ls[j]'(by have := HL.out; omega), List.getElem?_eq_getElem _⟩
      have hkl : k.tt = l.tt := by
        have := congrArg (fun x => x[j]?) HE.out
        simpa [hk, hl] using this
      obtain ⟨g1, o1, c1, hv1, hc1, hg1, x0, x1, x2, x3, xf, xt⟩ := (H1.out.still HF.out).at hk
      obtain ⟨g2, o2, c2, hv2, hc2, hg2, y0, y1, y2, y3, yf, yt⟩ := (H2.out.still HF.out).at hl
      cases hv1
      rw [HL.out] at hv2
      cases hv2
      obtain ⟨kn, kt, ka, kb, ktb⟩ := k
      obtain ⟨ln, lt, la, lb, ltb⟩ := l
      simp only [Prod.mk.injEq] at hkl
      obtain ⟨rfl, rfl, rfl⟩ := hkl
      have hsm := HS.out _ (List.mem_of_getElem? hk)
      simp only at x0 x1 x2 x3 y0 y1 y2 y3 xt yt hsm
      obtain ⟨z1, z2, z3, z4, rfl, rfl⟩ := xt.shape
      obtain ⟨u1, u2, u3, u4, rfl, rfl⟩ := yt.shape
      have hjI : (j : Int) < (ks.length : Int) := by omega
      have hnn : (0 : Int) ≤ (j : Int) := by omega
      have hw1 : IntKind.i64.wrap ((j : Int) + 1) = (j : Int) + 1 := IntWalk.i64_in _ (by omega)
      have hc := rsame17 (xt.still ((World.Fr.refl wr []).drew)).rd (yt.still ((World.Fr.refl wr []).drew)).rd hsm
      rw [show sameB ktb ktb = true by simp [sameB, eqB_true]] at hc
      have Hc := Lib.hid hc
      clear hc hk hl xt yt hsm
      go_upto_region 6 with (fail)
      have hfx := (World.Fr.refl wr [])
      have hmk : ∀ W, wr.Fr W [] → (W.cell? ⟨g1, o1 + j * 4, none⟩ = some (.int .i64 kn) ∧ W.cell? ⟨g1, o1 + j * 4 + 1, none⟩ = some (.int .i64 kt) ∧ W.cell? ⟨g1, o1 + j * 4 + 2, none⟩ = some (.slice z1 ktb.vars.length z2) ∧ W.cell? ⟨g1, o1 + j * 4 + 3, none⟩ = some (.slice z3 ktb.rows.length z4) ∧ W.cell? ⟨g2, o2 + j * 4, none⟩ = some (.int .i64 kn) ∧ W.cell? ⟨g2, o2 + j * 4 + 1, none⟩ = some (.int .i64 kt) ∧ W.cell? ⟨g2, o2 + j * 4 + 2, none⟩ = some (.slice u1 ktb.vars.length u2) ∧ W.cell? ⟨g2, o2 + j * 4 + 3, none⟩ = some (.slice u3 ktb.rows.length u4) ∧ wr.Fr W []) := fun W hf => ⟨cellFr hf x0 (by simp), cellFr hf x1 (by simp), cellFr hf x2 (by simp), cellFr hf x3 (by simp), cellFr hf y0 (by simp), cellFr hf y1 (by simp), cellFr hf y2 (by simp), cellFr hf y3 (by simp), hf⟩
      have Hmk := Lib.hid hmk
      clear hmk
      go_region_held3 (fun w' => w'.cell? ⟨g1, o1 + j * 4, none⟩ = some (.int .i64 kn) ∧ w'.cell? ⟨g1, o1 + j * 4 + 1, none⟩ = some (.int .i64 kt) ∧ w'.cell? ⟨g1, o1 + j * 4 + 2, none⟩ = some (.slice z1 ktb.vars.length z2) ∧ w'.cell? ⟨g1, o1 + j * 4 + 3, none⟩ = some (.slice z3 ktb.rows.length z4) ∧ w'.cell? ⟨g2, o2 + j * 4, none⟩ = some (.int .i64 kn) ∧ w'.cell? ⟨g2, o2 + j * 4 + 1, none⟩ = some (.int .i64 kt) ∧ w'.cell? ⟨g2, o2 + j * 4 + 2, none⟩ = some (.slice u1 ktb.vars.length u2) ∧ w'.cell? ⟨g2, o2 + j * 4 + 3, none⟩ = some (.slice u3 ktb.rows.length u4) ∧ wr.Fr w' [])
        (first | exact Hmk.out _ hfx | exact Hmk.out _ hfx.drew)
        (first | (go_at_call 19; (with_reducible refine Hc.out.mono ?_); rintro e w2 ⟨rfl, hf2⟩; have hfx := ((World.Fr.refl wr []).drew).trans hf2 (by simp)))
      have HF2 := Lib.hid (HF.out.trans hfx (by simp))
      clear hfx hf2 Hmk Hc x0 x1 x2 x3 xf y0 y1 y2 y3 yf hg1 hg2
      go_wp2
      go_roundw
      case rel => exact ⟨j + 1, by go_num, by omega, HF2⟩
      case measure => simp [intOf]; omega
    · have hd : ¬ (j : Int) < (ks.length : Int) := by omega
      go_wp2
      go_ret
      exact ⟨rfl, HF.out⟩
end Go.Proofs.YtbejmdlncnkaaaaGreat
