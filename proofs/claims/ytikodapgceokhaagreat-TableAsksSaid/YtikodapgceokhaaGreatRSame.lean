/-
  The walks of the reference's Same and Has.
-/
import Derived.Test.YtikodapgceokhaaGreatSame
import Derived.Test.YtikodapgceokhaaGreatOf
namespace Go.Proofs.YtikodapgceokhaaGreat
open Go.RowKit

set_option maxRecDepth 100000 in
set_option maxHeartbeats 1000000 in
theorem rsame87 (x y : V) (w : World) : Calls Tryz.prog 87 #[vv x, vv y] w fun e w' => e = .returned (.bool (eqB x y)) ∧ w.Gr w' := by
  have q3 : w.Gr ((w.alloc (.cells #[.int .i64 x.k, .int .i64 x.n, .int .i64 x.d, .string x.s] 60)).alloc (.cells #[.int .i64 y.k, .int .i64 y.n, .int .i64 y.d, .string y.s] 60)) := ((World.Gr.refl w).alloc _).alloc _
  have Q3 := Lib.hid q3; clear q3
  by_cases hxy : x = y
  · subst hxy
    have hbs : (x.s.toList == x.s.toList) = true := beq_self_eq_true _
    have hres : eqB x x = true := eqB_true rfl
    have Hres := Lib.hid hres; clear hres
    generalize eqB x x = R at *
    go_enter Tryz.func87, Tryz.ntmps87
    go_wp2
    go_ret
    exact ⟨by rw [Hres.out]; rfl, Q3.out⟩
  · have hres : eqB x y = false := eqB_false hxy
    have Hres := Lib.hid hres; clear hres
    generalize eqB x y = R at *
    obtain ⟨x1, x2, x3, x4⟩ := x
    obtain ⟨y1, y2, y3, y4⟩ := y
    have hdiff := V.differ hxy
    simp only at hdiff
    clear hxy
    rcases hdiff with hb | ⟨rfl, hb⟩ | ⟨rfl, rfl, hb⟩ | ⟨rfl, rfl, rfl, hb⟩
    all_goals
      go_enter Tryz.func87, Tryz.ntmps87
      go_wp2
      go_ret
      exact ⟨by rw [Hres.out]; rfl, Q3.out⟩

set_option maxRecDepth 100000 in
set_option maxHeartbeats 1000000 in
theorem rsameVars52 {w : World} {v1 v2 : Value} {r s : List BA} (h1 : RdStr w v1 r) (h2 : RdStr w v2 s) (hl : r.length ≤ 8000000000000000000) :
    Calls Tryz.prog 52 #[v1, v2] w fun e w' => e = .returned (.bool (eqB r s)) ∧ w.Fr w' [] := by
  obtain ⟨a1, c1, rfl, _, _⟩ := h1.rd.shape
  obtain ⟨a2, c2, rfl, _, _⟩ := h2.rd.shape
  have H1 := Lib.hid h1; have H2 := Lib.hid h2; have Hl := Lib.hid hl; clear h1 h2 hl
  generalize hR : eqB r s = R
  have HR := Lib.hid hR; clear hR
  by_cases hn : r.length = s.length
  · have Hn := Lib.hid hn
    rw [← hn] at H2 ⊢
    clear hn
    have hbb : ((r.length : Int) != (r.length : Int)) = false := by simp
    go_enter Tryz.func52, Tryz.ntmps52
    go_wp2
    go_loopw [5] (fun i wr => ∃ j : Nat, i = .int .i64 j ∧ j ≤ r.length ∧ Hid (∀ (i : Nat) (a b : BA), i < j → r[i]? = some a → s[i]? = some b → a = b) ∧ Hid (w.Fr wr [])) (fun i _ => (r.length - intOf i).toNat)
    case atStart => exact ⟨0, rfl, Nat.zero_le _, Lib.hid (fun i a b hi => by omega), Lib.hid (World.Fr.refl w [])⟩
    case round =>
      obtain ⟨j, rfl, hj, HA, HF⟩ := hrel
      by_cases hlt : j < r.length
      · obtain ⟨x, hx⟩ : ∃ x, r[j]? = some x := ⟨r[j], List.getElem?_eq_getElem (by omega)⟩
        obtain ⟨y, hy⟩ : ∃ y, s[j]? = some y := ⟨s[j]'(by have := Hn.out; omega), List.getElem?_eq_getElem (by have := Hn.out; omega)⟩
        obtain ⟨g, off, c, hv, hg, kx0⟩ := (H1.out.fr HF.out (by simp)).at hx
        have h2' := H2.out.fr HF.out (by simp)
        rw [Hn.out] at h2'
        obtain ⟨g2, off2, c2', hv2, hg2, ky0⟩ := h2'.at hy
        cases hv; cases hv2
        have hrI : (j : Int) < (r.length : Int) := by omega
        have hw1 : IntKind.i64.wrap ((j : Int) + 1) = (j : Int) + 1 := IntWalk.i64_in _ (by have := Hl.out; omega)
        have Hx := Lib.hid hx; have Hy := Lib.hid hy; clear hx hy h2'
        by_cases hxy : x = y
        · subst hxy
          have hbs : (x.toList == x.toList) = true := beq_self_eq_true _
          have hbs2 : (x.toList != x.toList) = false := by simp
          go_wp2
          go_quiet (fail)
          go_wp2
          go_roundw
          case rel => exact ⟨j + 1, by go_num, by omega, Lib.hid (fun k a b hk ha hb => by
            rcases Nat.lt_or_ge k j with h | h
            · exact HA.out k a b h ha hb
            · obtain rfl : k = j := by omega
              rw [Hx.out] at ha; rw [Hy.out] at hb
              cases ha; cases hb; rfl), Lib.hid (HF.out.of_drewN _)⟩
          case measure => simp [intOf]; omega
        · have hres : R = false := by
            rw [← HR.out]
            exact eqB_false (fun h => hxy (by have := Hx.out; rw [h, Hy.out] at this; injection this with this; exact this.symm))
          subst hres
          have hb : (x.toList == y.toList) = false := beq_eq_false_iff_ne.2 (fun h => hxy (toList_inj h))
          have hb2 : (x.toList != y.toList) = true := by simp [bne, hb]
          clear hxy Hx Hy HR HA
          go_wp2
          go_quiet (fail)
          go_wp2
          go_ret
          exact ⟨rfl, HF.out.of_drewN _⟩
      · have hres : R = true := by
          rw [← HR.out]
          exact eqB_true (eq_of_get Hn.out (fun i a b ha hb => HA.out i a b (by have := (List.getElem?_eq_some_iff.1 ha).1; omega) ha hb))
        have hd : decide ((j : Int) < (r.length : Int)) = false := decide_eq_false (by omega)
        have hd2 : decide (j < r.length) = false := decide_eq_false hlt
        subst hres
        clear HA hlt hj HR
        go_wp2
        go_ret
        exact ⟨rfl, HF.out⟩
  · have hres : R = false := by rw [← HR.out]; exact eqB_false (fun h => hn (by rw [h]))
    subst hres
    have hbb : ((r.length : Int) == (s.length : Int)) = false := beq_eq_false_iff_ne.2 (by omega)
    have hbc : ((r.length : Int) != (s.length : Int)) = true := by simp; omega
    clear hn HR
    go_enter Tryz.func52, Tryz.ntmps52
    go_wp2
    go_ret
    exact ⟨rfl, World.Fr.refl w []⟩

set_option maxRecDepth 100000 in
set_option maxHeartbeats 1000000 in
theorem rsameRow53 {w : World} {v1 v2 : Value} {r s : Row} (h1 : RdRow w v1 r) (h2 : RdRow w v2 s) (hl : r.length ≤ 8000000000000000000) :
    Calls Tryz.prog 53 #[v1, v2] w fun e w' => e = .returned (.bool (eqB r s)) ∧ w.Fr w' [] := by
  obtain ⟨a1, c1, rfl, _, _⟩ := h1.rd.shape
  obtain ⟨a2, c2, rfl, _, _⟩ := h2.rd.shape
  have H1 := Lib.hid h1; have H2 := Lib.hid h2; have Hl := Lib.hid hl; clear h1 h2 hl
  generalize hR : eqB r s = R
  have HR := Lib.hid hR; clear hR
  by_cases hn : r.length = s.length
  · have Hn := Lib.hid hn
    rw [← hn] at H2 ⊢
    clear hn
    have hbb : ((r.length : Int) != (r.length : Int)) = false := by simp
    go_enter Tryz.func53, Tryz.ntmps53
    go_wp2
    go_loopw [5] (fun i wr => ∃ j : Nat, i = .int .i64 j ∧ j ≤ r.length ∧ Hid (∀ (i : Nat) (a b : V), i < j → r[i]? = some a → s[i]? = some b → a = b) ∧ Hid (w.Fr wr [])) (fun i _ => (r.length - intOf i).toNat)
    case atStart => exact ⟨0, rfl, Nat.zero_le _, Lib.hid (fun i a b hi => by omega), Lib.hid (World.Fr.refl w [])⟩
    case round =>
      obtain ⟨j, rfl, hj, HA, HF⟩ := hrel
      by_cases hlt : j < r.length
      · obtain ⟨x, hx⟩ : ∃ x, r[j]? = some x := ⟨r[j], List.getElem?_eq_getElem (by omega)⟩
        obtain ⟨y, hy⟩ : ∃ y, s[j]? = some y := ⟨s[j]'(by have := Hn.out; omega), List.getElem?_eq_getElem (by have := Hn.out; omega)⟩
        obtain ⟨g, off, c, hv, hg, kx0, kx1, kx2, kx3⟩ := (H1.out.fr HF.out (by simp)).at hx
        have h2' := H2.out.fr HF.out (by simp)
        rw [Hn.out] at h2'
        obtain ⟨g2, off2, c2', hv2, hg2, ky0, ky1, ky2, ky3⟩ := h2'.at hy
        cases hv; cases hv2
        have hrI : (j : Int) < (r.length : Int) := by omega
        have hw1 : IntKind.i64.wrap ((j : Int) + 1) = (j : Int) + 1 := IntWalk.i64_in _ (by have := Hl.out; omega)
        have Hx := Lib.hid hx; have Hy := Lib.hid hy; clear hx hy h2'
        go_wp2
        go_still_tail 8, (by kernel_rfl)
        change wpList _ _ _ _ _ wr.drew
        go_wp2_with fail
        refine (rsame87 x y _).mono ?_
        rintro e w2 ⟨rfl, hf2⟩
        have HF2 := Lib.hid (HF.out.drew.trans hf2.fr (by simp)); clear hf2 kx0 kx1 kx2 kx3 ky0 ky1 ky2 ky3
        by_cases hxy : x = y
        · subst hxy
          rw [eqB_true rfl]
          go_wp2
          go_roundw
          case rel => exact ⟨j + 1, by go_num, by omega, Lib.hid (fun k a b hk ha hb => by
            rcases Nat.lt_or_ge k j with h | h
            · exact HA.out k a b h ha hb
            · obtain rfl : k = j := by omega
              rw [Hx.out] at ha; rw [Hy.out] at hb
              cases ha; cases hb; rfl), HF2⟩
          case measure => simp [intOf]; omega
        · have hres : R = false := by
            rw [← HR.out]
            exact eqB_false (fun h => hxy (by have := Hx.out; rw [h, Hy.out] at this; injection this with this; exact this.symm))
          subst hres
          rw [eqB_false hxy]
          clear hxy Hx Hy HR HA
          go_wp2
          go_ret
          exact ⟨rfl, HF2.out⟩
      · have hres : R = true := by
          rw [← HR.out]
          exact eqB_true (eq_of_get Hn.out (fun i a b ha hb => HA.out i a b (by have := (List.getElem?_eq_some_iff.1 ha).1; omega) ha hb))
        have hd : decide ((j : Int) < (r.length : Int)) = false := decide_eq_false (by omega)
        have hd2 : decide (j < r.length) = false := decide_eq_false hlt
        subst hres
        clear HA hlt hj HR
        go_wp2
        go_ret
        exact ⟨rfl, HF.out⟩
  · have hres : R = false := by rw [← HR.out]; exact eqB_false (fun h => hn (by rw [h]))
    subst hres
    have hbb : ((r.length : Int) == (s.length : Int)) = false := beq_eq_false_iff_ne.2 (by omega)
    have hbc : ((r.length : Int) != (s.length : Int)) = true := by simp; omega
    clear hn HR
    go_enter Tryz.func53, Tryz.ntmps53
    go_wp2
    go_ret
    exact ⟨rfl, World.Fr.refl w []⟩
end Go.Proofs.YtikodapgceokhaaGreat
