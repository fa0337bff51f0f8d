/-
  The walks of slices.Equal of rows, slices.EqualFunc of tables' rows, table.Same, table.Has.
-/
import Derived.Test.YtikodapgceokhaaGreatCheck2
namespace Go.Proofs.YtikodapgceokhaaGreat
open Go.RowKit

open Classical in
noncomputable def eqB {α : Type} (a b : α) : Bool := decide (a = b)
theorem eqB_true {α : Type} {a b : α} (h : a = b) : eqB a b = true := by unfold eqB; simp [h]
theorem eqB_false {α : Type} {a b : α} (h : a ≠ b) : eqB a b = false := by unfold eqB; simp [h]
theorem toList_inj {a b : BA} (h : a.toList = b.toList) : a = b := by
  rw [ByteArray.toList_eq, ByteArray.toList_eq] at h
  cases a with | mk a => cases b with | mk b => simp at h; rw [h]

theorem eq_of_get {α : Type} {r s : List α} (hl : r.length = s.length) (h : ∀ (i : Nat) (a b : α), r[i]? = some a → s[i]? = some b → a = b) : r = s := by
  apply List.ext_getElem? 
  intro i
  rcases Nat.lt_or_ge i r.length with hi | hi
  · have h1 := List.getElem?_eq_getElem hi
    have h2 := List.getElem?_eq_getElem (l := s) (i := i) (by omega)
    rw [h1, h2, h i _ _ h1 h2]
  · rw [List.getElem?_eq_none hi, List.getElem?_eq_none (by omega)]

/-- how two values differ -/
theorem V.differ {x y : V} (h : x ≠ y) : (x.k == y.k) = false ∨ (x.k = y.k ∧ (x.n == y.n) = false) ∨ (x.k = y.k ∧ x.n = y.n ∧ (x.d == y.d) = false) ∨ (x.k = y.k ∧ x.n = y.n ∧ x.d = y.d ∧ (x.s.toList == y.s.toList) = false) := by
  by_cases h1 : x.k = y.k
  · by_cases h2 : x.n = y.n
    · by_cases h3 : x.d = y.d
      · refine .inr (.inr (.inr ⟨h1, h2, h3, beq_eq_false_iff_ne.2 fun h4 => h ?_⟩))
        have h5 := toList_inj h4
        cases x; cases y; simp_all
      · exact .inr (.inr (.inl ⟨h1, h2, beq_eq_false_iff_ne.2 h3⟩))
    · exact .inr (.inl ⟨h1, beq_eq_false_iff_ne.2 h2⟩)
  · exact .inl (beq_eq_false_iff_ne.2 h1)

set_option maxRecDepth 100000 in
set_option maxHeartbeats 1000000 in
theorem equal59 {w : World} {v1 v2 : Value} {r s : Row} (h1 : RdRow w v1 r) (h2 : RdRow w v2 s) (hl : r.length ≤ 8000000000000000000) :
    Calls Tryz.prog 59 #[v1, v2] w fun e w' => e = .returned (.bool (eqB r s)) ∧ w.Fr w' [] := by
  obtain ⟨a1, c1, rfl, _, _⟩ := h1.rd.shape
  obtain ⟨a2, c2, rfl, _, _⟩ := h2.rd.shape
  have H1 := Lib.hid h1; have H2 := Lib.hid h2; have Hl := Lib.hid hl; clear h1 h2 hl
  generalize hR : eqB r s = R
  have HR := Lib.hid hR; clear hR
  by_cases hn : r.length = s.length
  · have Hn := Lib.hid hn
    rw [← hn] at H2 ⊢
    clear hn
    have hbb : ((r.length : Int) != (r.length : Int)) = false := by simp
    go_enter Tryz.func59, Tryz.ntmps59
    go_wp2
    go_loopw [13] (fun i wr => ∃ j : Nat, i = .int .i64 j ∧ j ≤ r.length ∧ Hid (∀ (i : Nat) (a b : V), i < j → r[i]? = some a → s[i]? = some b → a = b) ∧ Hid (w.Fr wr [])) (fun i _ => (r.length - intOf i).toNat)
    case atStart => exact ⟨0, rfl, Nat.zero_le _, Lib.hid (fun i a b hi => by omega), Lib.hid (World.Fr.refl w [])⟩
    case round =>
      obtain ⟨j, rfl, hj, HA, HF⟩ := hrel
      by_cases hlt : j < r.length
      · obtain ⟨x, hx⟩ : ∃ x, r[j]? = some x := ⟨r[j], List.getElem?_eq_getElem (by omega)⟩
        obtain ⟨y, hy⟩ : ∃ y, s[j]? = some y := ⟨s[j]'(by have := Hn.out; omega), List.getElem?_eq_getElem (by have := Hn.out; omega)⟩
        obtain ⟨g, off, c, hv, hg, kx0, kx1, kx2, kx3⟩ := (H1.out.fr HF.out (by simp)).at hx
        have h2' := H2.out.fr HF.out (by simp)
        rw [Hn.out] at h2'
        obtain ⟨g2, off2, c2', hv2, hg2, ky0, ky1, ky2, ky3⟩ := h2'.at hy
        cases hv; cases hv2
        have hrI : (j : Int) < (r.length : Int) := by omega
        have hw1 : IntKind.i64.wrap ((j : Int) + 1) = (j : Int) + 1 := IntWalk.i64_in _ (by have := Hl.out; omega)
        have Hx := Lib.hid hx; have Hy := Lib.hid hy; clear hx hy h2'
        by_cases hxy : x = y
        · subst hxy
          have hbs : (x.s.toList == x.s.toList) = true := beq_self_eq_true _
          go_wp2
          go_quiet (fail)
          go_wp2
          go_roundw
          case rel => exact ⟨j + 1, by go_num, by omega, Lib.hid (fun k a b hk ha hb => by
            rcases Nat.lt_or_ge k j with h | h
            · exact HA.out k a b h ha hb
            · obtain rfl : k = j := by omega
              rw [Hx.out] at ha; rw [Hy.out] at hb
              cases ha; cases hb; rfl), Lib.hid (HF.out.of_drewN _)⟩
          case measure => simp [intOf]; omega
        · have hres : R = false := by
            rw [← HR.out]
            exact eqB_false (fun h => hxy (by have := Hx.out; rw [h, Hy.out] at this; injection this with this; exact this.symm))
          subst hres
          obtain ⟨x1, x2, x3, x4⟩ := x
          obtain ⟨y1, y2, y3, y4⟩ := y
          have hdiff := V.differ hxy
          simp only at hdiff kx0 kx1 kx2 kx3 ky0 ky1 ky2 ky3
          clear hxy Hx Hy HR HA
          rcases hdiff with hb | ⟨rfl, hb⟩ | ⟨rfl, rfl, hb⟩ | ⟨rfl, rfl, rfl, hb⟩
          all_goals
            go_wp2
            go_quiet (fail)
            go_wp2
            go_ret
            exact ⟨rfl, HF.out.of_drewN _⟩
      · have hres : R = true := by
          rw [← HR.out]
          exact eqB_true (eq_of_get Hn.out (fun i a b ha hb => HA.out i a b (by have := (List.getElem?_eq_some_iff.1 ha).1; omega) ha hb))
        have hd : decide ((j : Int) < (r.length : Int)) = false := decide_eq_false (by omega)
        have hd2 : decide (j < r.length) = false := decide_eq_false hlt
        subst hres
        clear HA hlt hj HR
        go_wp2
        go_ret
        exact ⟨rfl, HF.out⟩
  · have hres : R = false := by rw [← HR.out]; exact eqB_false (fun h => hn (by rw [h]))
    subst hres
    have hbb : ((r.length : Int) == (s.length : Int)) = false := beq_eq_false_iff_ne.2 (by omega)
    have hbc : ((r.length : Int) != (s.length : Int)) = true := by simp; omega
    clear hn HR
    go_enter Tryz.func59, Tryz.ntmps59
    go_wp2
    go_ret
    exact ⟨rfl, World.Fr.refl w []⟩
set_option maxRecDepth 100000 in
set_option maxHeartbeats 1000000 in
theorem equal56 {w : World} {v1 v2 : Value} {r s : List BA} (h1 : RdStr w v1 r) (h2 : RdStr w v2 s) (hl : r.length ≤ 8000000000000000000) :
    Calls Tryz.prog 56 #[v1, v2] w fun e w' => e = .returned (.bool (eqB r s)) ∧ w.Fr w' [] := by
  obtain ⟨a1, c1, rfl, _, _⟩ := h1.rd.shape
  obtain ⟨a2, c2, rfl, _, _⟩ := h2.rd.shape
  have H1 := Lib.hid h1; have H2 := Lib.hid h2; have Hl := Lib.hid hl; clear h1 h2 hl
  generalize hR : eqB r s = R
  have HR := Lib.hid hR; clear hR
  by_cases hn : r.length = s.length
  · have Hn := Lib.hid hn
    rw [← hn] at H2 ⊢
    clear hn
    have hbb : ((r.length : Int) != (r.length : Int)) = false := by simp
    go_enter Tryz.func56, Tryz.ntmps56
    go_wp2
    go_loopw [13] (fun i wr => ∃ j : Nat, i = .int .i64 j ∧ j ≤ r.length ∧ Hid (∀ (i : Nat) (a b : BA), i < j → r[i]? = some a → s[i]? = some b → a = b) ∧ Hid (w.Fr wr [])) (fun i _ => (r.length - intOf i).toNat)
    case atStart => exact ⟨0, rfl, Nat.zero_le _, Lib.hid (fun i a b hi => by omega), Lib.hid (World.Fr.refl w [])⟩
    case round =>
      obtain ⟨j, rfl, hj, HA, HF⟩ := hrel
      by_cases hlt : j < r.length
      · obtain ⟨x, hx⟩ : ∃ x, r[j]? = some x := ⟨r[j], List.getElem?_eq_getElem (by omega)⟩
        obtain ⟨y, hy⟩ : ∃ y, s[j]? = some y := ⟨s[j]'(by have := Hn.out; omega), List.getElem?_eq_getElem (by have := Hn.out; omega)⟩
        obtain ⟨g, off, c, hv, hg, kx0⟩ := (H1.out.fr HF.out (by simp)).at hx
        have h2' := H2.out.fr HF.out (by simp)
        rw [Hn.out] at h2'
        obtain ⟨g2, off2, c2', hv2, hg2, ky0⟩ := h2'.at hy
        cases hv; cases hv2
        have hrI : (j : Int) < (r.length : Int) := by omega
        have hw1 : IntKind.i64.wrap ((j : Int) + 1) = (j : Int) + 1 := IntWalk.i64_in _ (by have := Hl.out; omega)
        have Hx := Lib.hid hx; have Hy := Lib.hid hy; clear hx hy h2'
        by_cases hxy : x = y
        · subst hxy
          have hbs : (x.toList == x.toList) = true := beq_self_eq_true _
          go_wp2
          go_quiet (fail)
          go_wp2
          go_roundw
          case rel => exact ⟨j + 1, by go_num, by omega, Lib.hid (fun k a b hk ha hb => by
            rcases Nat.lt_or_ge k j with h | h
            · exact HA.out k a b h ha hb
            · obtain rfl : k = j := by omega
              rw [Hx.out] at ha; rw [Hy.out] at hb
              cases ha; cases hb; rfl), Lib.hid (HF.out.of_drewN _)⟩
          case measure => simp [intOf]; omega
        · have hres : R = false := by
            rw [← HR.out]
            exact eqB_false (fun h => hxy (by have := Hx.out; rw [h, Hy.out] at this; injection this with this; exact this.symm))
          subst hres
          have hb : (x.toList == y.toList) = false := beq_eq_false_iff_ne.2 (fun h => hxy (toList_inj h))
          clear hxy Hx Hy HR HA
          go_wp2
          go_quiet (fail)
          go_wp2
          go_ret
          exact ⟨rfl, HF.out.of_drewN _⟩
      · have hres : R = true := by
          rw [← HR.out]
          exact eqB_true (eq_of_get Hn.out (fun i a b ha hb => HA.out i a b (by have := (List.getElem?_eq_some_iff.1 ha).1; omega) ha hb))
        have hd : decide ((j : Int) < (r.length : Int)) = false := decide_eq_false (by omega)
        have hd2 : decide (j < r.length) = false := decide_eq_false hlt
        subst hres
        clear HA hlt hj HR
        go_wp2
        go_ret
        exact ⟨rfl, HF.out⟩
  · have hres : R = false := by rw [← HR.out]; exact eqB_false (fun h => hn (by rw [h]))
    subst hres
    have hbb : ((r.length : Int) == (s.length : Int)) = false := beq_eq_false_iff_ne.2 (by omega)
    have hbc : ((r.length : Int) != (s.length : Int)) = true := by simp; omega
    clear hn HR
    go_enter Tryz.func56, Tryz.ntmps56
    go_wp2
    go_ret
    exact ⟨rfl, World.Fr.refl w []⟩

theorem same58 {w : World} {v1 v2 : Value} {r s : Row} (h1 : RdRow w v1 r) (h2 : RdRow w v2 s) (hl : r.length ≤ 8000000000000000000) :
    Calls Tryz.prog 58 #[v1, v2] w fun e w' => e = .returned (.bool (eqB r s)) ∧ w.Fr w' [] := by
  have hc := equal59 h1 h2 hl
  obtain ⟨a1, c1, rfl, _, _⟩ := h1.rd.shape
  obtain ⟨a2, c2, rfl, _, _⟩ := h2.rd.shape
  have Hc := Lib.hid hc; clear hc h1 h2 hl
  go_enter Tryz.func58, Tryz.ntmps58
  go_wp2_with fail
  refine Hc.out.mono ?_
  rintro e w2 ⟨rfl, hf⟩
  have Hf := Lib.hid hf; clear hf
  go_wp2
  go_ret
  exact ⟨rfl, Hf.out⟩

/-- no row is beyond what a machine bears -/
def Short (rs : List Row) : Prop := ∀ r, r ∈ rs → r.length ≤ 8000000000000000000

set_option maxRecDepth 100000 in
set_option maxHeartbeats 1000000 in
theorem equalFunc57 {w : World} {v1 v2 : Value} {r s : List Row} {hs1 hs2 : List Value} (h1 : RdRows w v1 r hs1) (h2 : RdRows w v2 s hs2) (hl : r.length ≤ 8000000000000000000) (hsh : Short r) :
    Calls Tryz.prog 57 #[v1, v2, .func (.func 58) #[] #[]] w fun e w' => e = .returned (.bool (eqB r s)) ∧ w.Fr w' [] := by
  obtain ⟨a1, c1, rfl, _, _⟩ := h1.rd.shape
  obtain ⟨a2, c2, rfl, _, _⟩ := h2.rd.shape
  have hl1 := h1.len
  have hl2 := h2.len
  rw [hl1] at h1 ⊢
  rw [hl2] at h2 ⊢
  have H1 := Lib.hid h1; have H2 := Lib.hid h2; have Hl := Lib.hid hl; have Hsh := Lib.hid hsh; clear h1 h2 hl hsh hl1 hl2
  generalize hR : eqB r s = R
  have HR := Lib.hid hR; clear hR
  by_cases hn : r.length = s.length
  · have Hn := Lib.hid hn
    rw [← hn] at H2 ⊢
    clear hn
    have hbb : ((r.length : Int) != (r.length : Int)) = false := by simp
    go_enter Tryz.func57, Tryz.ntmps57
    go_wp2
    go_loopw [17] (fun i wr => ∃ j : Nat, i = .int .i64 j ∧ j ≤ r.length ∧ Hid (∀ (i : Nat) (a b : Row), i < j → r[i]? = some a → s[i]? = some b → a = b) ∧ Hid (w.Fr wr [])) (fun i _ => (r.length - intOf i).toNat)
    case atStart => exact ⟨0, rfl, Nat.zero_le _, Lib.hid (fun i a b hi => by omega), Lib.hid (World.Fr.refl w [])⟩
    case round =>
      obtain ⟨j, rfl, hj, HA, HF⟩ := hrel
      by_cases hlt : j < r.length
      · obtain ⟨x, hx⟩ : ∃ x, r[j]? = some x := ⟨r[j], List.getElem?_eq_getElem (by omega)⟩
        obtain ⟨y, hy⟩ : ∃ y, s[j]? = some y := ⟨s[j]'(by have := Hn.out; omega), List.getElem?_eq_getElem (by have := Hn.out; omega)⟩
        obtain ⟨g, off, c, ax, mx, hv, hg, kx, hrx⟩ := (H1.out.still HF.out).at hx
        have h2' := H2.out.still HF.out
        rw [Hn.out] at h2'
        obtain ⟨g2, off2, c2', ay, my, hv2, hg2, ky, hry⟩ := h2'.at hy
        cases hv; cases hv2
        have hrI : (j : Int) < (r.length : Int) := by omega
        have hw1 : IntKind.i64.wrap ((j : Int) + 1) = (j : Int) + 1 := IntWalk.i64_in _ (by have := Hl.out; omega)
        have hc := same58 hrx hry (Hsh.out x (List.mem_of_getElem? hx))
        have Hc := Lib.hid hc; have Hx := Lib.hid hx; have Hy := Lib.hid hy; clear hx hy h2' hc hrx hry
        go_wp2_with fail
        refine Hc.out.mono ?_
        rintro e w2 ⟨rfl, hf2⟩
        have HF2 := Lib.hid (HF.out.trans hf2 (by simp)); clear hf2 kx ky Hc
        by_cases hxy : x = y
        · subst hxy
          rw [eqB_true (rfl : x = x)]
          go_wp2
          go_roundw
          case rel => exact ⟨j + 1, by go_num, by omega, Lib.hid (fun k a b hk ha hb => by
            rcases Nat.lt_or_ge k j with h | h
            · exact HA.out k a b h ha hb
            · obtain rfl : k = j := by omega
              rw [Hx.out] at ha; rw [Hy.out] at hb
              cases ha; cases hb; rfl), HF2⟩
          case measure => simp [intOf]; omega
        · have hres : R = false := by
            rw [← HR.out]
            exact eqB_false (fun h => hxy (by have := Hx.out; rw [h, Hy.out] at this; injection this with this; exact this.symm))
          subst hres
          rw [eqB_false hxy]
          clear hxy Hx Hy HR HA
          go_wp2
          go_ret
          exact ⟨rfl, HF2.out⟩
      · have hres : R = true := by
          rw [← HR.out]
          exact eqB_true (eq_of_get Hn.out (fun i a b ha hb => HA.out i a b (by have := (List.getElem?_eq_some_iff.1 ha).1; omega) ha hb))
        have hd : decide ((j : Int) < (r.length : Int)) = false := decide_eq_false (by omega)
        have hd2 : decide (j < r.length) = false := decide_eq_false hlt
        subst hres
        clear HA hlt hj HR
        go_wp2
        go_ret
        exact ⟨rfl, HF.out⟩
  · have hres : R = false := by rw [← HR.out]; exact eqB_false (fun h => hn (by rw [h]))
    subst hres
    have hbb : ((r.length : Int) == (s.length : Int)) = false := beq_eq_false_iff_ne.2 (by omega)
    have hbc : ((r.length : Int) != (s.length : Int)) = true := by simp; omega
    clear hn HR
    go_enter Tryz.func57, Tryz.ntmps57
    go_wp2
    go_ret
    exact ⟨rfl, World.Fr.refl w []⟩
end Go.Proofs.YtikodapgceokhaaGreat
