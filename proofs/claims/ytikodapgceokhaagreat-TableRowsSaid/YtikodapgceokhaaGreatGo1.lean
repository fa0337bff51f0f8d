/-
  The calls of the laws on tables that may be: their contracts, each by what is told plainly; the law's both.
-/
import Derived.Test.YtikodapgceokhaaGreatAlg2
namespace Go.Proofs.YtikodapgceokhaaGreat
open Go.RowKit

theorem Good.small {cf : V → V → Int} {t : Tb} (h : Good cf t) (hr : t.rows.length ≤ 5864062014634) : Small t := ⟨by have := h.len; omega, by omega, fun r hm => by rw [h.row r hm]; have := h.len; omega⟩
theorem Good.fits {cf : V → V → Int} {t : Tb} (h : Good cf t) (hr : t.rows.length ≤ 5864062014634) : Fits V.wf t := ⟨h.small hr, hr, fun r hm x hx => (h.ok r hm x hx).1⟩
theorem sub_len {cf : V → V → Int} (hO : OrdOk okW cf) {p a : Tb} (gp : Good cf p) (h : ∀ r, r ∈ p.rows → r ∈ a.rows) : p.rows.length ≤ a.rows.length := by
  classical
  exact nodup_le' _ _ (rows_nodup hO gp) h

section
variable {cf : V → V → Int} (hK : Ctx V.wf cf) {W : World} {v1 v2 : Value} {a b : Tb} {E : Int} {T : Tb}
include hK
theorem g_anti (fa : Fits V.wf a) (fb : Fits V.wf b) (e : antiT cf a b = (E, T)) (h1 : RdTab W v1 a) (h2 : RdTab W v2 b) : Calls Tryz.prog 26 #[v1, v2] W fun e x => ∃ v, e = .returned (.tuple #[v, .int .i64 E]) ∧ OwnTab W x v T := by
  have := anti26 hK h1 h2 fa fb; rw [e] at this; exact this
theorem g_minus (fa : Fits V.wf a) (fb : Fits V.wf b) (e : minusT cf a b = (E, T)) (h1 : RdTab W v1 a) (h2 : RdTab W v2 b) : Calls Tryz.prog 44 #[v1, v2] W fun e x => ∃ v, e = .returned (.tuple #[v, .int .i64 E]) ∧ OwnTab W x v T := by
  have := minus44 hK h1 h2 fa fb; rw [e] at this; exact this
theorem g_union (fa : Fits V.wf a) (fb : Fits V.wf b) (hm : a.rows.length + b.rows.length ≤ 5864062014634) (e : unionT cf a b = (E, T)) (h1 : RdTab W v1 a) (h2 : RdTab W v2 b) : Calls Tryz.prog 39 #[v1, v2] W fun e x => ∃ v, e = .returned (.tuple #[v, .int .i64 E]) ∧ OwnTab W x v T := by
  have := union39 hK h1 h2 fa fb hm; rw [e] at this; exact this
theorem g_join (fa : Fits V.wf a) (fb : Fits V.wf b) (hm : a.rows.length * b.rows.length ≤ 1000000000) (e : joinT cf a b = (E, T)) (h1 : RdTab W v1 a) (h2 : RdTab W v2 b) : Calls Tryz.prog 24 #[v1, v2] W fun e x => ∃ v, e = .returned (.tuple #[v, .int .i64 E]) ∧ OwnTab W x v T := by
  have := join24 hK h1 h2 fa fb hm; rw [e] at this; exact this
theorem g_project (fa : Fits V.wf a) {l : List BA} (hl : l.length ≤ 8796093021952) (e : projectT cf a l = (E, T)) (h1 : RdTab W v1 a) (h2 : RdStr W v2 l) : Calls Tryz.prog 35 #[v1, v2] W fun e x => ∃ v, e = .returned (.tuple #[v, .int .i64 E]) ∧ OwnTab W x v T := by
  have := project35 hK h1 h2 fa hl; rw [e] at this; exact this
theorem g_check (fa : Fits V.wf a) (e : tcheck cf a = E) (h1 : RdTab W v1 a) : Calls Tryz.prog 15 #[v1] W fun e x => e = .returned (.int .i64 E) ∧ W.Fr x [] := by
  have := check15' hK.known h1 fa.ok fa.small; rw [e] at this; exact this
end
theorem g_same {W : World} {v1 v2 : Value} {a : Tb} (sa : Small a) (h1 : RdTab W v1 a) (h2 : RdTab W v2 a) : Calls Tryz.prog 20 #[v1, v2] W fun e x => e = .returned (.bool true) ∧ W.Fr x [] := by
  have := same20 h1 h2 sa; rw [sameB_self] at this; exact this
theorem RdTab.names {W : World} {a1 a2 : Value} {t : Tb} (h : RdTab W (.agg #[a1, a2]) t) : RdStr W a1 t.vars := by
  obtain ⟨x, y, hs, he, h1, _⟩ := h.ex
  cases he
  exact h1
theorem light_two {W : World} {x1 x2 y1 y2 : Option Addr} {n1 n2 m1 m2 c1 c2 d1 d2 : Nat} (hn : n2 ≤ 5864062014634) (hm : m2 ≤ 5864062014634) :
    Calls Tryz.prog 22 #[.slice (some ⟨W.heap.size, 0, none⟩) 2 2] (W.alloc (.cells #[.slice x1 n1 c1, .slice x2 n2 c2, .slice y1 m1 d1, .slice y2 m2 d2] 25)) fun e x => e = .returned (.bool (lightF 1 [n2, m2])) ∧ W.Fr x [] :=
  (light22 (ls := [n2, m2]) (cap := 2) lens2 (by simp) (fun n h => by simp at h; rcases h with rfl | rfl; exact hn; exact hm) (by simp)).mono fun _ _ ⟨h, hw⟩ => ⟨h, hw ▸ (World.Fr.refl W []).alloc _⟩
theorem lens3 {W : World} {x1 x2 y1 y2 z1 z2 : Option Addr} {n1 n2 m1 m2 k1 k2 c1 c2 d1 d2 e1 e2 : Nat} : Lens (W.alloc (.cells #[.slice x1 n1 c1, .slice x2 n2 c2, .slice y1 m1 d1, .slice y2 m2 d2, .slice z1 k1 e1, .slice z2 k2 e2] 25)) W.heap.size 0 [n2, m2, k2] := by
  have hg := heap_alloc_at W (.cells #[.slice x1 n1 c1, .slice x2 n2 c2, .slice y1 m1 d1, .slice y2 m2 d2, .slice z1 k1 e1, .slice z2 k2 e2] 25) _ rfl
  intro i n h
  match i with
  | 0 => simp at h; subst h; exact ⟨x2, c2, by rw [cell_of_row _ _ _ _ _ _ hg]; rfl⟩
  | 1 => simp at h; subst h; exact ⟨y2, d2, by rw [cell_of_row _ _ _ _ _ _ hg]; rfl⟩
  | 2 => simp at h; subst h; exact ⟨z2, e2, by rw [cell_of_row _ _ _ _ _ _ hg]; rfl⟩
  | i + 3 => simp at h
theorem light_three {W : World} {x1 x2 y1 y2 z1 z2 : Option Addr} {n1 n2 m1 m2 k1 k2 c1 c2 d1 d2 e1 e2 : Nat} (hn : n2 ≤ 5864062014634) (hm : m2 ≤ 5864062014634) (hk : k2 ≤ 5864062014634) :
    Calls Tryz.prog 22 #[.slice (some ⟨W.heap.size, 0, none⟩) 3 3] (W.alloc (.cells #[.slice x1 n1 c1, .slice x2 n2 c2, .slice y1 m1 d1, .slice y2 m2 d2, .slice z1 k1 e1, .slice z2 k2 e2] 25)) fun e x => e = .returned (.bool (lightF 1 [n2, m2, k2])) ∧ W.Fr x [] :=
  (light22 (ls := [n2, m2, k2]) (cap := 3) lens3 (by simp) (fun n h => by simp at h; rcases h with rfl | rfl | rfl; exact hn; exact hm; exact hk) (by simp)).mono fun _ _ ⟨h, hw⟩ => ⟨h, hw ▸ (World.Fr.refl W []).alloc _⟩
theorem light3 {x y z : Nat} (h : lightF 1 [x, y, z] = true) : x * y ≤ 20000 ∧ y * z ≤ 20000 ∧ x * y * z ≤ 20000 ∧ x ≤ 20000 ∧ y ≤ 20000 := by
  simp only [lightF] at h
  split at h
  · cases h
  · split at h
    · cases h
    · split at h
      · cases h
      · rename_i h1 h2 h3
        rw [Nat.one_mul] at h1 h2 h3
        have a1 : x * y ≤ max 1 x * max 1 y := Nat.mul_le_mul (by omega) (by omega)
        have a2 : x * y * z ≤ max 1 x * max 1 y * max 1 z := Nat.mul_le_mul a1 (by omega)
        have a3 : 1 * max 1 y * max 1 z ≤ max 1 x * max 1 y * max 1 z := Nat.mul_le_mul (Nat.mul_le_mul (by omega) (Nat.le_refl _)) (Nat.le_refl _)
        have a4 : y * z ≤ 1 * max 1 y * max 1 z := by rw [Nat.one_mul]; exact Nat.mul_le_mul (by omega) (by omega)
        have a5 : 1 * max 1 y ≤ max 1 x * max 1 y := Nat.mul_le_mul (by omega) (Nat.le_refl _)
        refine ⟨by omega, by omega, by omega, by omega, by omega⟩

theorem light2b {x y : Nat} (h : lightF 1 [x, y] = true) : x * y ≤ 20000 ∧ x ≤ 20000 ∧ y ≤ 20000 := by
  refine ⟨light2 h, ?_⟩
  simp only [lightF] at h
  split at h
  · cases h
  · split at h
    · cases h
    · rename_i h1 h2
      rw [Nat.one_mul] at h1 h2
      have a1 : 1 * max 1 y ≤ max 1 x * max 1 y := Nat.mul_le_mul (by omega) (Nat.le_refl _)
      exact ⟨by omega, by omega⟩
/-- what TableApart calls, plainly -/
theorem apart_plain {cf : V → V → Int} (hO : OrdOk okW cf) {a b : Tb} (ha : Good cf a) (hb : Good cf b) (hm : a.rows.length * b.rows.length ≤ 20000) (hra : a.rows.length ≤ 2932031007317) :
    ∃ n E2 m E3 j, antiT cf a b = (0, n) ∧ Small n ∧ minusT cf a b = (E2, m) ∧ (E2 = 0 ∧ m = n ∨ E2 = 30) ∧ joinT cf a b = (E3, j) ∧
      (E3 = 30 ∨ E3 = 0 ∧ Fits V.wf j ∧ ∃ p d, projectT cf j a.vars = (0, p) ∧ Fits V.wf p ∧ minusT cf a p = (0, d) ∧ Fits V.wf d ∧ d.rows.length + p.rows.length ≤ 5864062014634 ∧ unionT cf d p = (0, a) ∧ d = n) := by
  obtain ⟨n, en, gn, vn, rn⟩ := antiT_good hO ha hb
  have hnl := sub_len hO gn (a := a) (fun r hr => ((rn r).1 hr).1)
  have hsn := gn.small (by omega)
  obtain ⟨E2, m, e2, h2⟩ : ∃ E2 m, minusT cf a b = (E2, m) ∧ (E2 = 0 ∧ m = n ∨ E2 = 30) := by
    by_cases hv : a.vars = b.vars
    · obtain ⟨m, e1, e3, _⟩ := minusT_like hO ha hb hv
      exact ⟨0, m, e1, .inl ⟨rfl, by rw [e3] at en; injection en⟩⟩
    · exact ⟨30, tNone, minusT_unlike ha hb hv, .inr rfl⟩
  by_cases h8 : 8 < (allN a b).length
  · exact ⟨n, E2, m, 30, tNone, en, hsn, e2, h2, by rw [joinT_good ha hb, if_pos h8], .inl rfl⟩
  · obtain ⟨n', p, d, en', ep, ed, eu, hdn, gp, vp, hpa, gd, vd, hda⟩ := apart_whole hO ha hb (by omega)
    have hnn : n' = n := by rw [en] at en'; injection en' with _ h; exact h.symm
    have hjl := join_count hO ha hb
    have hjl2 := joinRows_len a b
    have hpl := sub_len hO gp hpa
    have hdl := sub_len hO gd hda
    exact ⟨n, E2, m, 0, joinTab cf a b, en, hsn, e2, h2, by rw [joinT_good ha hb, if_neg h8], .inr ⟨rfl, (join_good ha hb hO (by omega)).fits (by omega), p, d, ep, gp.fits (by omega), ed, gd.fits (by omega), by omega, eu, hdn.trans hnn⟩⟩
end Go.Proofs.YtikodapgceokhaaGreat
