/-
  The document's rows: CompareRow, why a row's values may not be. The document's tables: values, Check.
-/
import Derived.Test.YtbejmdlncnkaaaaGreatNumC
import Derived.Test.YtbejmdlncnkaaaaGreatChk
import Derived.Test.YtbejmdlncnkaaaaGreatSor
namespace Go.Proofs.YtbejmdlncnkaaaaGreat
open Go.RowKit

/-- the contract of the document's Compare, of values of which okv holds -/
def RCmpOk (okv : V → Prop) (cf : V → V → Int) : Prop := ∀ a b w, okv a → okv b → Calls Tryz.prog 204 #[vv a, vv b] w fun e w' => e = .returned (.int .i64 (cf a b)) ∧ w.Gr w'
/-- .. of its Check -/
def RChkOk (okv : V → Prop) : Prop := ∀ v w, okv v → Calls Tryz.prog 172 #[vv v] w fun e w' => e = .returned (.int .i64 (vcheck v)) ∧ w.Gr w'

set_option maxRecDepth 100000 in
set_option maxHeartbeats 1000000 in
theorem rrow51 {okv : V → Prop} {cf : V → V → Int} (hC : RCmpOk okv cf) {w : World} {v1 v2 : Value} {r s : Row} (h1 : RdRow w v1 r) (h2 : RdRow w v2 s) (ho1 : ∀ x, x ∈ r → okv x) (ho2 : ∀ x, x ∈ s → okv x) (hl : r.length ≤ 8000000000000000000) :
    Calls Tryz.prog 175 #[v1, v2] w fun e w' => e = .returned (.int .i64 (rcmp cf r s)) ∧ w.Gr w' := by
  obtain ⟨a1, c1, rfl, _, _⟩ := h1.rd.shape
  obtain ⟨a2, c2, rfl, _, _⟩ := h2.rd.shape
  have H1 := Lib.hid h1; have H2 := Lib.hid h2; have Ho1 := Lib.hid ho1; have Ho2 := Lib.hid ho2; have Hl := Lib.hid hl; have HC := Lib.hid hC; clear h1 h2 ho1 ho2 hl hC
  go_enter Tryz.func175, Tryz.ntmps175
  go_wp2
  go_loopw [5] (fun i wr => ∃ j : Nat, i = .int .i64 j ∧ j ≤ min r.length s.length ∧ Hid (∀ (i : Nat) (a b : V), i < j → r[i]? = some a → s[i]? = some b → cf a b = 0) ∧ Hid (w.Gr wr)) (fun i _ => (r.length - intOf i).toNat)
  case atStart => exact ⟨0, rfl, Nat.zero_le _, Lib.hid (fun i a b hi => by omega), Lib.hid (World.Gr.refl w)⟩
  case round =>
    obtain ⟨j, rfl, hj, HA, HF⟩ := hrel
    by_cases hlt : j < min r.length s.length
    · obtain ⟨x, hx⟩ : ∃ x, r[j]? = some x := ⟨r[j], List.getElem?_eq_getElem (by omega)⟩
      obtain ⟨y, hy⟩ : ∃ y, s[j]? = some y := ⟨s[j], List.getElem?_eq_getElem (by omega)⟩
      obtain ⟨g, off, c, hv, hg, kx0, kx1, kx2, kx3⟩ := (H1.out.fr HF.out.fr (by simp)).at hx
      obtain ⟨g2, off2, c2', hv2, hg2, ky0, ky1, ky2, ky3⟩ := (H2.out.fr HF.out.fr (by simp)).at hy
      cases hv; cases hv2
      have d1 : decide ((j : Int) < (r.length : Int)) = true := decide_eq_true (by omega)
      have d2 : decide ((j : Int) < (s.length : Int)) = true := decide_eq_true (by omega)
      have hrI : (j : Int) < (r.length : Int) := by omega
      have hsI : (j : Int) < (s.length : Int) := by omega
      have hw1 : IntKind.i64.wrap ((j : Int) + 1) = (j : Int) + 1 := IntWalk.i64_in _ (by have := Hl.out; omega)
      have hc := fun w => HC.out x y w (Ho1.out x (List.mem_of_getElem? hx)) (Ho2.out y (List.mem_of_getElem? hy))
      have Hc := Lib.hid hc; have Hx := Lib.hid hx; have Hy := Lib.hid hy; have Hlt := Lib.hid hlt; clear hc hx hy hj hlt
      go_wp2
      go_still_tail 8, (by kernel_rfl)
      change wpList _ _ _ _ _ wr.drew
      go_wp2_with fail
      refine (Hc.out _).mono ?_
      rintro e w2 ⟨rfl, hf2⟩
      have HF2 := Lib.hid (HF.out.drew.trans hf2); clear hf2 kx0 kx1 kx2 kx3 ky0 ky1 ky2 ky3
      by_cases h0 : cf x y = 0
      · have H0 := Lib.hid h0
        rw [h0]
        go_wp2
        go_roundw
        case rel => exact ⟨j + 1, by go_num, by have := Hlt.out; omega, Lib.hid (fun k a b hk ha hb => by
          rcases Nat.lt_or_ge k j with h | h
          · exact HA.out k a b h ha hb
          · obtain rfl : k = j := by omega
            rw [Hx.out] at ha; rw [Hy.out] at hb
            cases ha; cases hb; exact H0.out), HF2⟩
        case measure => simp [intOf]; omega
      · have hres := rcmp_at cf r s j HA.out Hx.out Hy.out h0
        have h0b : (cf x y == 0) = false := beq_eq_false_iff_ne.2 h0
        have Hres := Lib.hid hres; clear hres h0
        generalize cf x y = z at *
        go_wp2
        go_ret
        rw [Hres.out]
        exact ⟨rfl, HF2.out⟩
    · have hres := rcmp_end cf r s j HA.out (by omega)
      have hd : decide ((j : Int) < (r.length : Int)) = false ∧ decide (j < r.length) = false ∨ decide ((j : Int) < (r.length : Int)) = true ∧ decide (j < r.length) = true ∧ decide ((j : Int) < (s.length : Int)) = false ∧ decide (j < s.length) = false := by
        by_cases h : j < r.length
        · exact .inr ⟨decide_eq_true (by omega), decide_eq_true h, decide_eq_false (by omega), decide_eq_false (by omega)⟩
        · exact .inl ⟨decide_eq_false (by omega), decide_eq_false h⟩
      have Hres := Lib.hid hres; clear hres HA hlt hj
      rcases hd with ⟨d1, d2⟩ | ⟨d1, d2, d3, d4⟩
      · go_wp2_with fail
        refine (rsizes93 _ _ _).mono ?_
        rintro e w3 ⟨rfl, rfl⟩
        go_wp2
        go_ret
        rw [Hres.out]
        exact ⟨rfl, HF.out⟩
      · go_wp2_with fail
        refine (rsizes93 _ _ _).mono ?_
        rintro e w3 ⟨rfl, rfl⟩
        go_wp2
        go_ret
        rw [Hres.out]
        exact ⟨rfl, HF.out⟩
end Go.Proofs.YtbejmdlncnkaaaaGreat
namespace Go.Proofs.YtbejmdlncnkaaaaGreat
open Go.RowKit

set_option maxRecDepth 100000 in
set_option maxHeartbeats 1000000 in
theorem rvalues50 {okv : V → Prop} (hC : RChkOk okv) {w : World} {v : Value} {r : Row} (h : RdRow w v r) (ho : ∀ x, x ∈ r → okv x) (hl : r.length ≤ 8000000000000000000) :
    Calls Tryz.prog 127 #[v] w fun e w' => e = .returned (.int .i64 (vchecks r)) ∧ w.Fr w' [] := by
  obtain ⟨a1, c1, rfl, _, _⟩ := h.rd.shape
  have H := Lib.hid h; have Ho := Lib.hid ho; have Hl := Lib.hid hl; have HC := Lib.hid hC; clear h ho hl hC
  go_enter Tryz.func127, Tryz.ntmps127
  go_wp2
  go_loopw [3] (fun i wr => ∃ j : Nat, i = .int .i64 j ∧ j ≤ r.length ∧ Hid (∀ (i : Nat) (a : V), i < j → r[i]? = some a → vcheck a = 0) ∧ Hid (w.Fr wr [])) (fun i _ => (r.length - intOf i).toNat)
  case atStart => exact ⟨0, rfl, Nat.zero_le _, Lib.hid (fun i a hi => by omega), Lib.hid (World.Fr.refl w [])⟩
  case round =>
    obtain ⟨j, rfl, hj, HA, HF⟩ := hrel
    by_cases hlt : j < r.length
    · obtain ⟨x, hx⟩ : ∃ x, r[j]? = some x := ⟨r[j], List.getElem?_eq_getElem (by omega)⟩
      obtain ⟨g, off, c, hv, hg, kx0, kx1, kx2, kx3⟩ := (H.out.fr HF.out (by simp)).at hx
      cases hv
      have hrI : (j : Int) < (r.length : Int) := by omega
      have hw1 : IntKind.i64.wrap ((j : Int) + 1) = (j : Int) + 1 := IntWalk.i64_in _ (by have := Hl.out; omega)
      have hc := fun w => HC.out x w (Ho.out x (List.mem_of_getElem? hx))
      have Hc := Lib.hid hc; have Hx := Lib.hid hx; clear hc hx
      go_wp2_with fail
      refine (Hc.out _).mono ?_
      rintro e w2 ⟨rfl, hf2⟩
      have HF2 := Lib.hid (HF.out.trans hf2.fr (by simp)); clear hf2 kx0 kx1 kx2 kx3
      by_cases h0 : vcheck x = 0
      · have H0 := Lib.hid h0
        rw [h0]
        go_wp2
        go_roundw
        case rel => exact ⟨j + 1, by go_num, by omega, Lib.hid (fun k a hk ha => by
          rcases Nat.lt_or_ge k j with h | h
          · exact HA.out k a h ha
          · obtain rfl : k = j := by omega
            rw [Hx.out] at ha
            cases ha; exact H0.out), HF2⟩
        case measure => simp [intOf]; omega
      · have hres := vchecks_at r j HA.out Hx.out h0
        have h0b : (vcheck x == 0) = false := beq_eq_false_iff_ne.2 h0
        have Hres := Lib.hid hres; clear hres h0
        generalize vcheck x = z at *
        go_wp2
        go_ret
        rw [Hres.out]
        exact ⟨rfl, HF2.out⟩
    · have hres := vchecks_end r j HA.out (by omega)
      have hd : decide ((j : Int) < (r.length : Int)) = false := decide_eq_false (by omega)
      have hd2 : decide (j < r.length) = false := decide_eq_false hlt
      have Hres := Lib.hid hres; clear hres HA hlt hj
      go_wp2
      go_ret
      rw [Hres.out]
      exact ⟨rfl, HF.out⟩

end Go.Proofs.YtbejmdlncnkaaaaGreat
