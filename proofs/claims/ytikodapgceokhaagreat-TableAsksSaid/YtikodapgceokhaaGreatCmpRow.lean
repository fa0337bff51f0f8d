/-
  The walk of value.CompareRow, over whatever values Compare's contract is known of.
-/
import Derived.Test.YtikodapgceokhaaGreatCmp
namespace Go.Proofs.YtikodapgceokhaaGreat
open Go.RowKit

/-- Compare's contract, of values of which okv holds -/
def CmpOk (okv : V → Prop) (cf : V → V → Int) : Prop := ∀ a b w, okv a → okv b → Calls Tryz.prog 89 #[vv a, vv b] w fun e w' => e = .returned (.int .i64 (cf a b)) ∧ w.Gr w'

/-- the order of rows -/
def rcmp (cf : V → V → Int) : Row → Row → Int
  | a :: s, b :: t => if cf a b = 0 then rcmp cf s t else cf a b
  | s, t => Lib.compareInt s.length t.length

theorem rcmp_drop (cf : V → V → Int) (r s : Row) (j : Nat) (h : ∀ (i : Nat) (a b : V), i < j → r[i]? = some a → s[i]? = some b → cf a b = 0) (hr : j ≤ r.length) (hs : j ≤ s.length) : rcmp cf r s = rcmp cf (r.drop j) (s.drop j) := by
  induction j generalizing r s with
  | zero => rfl
  | succ j ih =>
    cases r with
    | nil => simp at hr
    | cons a r =>
      cases s with
      | nil => simp at hs
      | cons b s =>
        have h0 := h 0 a b (by omega) rfl rfl
        simp only [rcmp, h0, if_true, List.drop_succ_cons]
        exact ih r s (fun i x y hi hx hy => h (i + 1) x y (by omega) (by simpa using hx) (by simpa using hy)) (by simpa using hr) (by simpa using hs)
theorem compareInt_add (a b c : Int) : Lib.compareInt (a + c) (b + c) = Lib.compareInt a b := by
  unfold Lib.compareInt
  by_cases h1 : a < b
  · rw [if_pos h1, if_pos (by omega)]
  · rw [if_neg h1, if_neg (by omega)]
    by_cases h2 : a > b
    · rw [if_pos h2, if_pos (by omega)]
    · rw [if_neg h2, if_neg (by omega)]
theorem rcmp_end (cf : V → V → Int) (r s : Row) (j : Nat) (h : ∀ (i : Nat) (a b : V), i < j → r[i]? = some a → s[i]? = some b → cf a b = 0) (hj : j = min r.length s.length) : rcmp cf r s = Lib.compareInt r.length s.length := by
  rw [rcmp_drop cf r s j h (by omega) (by omega)]
  have e1 : (r.drop j).length = r.length - j := by simp
  have e2 : (s.drop j).length = s.length - j := by simp
  have hx : r.drop j = [] ∨ s.drop j = [] := by
    rcases Nat.le_total r.length s.length with hl | hl
    · exact .inl (List.drop_of_length_le (by omega))
    · exact .inr (List.drop_of_length_le (by omega))
  have : rcmp cf (r.drop j) (s.drop j) = Lib.compareInt (r.drop j).length (s.drop j).length := by
    rcases hx with hx | hx <;> rw [hx]
    · cases s.drop j <;> rfl
    · cases r.drop j <;> rfl
  rw [this, e1, e2, ← compareInt_add _ _ (j : Int)]
  congr 1 <;> omega
theorem rcmp_at (cf : V → V → Int) (r s : Row) (j : Nat) (h : ∀ (i : Nat) (a b : V), i < j → r[i]? = some a → s[i]? = some b → cf a b = 0) {a b : V} (ha : r[j]? = some a) (hb : s[j]? = some b) (hab : cf a b ≠ 0) : rcmp cf r s = cf a b := by
  have hr := (List.getElem?_eq_some_iff.1 ha).1
  have hs := (List.getElem?_eq_some_iff.1 hb).1
  rw [rcmp_drop cf r s j h (by omega) (by omega)]
  rw [List.drop_eq_getElem_cons hr, List.drop_eq_getElem_cons hs]
  have e1 : r[j] = a := (List.getElem?_eq_some_iff.1 ha).2
  have e2 : s[j] = b := (List.getElem?_eq_some_iff.1 hb).2
  rw [e1, e2]
  simp [rcmp, hab]

set_option maxRecDepth 100000 in
set_option maxHeartbeats 1000000 in
theorem compareRow49 {okv : V → Prop} {cf : V → V → Int} (hC : CmpOk okv cf) {w : World} {v1 v2 : Value} {r s : Row} (h1 : RdRow w v1 r) (h2 : RdRow w v2 s) (ho1 : ∀ x, x ∈ r → okv x) (ho2 : ∀ x, x ∈ s → okv x) (hl : r.length ≤ 8000000000000000000) :
    Calls Tryz.prog 49 #[v1, v2] w fun e w' => e = .returned (.int .i64 (rcmp cf r s)) ∧ w.Gr w' := by
  obtain ⟨a1, c1, rfl, _, _⟩ := h1.rd.shape
  obtain ⟨a2, c2, rfl, _, _⟩ := h2.rd.shape
  have H1 := Lib.hid h1; have H2 := Lib.hid h2; have Ho1 := Lib.hid ho1; have Ho2 := Lib.hid ho2; have Hl := Lib.hid hl; have HC := Lib.hid hC; clear h1 h2 ho1 ho2 hl hC
  go_enter Tryz.func49, Tryz.ntmps49
  go_wp2
  go_loopw [12] (fun i wr => ∃ j : Nat, i = .int .i64 j ∧ j ≤ min r.length s.length ∧ Hid (∀ (i : Nat) (a b : V), i < j → r[i]? = some a → s[i]? = some b → cf a b = 0) ∧ Hid (w.Gr wr)) (fun i _ => (r.length - intOf i).toNat)
  case atStart => exact ⟨0, rfl, Nat.zero_le _, Lib.hid (fun i a b hi => by omega), Lib.hid (World.Gr.refl w)⟩
  case round =>
    obtain ⟨j, rfl, hj, HA, HF⟩ := hrel
    by_cases hlt : j < min r.length s.length
    · obtain ⟨x, hx⟩ : ∃ x, r[j]? = some x := ⟨r[j], List.getElem?_eq_getElem (by omega)⟩
      obtain ⟨y, hy⟩ : ∃ y, s[j]? = some y := ⟨s[j], List.getElem?_eq_getElem (by omega)⟩
      obtain ⟨g, off, c, hv, hg, kx0, kx1, kx2, kx3⟩ := (H1.out.fr HF.out.fr (by simp)).at hx
      obtain ⟨g2, off2, c2', hv2, hg2, ky0, ky1, ky2, ky3⟩ := (H2.out.fr HF.out.fr (by simp)).at hy
      cases hv; cases hv2
      have hltI : (j : Int) < min (r.length : Int) (s.length : Int) := by omega
      have hrI : (j : Int) < (r.length : Int) := by omega
      have hsI : (j : Int) < (s.length : Int) := by omega
      have hw1 : IntKind.i64.wrap ((j : Int) + 1) = (j : Int) + 1 := IntWalk.i64_in _ (by have := Hl.out; omega)
      have hc := fun w => HC.out x y w (Ho1.out x (List.mem_of_getElem? hx)) (Ho2.out y (List.mem_of_getElem? hy))
      have Hc := Lib.hid hc; have Hx := Lib.hid hx; have Hy := Lib.hid hy; have Hlt := Lib.hid hlt; clear hc hx hy hj hlt
      go_wp2
      go_still_tail 8, (by kernel_rfl)
      change wpList _ _ _ _ _ wr.drew
      go_wp2_with fail
      refine (Hc.out _).mono ?_
      rintro e w2 ⟨rfl, hf2⟩
      have HF2 := Lib.hid (HF.out.drew.trans hf2); clear hf2 kx0 kx1 kx2 kx3 ky0 ky1 ky2 ky3
      by_cases h0 : cf x y = 0
      · have H0 := Lib.hid h0
        rw [h0]
        go_wp2
        go_roundw
        case rel => exact ⟨j + 1, by go_num, by have := Hlt.out; omega, Lib.hid (fun k a b hk ha hb => by
          rcases Nat.lt_or_ge k j with h | h
          · exact HA.out k a b h ha hb
          · obtain rfl : k = j := by omega
            rw [Hx.out] at ha; rw [Hy.out] at hb
            cases ha; cases hb; exact H0.out), HF2⟩
        case measure => simp [intOf]; omega
      · have hres := rcmp_at cf r s j HA.out Hx.out Hy.out h0
        have h0b : (cf x y == 0) = false := beq_eq_false_iff_ne.2 h0
        have Hres := Lib.hid hres; clear hres h0
        generalize cf x y = z at *
        go_wp2
        go_ret
        rw [Hres.out]
        exact ⟨rfl, HF2.out⟩
    · have hres := rcmp_end cf r s j HA.out (by omega)
      have hd : decide ((j : Int) < min (r.length : Int) (s.length : Int)) = false := decide_eq_false (by omega)
      have Hres := Lib.hid hres; clear hres HA hlt hj
      go_wp2_with fail
      refine (Tryz.cmp_Compare_int _ _ _).mono ?_
      rintro e w3 ⟨rfl, rfl⟩
      go_wp2
      go_ret
      rw [Hres.out]
      exact ⟨rfl, HF.out⟩
end Go.Proofs.YtikodapgceokhaaGreat
