/-
  The walks of table.checkRow, table.Check, over whatever values the contracts of value.Check and value.Compare are known of.
-/
import Derived.Test.YtikodapgceokhaaGreatCmpRow
namespace Go.Proofs.YtikodapgceokhaaGreat
open Go.RowKit

/-- value.Check's contract, of values of which okv holds -/
def ChkOk (okv : V → Prop) : Prop := ∀ v w, okv v → Calls Tryz.prog 88 #[vv v] w fun e w' => e = .returned (.int .i64 (vcheck v)) ∧ w.Gr w'

/-- why one of a row's values may not be -/
noncomputable def vchecks : Row → Int
  | [] => 0
  | v :: r => if vcheck v = 0 then vchecks r else vcheck v
noncomputable def rowCheck (n : Nat) (r : Row) : Int := if r.length = n then vchecks r else 1
theorem vchecks_drop (r : Row) (j : Nat) (h : ∀ (i : Nat) (a : V), i < j → r[i]? = some a → vcheck a = 0) : vchecks r = vchecks (r.drop j) := by
  induction j generalizing r with
  | zero => rfl
  | succ j ih =>
    cases r with
    | nil => rfl
    | cons a r =>
      have h0 := h 0 a (by omega) rfl
      simp only [vchecks, h0, if_true, List.drop_succ_cons]
      exact ih r (fun i x hi hx => h (i + 1) x (by omega) (by simpa using hx))
theorem vchecks_at (r : Row) (j : Nat) (h : ∀ (i : Nat) (a : V), i < j → r[i]? = some a → vcheck a = 0) {a : V} (ha : r[j]? = some a) (hab : vcheck a ≠ 0) : vchecks r = vcheck a := by
  have hr := (List.getElem?_eq_some_iff.1 ha).1
  rw [vchecks_drop r j h, List.drop_eq_getElem_cons hr, (List.getElem?_eq_some_iff.1 ha).2]
  simp [vchecks, hab]
theorem vchecks_end (r : Row) (j : Nat) (h : ∀ (i : Nat) (a : V), i < j → r[i]? = some a → vcheck a = 0) (hj : r.length ≤ j) : vchecks r = 0 := by
  rw [vchecks_drop r j h, List.drop_of_length_le hj]; rfl

set_option maxRecDepth 100000 in
set_option maxHeartbeats 1000000 in
theorem checkRow48 {okv : V → Prop} (hC : ChkOk okv) {w : World} {v : Value} {r : Row} (n : Nat) (h : RdRow w v r) (ho : ∀ x, x ∈ r → okv x) (hl : r.length ≤ 8000000000000000000) :
    Calls Tryz.prog 48 #[.int .i64 n, v] w fun e w' => e = .returned (.int .i64 (rowCheck n r)) ∧ w.Fr w' [] := by
  obtain ⟨a1, c1, rfl, _, _⟩ := h.rd.shape
  have H := Lib.hid h; have Ho := Lib.hid ho; have Hl := Lib.hid hl; have HC := Lib.hid hC; clear h ho hl hC
  by_cases hn : r.length = n
  · have hres : rowCheck n r = vchecks r := if_pos hn
    rw [hres]
    have hnb : ((r.length : Int) == (n : Int)) = true := by rw [hn]; simp
    have hnc : ((r.length : Int) != (n : Int)) = false := by rw [hn]; simp
    clear hres
    subst hn
    go_enter Tryz.func48, Tryz.ntmps48
    go_wp2
    go_loopw [14] (fun i wr => ∃ j : Nat, i = .int .i64 j ∧ j ≤ r.length ∧ Hid (∀ (i : Nat) (a : V), i < j → r[i]? = some a → vcheck a = 0) ∧ Hid (w.Fr wr [])) (fun i _ => (r.length - intOf i).toNat)
    case atStart => exact ⟨0, rfl, Nat.zero_le _, Lib.hid (fun i a hi => by omega), Lib.hid (World.Fr.refl w [])⟩
    case round =>
      obtain ⟨j, rfl, hj, HA, HF⟩ := hrel
      by_cases hlt : j < r.length
      · obtain ⟨x, hx⟩ : ∃ x, r[j]? = some x := ⟨r[j], List.getElem?_eq_getElem (by omega)⟩
        obtain ⟨g, off, c, hv, hg, kx0, kx1, kx2, kx3⟩ := (H.out.fr HF.out (by simp)).at hx
        cases hv
        have hrI : (j : Int) < (r.length : Int) := by omega
        have hw1 : IntKind.i64.wrap ((j : Int) + 1) = (j : Int) + 1 := IntWalk.i64_in _ (by have := Hl.out; omega)
        have hgl : g < wr.heap.size + 1 := by omega
        have hc := fun w => HC.out x w (Ho.out x (List.mem_of_getElem? hx))
        have Hc := Lib.hid hc; have Hx := Lib.hid hx; clear hc hx
        go_wp2_with fail
        refine (Hc.out _).mono ?_
        rintro e w2 ⟨rfl, hf2⟩
        have HF2 := Lib.hid ((HF.out.alloc _).trans hf2.fr (by simp)); clear hf2 kx0 kx1 kx2 kx3
        by_cases h0 : vcheck x = 0
        · have H0 := Lib.hid h0
          rw [h0]
          go_wp2
          go_roundw
          case rel => exact ⟨j + 1, by go_num, by omega, Lib.hid (fun k a hk ha => by
            rcases Nat.lt_or_ge k j with h | h
            · exact HA.out k a h ha
            · obtain rfl : k = j := by omega
              rw [Hx.out] at ha
              cases ha; exact H0.out), HF2⟩
          case measure => simp [intOf]; omega
        · have hres := vchecks_at r j HA.out Hx.out h0
          have h0b : (vcheck x == 0) = false := beq_eq_false_iff_ne.2 h0
          have Hres := Lib.hid hres; clear hres h0
          generalize vcheck x = z at *
          go_wp2
          go_ret
          rw [Hres.out]
          exact ⟨rfl, HF2.out⟩
      · have hres := vchecks_end r j HA.out (by omega)
        have hd : decide ((j : Int) < (r.length : Int)) = false := decide_eq_false (by omega)
        have hd2 : decide (j < r.length) = false := decide_eq_false hlt
        have Hres := Lib.hid hres; clear hres HA hlt hj
        go_wp2
        go_ret
        rw [Hres.out]
        exact ⟨rfl, HF.out⟩
  · have hres : rowCheck n r = 1 := if_neg hn
    rw [hres]
    have hnb : ((r.length : Int) == (n : Int)) = false := beq_eq_false_iff_ne.2 (by omega)
    have hnc : ((r.length : Int) != (n : Int)) = true := by simp; omega
    clear hres hn
    go_enter Tryz.func48, Tryz.ntmps48
    go_wp2
    go_ret
    exact ⟨rfl, World.Fr.refl w []⟩
end Go.Proofs.YtikodapgceokhaaGreat
