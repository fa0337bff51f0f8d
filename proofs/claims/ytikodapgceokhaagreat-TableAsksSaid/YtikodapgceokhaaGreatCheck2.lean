/-
  The walk of table.Check.
-/
import Derived.Test.YtikodapgceokhaaGreatCheck
namespace Go.Proofs.YtikodapgceokhaaGreat
open Go.RowKit

noncomputable def rowsCheck (cf : V → V → Int) (n : Nat) : Option Row → List Row → Int
  | _, [] => 0
  | p, r :: rs => if rowCheck n r = 0 then (if (match p with | some q => decide (0 ≤ rcmp cf q r) | none => false) = true then 1 else rowsCheck cf n (some r) rs) else rowCheck n r
noncomputable def tcheck (cf : V → V → Int) (t : Tb) : Int := if 8 < t.vars.length then 30 else if risesB t.vars = true then rowsCheck cf t.vars.length none t.rows else 30
structure Fine (cf : V → V → Int) (n : Nat) (p : Option Row) (r : Row) : Prop where
  row : rowCheck n r = 0
  up : ∀ q, p = some q → rcmp cf q r < 0
def prevOf (p : Option Row) (rs : List Row) : Nat → Option Row
  | 0 => p
  | j + 1 => rs[j]?
section
variable {cf : V → V → Int} {n : Nat}
theorem rowsCheck_fine {p : Option Row} {r : Row} (rs : List Row) (h : Fine cf n p r) : rowsCheck cf n p (r :: rs) = rowsCheck cf n (some r) rs := by
  simp only [rowsCheck, h.row, if_true]
  cases p with
  | none => rfl
  | some q =>
    have := h.up q rfl
    simp only [show decide (0 ≤ rcmp cf q r) = false from decide_eq_false (by omega)]
    rfl
theorem rowsCheck_drop (p : Option Row) (rs : List Row) (j : Nat) (h : ∀ (i : Nat) (r : Row), i < j → rs[i]? = some r → Fine cf n (prevOf p rs i) r) (hj : j ≤ rs.length) : rowsCheck cf n p rs = rowsCheck cf n (prevOf p rs j) (rs.drop j) := by
  induction j generalizing p rs with
  | zero => rfl
  | succ j ih =>
    cases rs with
    | nil => simp at hj
    | cons r rs =>
      have h0 : Fine cf n p r := h 0 r (by omega) rfl
      rw [rowsCheck_fine rs h0]
      rw [ih (some r) rs (fun i x hi hx => by
        have := h (i + 1) x (by omega) (by simpa using hx)
        cases i with
        | zero => exact this
        | succ i => exact this) (by simpa using hj)]
      cases j with
      | zero => rfl
      | succ j => rfl
theorem rowsCheck_bad (rs : List Row) (j : Nat) (h : ∀ (i : Nat) (r : Row), i < j → rs[i]? = some r → Fine cf n (prevOf none rs i) r) {r : Row} (hr : rs[j]? = some r) (hb : rowCheck n r ≠ 0) : rowsCheck cf n none rs = rowCheck n r := by
  have hl := (List.getElem?_eq_some_iff.1 hr).1
  rw [rowsCheck_drop none rs j h (by omega), List.drop_eq_getElem_cons hl, (List.getElem?_eq_some_iff.1 hr).2]
  simp [rowsCheck, hb]
theorem rowsCheck_down (rs : List Row) (j : Nat) (h : ∀ (i : Nat) (r : Row), i < j + 1 → rs[i]? = some r → Fine cf n (prevOf none rs i) r) {q r : Row} (hq : rs[j]? = some q) (hr : rs[j + 1]? = some r) (hb : rowCheck n r = 0) (hd : 0 ≤ rcmp cf q r) : rowsCheck cf n none rs = 1 := by
  have hl := (List.getElem?_eq_some_iff.1 hr).1
  rw [rowsCheck_drop none rs (j + 1) h (by omega), List.drop_eq_getElem_cons hl, (List.getElem?_eq_some_iff.1 hr).2]
  simp [rowsCheck, hb, prevOf, hq, hd]
theorem rowsCheck_end (rs : List Row) (j : Nat) (h : ∀ (i : Nat) (r : Row), i < j → rs[i]? = some r → Fine cf n (prevOf none rs i) r) (hj : j = rs.length) : rowsCheck cf n none rs = 0 := by
  rw [rowsCheck_drop none rs j h (by omega), List.drop_of_length_le (by omega)]
  cases prevOf none rs j <;> rfl
end

theorem two {w : World} {p : Nat} {t : TypeId} {a b : Value} (hh : w.heap[p]? = some (.cells #[a, b] t (0, 0))) :
    w.cell? ⟨p, 0, none⟩ = some a ∧ w.cell? ⟨p, 1, none⟩ = some b ∧ ∀ j, w.frozen? ⟨p, j, none⟩ = false := by
  refine ⟨?_, ?_, fun j => frozen_of_row w p j _ _ hh⟩ <;> simp [World.cell?, hh]

set_option maxRecDepth 100000 in
set_option maxHeartbeats 2000000 in
theorem check15 {okv : V → Prop} {cf : V → V → Int} (hK : ChkOk okv) (hC : CmpOk okv cf) {w : World} {v : Value} {t : Tb} (h : RdTab w v t) (ho : ∀ r, r ∈ t.rows → ∀ x, x ∈ r → okv x) (hl1 : t.vars.length ≤ 8000000000000000000) (hl2 : t.rows.length ≤ 8000000000000000000) (hl3 : ∀ r, r ∈ t.rows → r.length ≤ 8000000000000000000) :
    Calls Tryz.prog 15 #[v] w fun e w' => e = .returned (.int .i64 (tcheck cf t)) ∧ w.Fr w' [] := by
  obtain ⟨va, vb, hs, rfl, hv, hr⟩ := h.ex
  obtain ⟨aa, ca, rfl, _, _⟩ := hv.rd.shape
  obtain ⟨ab, cb, rfl, _, _⟩ := hr.rd.shape
  have hlen := hr.len
  rw [hlen] at hr ⊢
  have Hv := Lib.hid hv; have Hr := Lib.hid hr; have Ho := Lib.hid ho; have Hl1 := Lib.hid hl1; have Hl2 := Lib.hid hl2; have Hl3 := Lib.hid hl3; have HK := Lib.hid hK; have HC := Lib.hid hC; have Hlen := Lib.hid hlen; clear h hv hr ho hl1 hl2 hl3 hK hC hlen
  generalize hR : tcheck cf t = R
  have HR := Lib.hid hR; clear hR
  have hp := heap_alloc_at w (.cells #[.slice aa t.vars.length ca, .slice ab t.rows.length cb] 25) _ rfl
  have hfr := (World.Fr.refl w []).alloc (.cells #[.slice aa t.vars.length ca, .slice ab t.rows.length cb] 25)
  go_enter Tryz.func15, Tryz.ntmps15
  go_upto_region 1 with (fail)
  generalize hW : World.alloc w _ = W at *
  clear hW
  obtain ⟨p0, p1, pf⟩ := two hp
  have Hp := Lib.hid hp; have Hf := Lib.hid hfr; clear hp hfr
  by_cases h8 : 8 < t.vars.length
  · have hd8 : decide ((8 : Int) < (t.vars.length : Int)) = true := decide_eq_true (by omega)
    have hres : R = 30 := by rw [← HR.out, tcheck, if_pos h8]
    subst hres
    clear h8
    go_wp2
    go_ret
    exact ⟨rfl, Hf.out⟩
  · have hd8 : decide ((8 : Int) < (t.vars.length : Int)) = false := decide_eq_false (by omega)
    have H8 := Lib.hid h8; clear h8
    have hrises := rises47 (Hv.out.fr Hf.out (by simp)) Hl1.out
    have Hrises := Lib.hid hrises; clear hrises
    go_wp2_with fail
    refine Hrises.out.mono ?_
    rintro e w1 ⟨rfl, hf1⟩
    have Hp1 := Lib.hid (hf1.heap Hp.out (by simp)); have Hf1 := Lib.hid (Hf.out.trans hf1 (by simp)); clear hf1 p0 p1 pf Hp Hf Hrises
    obtain ⟨p0, p1, pf⟩ := two Hp1.out
    cases hri : risesB t.vars with
    | false =>
      have hres : R = 30 := by rw [← HR.out, tcheck, if_neg H8.out, hri]; rfl
      subst hres
      go_wp2
      go_ret
      exact ⟨rfl, Hf1.out⟩
    | true =>
      have hres : R = rowsCheck cf t.vars.length none t.rows := by rw [← HR.out, tcheck, if_neg H8.out, hri]; rfl
      subst hres
      clear HR hri
      go_wp2
      generalize w.heap.size = tb at *
      go_loopw [19] (fun i wr => ∃ j : Nat, i = .int .i64 j ∧ j ≤ t.rows.length ∧ Hid (∀ (i : Nat) (r : Row), i < j → t.rows[i]? = some r → Fine cf t.vars.length (prevOf none t.rows i) r) ∧ Hid (wr.heap[tb]? = some (.cells #[.slice aa t.vars.length ca, .slice ab t.rows.length cb] 25)) ∧ Hid (w.Fr wr [])) (fun i _ => (t.rows.length - intOf i).toNat)
      case atStart => exact ⟨0, rfl, Nat.zero_le _, Lib.hid (fun i a hi => by omega), Hp1, Hf1⟩
      case round =>
        obtain ⟨j, rfl, hj, HA, HP, HF⟩ := hrel
        clear p0 p1 pf Hp1 Hf1
        obtain ⟨p0, p1, pf⟩ := two HP.out
        by_cases hlt : j < t.rows.length
        · obtain ⟨x, hx⟩ : ∃ x, t.rows[j]? = some x := ⟨t.rows[j], List.getElem?_eq_getElem (by omega)⟩
          have hall := Hr.out.still HF.out
          obtain ⟨g, off, c, a, m, hv, hg, kx, hrow⟩ := hall.at hx
          cases hv
          have hrI : (j : Int) < (t.rows.length : Int) := by omega
          have hw1 : IntKind.i64.wrap ((j : Int) + 1) = (j : Int) + 1 := IntWalk.i64_in _ (by have := Hl2.out; omega)
          have hxm := List.mem_of_getElem? hx
          have hc := checkRow48 HK.out t.vars.length hrow (Ho.out x hxm) (Hl3.out x hxm)
          have Hc := Lib.hid hc; have Hx := Lib.hid hx; have Hall := Lib.hid hall; have Hrow := Lib.hid hrow; have Hxm := Lib.hid hxm; clear hc hx hall hrow hxm
          go_wp2_with fail
          refine Hc.out.mono ?_
          rintro e w2 ⟨rfl, hf2⟩
          have HP2 := Lib.hid (hf2.heap HP.out (by simp))
          have HF2 := Lib.hid (HF.out.trans hf2 (by simp))
          have Hrow2 := Lib.hid (Hrow.out.fr hf2 (by simp))
          have Hall2 := Lib.hid (Hall.out.still hf2); clear hf2 kx p0 p1 pf HP HF Hall Hrow Hc
          obtain ⟨p0, p1, pf⟩ := two HP2.out
          by_cases h0 : rowCheck t.vars.length x = 0
          · have H0 := Lib.hid h0
            rw [h0]
            clear h0
            cases j with
            | zero =>
              go_wp2
              go_roundw
              case rel => exact ⟨1, by go_num, by omega, Lib.hid (fun k r hk hr => by
                obtain rfl : k = 0 := by omega
                rw [Hx.out] at hr
                cases hr
                exact ⟨H0.out, fun q hq => by cases hq⟩), HP2, HF2⟩
              case measure => simp [intOf]; omega
            | succ m1 =>
              obtain ⟨y, hy⟩ : ∃ y, t.rows[m1]? = some y := ⟨t.rows[m1], List.getElem?_eq_getElem (by omega)⟩
              obtain ⟨g, off, c, ay, my, hvy, hgy, ky, hrowy⟩ := Hall2.out.at hy
              cases hvy
              have hym := List.mem_of_getElem? hy
              have hs1 : IntKind.i64.wrap (m1 : Int) = (m1 : Int) := IntWalk.i64_in _ (by have := Hl2.out; omega)
              have hmI : (m1 : Int) < (t.rows.length : Int) := by omega
              have hw2 : IntKind.i64.wrap ((m1 : Int) + 1 + 1) = (m1 : Int) + 1 + 1 := IntWalk.i64_in _ (by have := Hl2.out; omega)
              have hpos : (0 : Int) < (m1 : Int) + 1 := by omega
              have hposb : decide ((0 : Int) < (m1 : Int) + 1) = true := decide_eq_true hpos
              have hc := compareRow49 HC.out hrowy Hrow2.out (Ho.out y hym) (Ho.out x Hxm.out) (Hl3.out y hym)
              have Hc := Lib.hid hc; have Hy := Lib.hid hy; clear hc hy hrowy hym
              go_wp2_with fail
              refine Hc.out.mono ?_
              rintro e w3 ⟨rfl, hg3⟩
              have hf3 := hg3.fr; clear hg3
              have HP3 := Lib.hid (hf3.heap HP2.out (by simp))
              have HF3 := Lib.hid (HF2.out.trans hf3 (by simp)); clear hf3 ky p0 p1 pf HP2 HF2 Hc
              by_cases hup : rcmp cf y x < 0
              · have hub : decide (0 ≤ rcmp cf y x) = false := decide_eq_false (by omega)
                have Hup := Lib.hid hup; clear hup
                go_wp2
                go_roundw
                case rel => exact ⟨m1 + 1 + 1, by go_num, by omega, Lib.hid (fun k r hk hr => by
                  rcases Nat.lt_or_ge k (m1 + 1) with h | h
                  · exact HA.out k r h hr
                  · obtain rfl : k = m1 + 1 := by omega
                    rw [Hx.out] at hr
                    cases hr
                    exact ⟨H0.out, fun q hq => by
                      simp only [prevOf] at hq
                      rw [Hy.out] at hq
                      cases hq
                      exact Hup.out⟩), HP3, HF3⟩
                case measure => simp [intOf]; omega
              · have hres := rowsCheck_down t.rows m1 HA.out Hy.out Hx.out H0.out (by omega)
                have hub : decide (0 ≤ rcmp cf y x) = true := decide_eq_true (by omega)
                have Hres := Lib.hid hres; clear hres hup
                go_wp2
                go_ret
                rw [Hres.out]
                exact ⟨rfl, HF3.out⟩
          · have hres := rowsCheck_bad t.rows j HA.out Hx.out h0
            have h0b : (rowCheck t.vars.length x == 0) = false := beq_eq_false_iff_ne.2 h0
            have Hres := Lib.hid hres; clear hres h0
            generalize rowCheck t.vars.length x = z at *
            go_wp2
            go_ret
            rw [Hres.out]
            exact ⟨rfl, HF2.out⟩
        · have hres := rowsCheck_end t.rows j HA.out (by omega)
          have hd : decide ((j : Int) < (t.rows.length : Int)) = false := decide_eq_false (by omega)
          have hd2 : decide (j < t.rows.length) = false := decide_eq_false hlt
          have Hres := Lib.hid hres; clear hres HA hlt hj
          go_wp2
          go_ret
          rw [Hres.out]
          exact ⟨rfl, HF.out⟩
end Go.Proofs.YtikodapgceokhaaGreat
