/-
  The walks of value.Compare (of what is no fraction), value.CompareRow. The walk of value.CompareRow, over whatever values Compare's contract is known of. The walks of table.checkRow, table.Check, over whatever values the contracts of value.Check and value.Compare are known of. The walk of table.Check.
-/
import Derived.Test.YtbejmdlncnkaaaaGreatLow
import Derived.Test.YtbejmdlncnkaaaaGreatShelf
set_option maxRecDepth 100000
set_option maxHeartbeats 16000000
set_option linter.unusedSimpArgs false
namespace Go.Proofs.YtbejmdlncnkaaaaGreat
section
open Go.RowKit
theorem cmp111 (x y : Int) (w : World) : Calls Tryz.prog 182 #[.int .i64 x, .int .i64 y] w fun e w' => e = .returned (.int .i64 (Lib.compareInt x y)) /\ w = w' := by
 rcases Int.lt_trichotomy x y with h | h | h
 ·have hv : Lib.compareInt x y = -1 := by simp [Lib.compareInt, h]
  have Hv := Hz hv; clear hv
  go_enter Tryz.func182, Tryz.ntmps182
  go_wp2
  go_ret
  rw [Hv.out]; exact ⟨rfl, rfl⟩
 ·subst h
  have hv : Lib.compareInt x x = 0 := by simp [Lib.compareInt]
  have Hv := Hz hv; clear hv
  go_enter Tryz.func182, Tryz.ntmps182
  go_wp2
  go_ret
  rw [Hv.out]; exact ⟨rfl, rfl⟩
 ·have h2 : ¬ x < y := by omega
  have hv : Lib.compareInt x y = 1 := by simp [Lib.compareInt, h, h2]
  have Hv := Hz hv; clear hv
  go_enter Tryz.func182, Tryz.ntmps182
  go_wp2
  go_ret
  rw [Hv.out]; exact ⟨rfl, rfl⟩
open Classical in
noncomputable def vcmpBy (rc : V -> V -> Int) (a b : V) : Int :=
 if vcheck a ≠ 0 ∨ vcheck b ≠ 0 then 0 else if a.k ≠ b.k then Lib.compareInt a.k b.k else if a.k = 1 then Lib.compareInt a.n b.n else if a.k = 2 then rc a b else Lib.compareBytes a.s.data.toList b.s.data.toList
theorem four {w : World} {p : Nat} {t : TypeId} {a b c d : Value} (hh : w.heap[p]? = some (.cells #[a, b, c, d] t (0, 0))) :
  w.cell? ⟨p, 0, none⟩ = some a /\ w.cell? ⟨p, 1, none⟩ = some b /\ w.cell? ⟨p, 2, none⟩ = some c /\ w.cell? ⟨p, 3, none⟩ = some d /\ ∀ j, w.frozen? ⟨p, j, none⟩ = false := by
 refine ⟨?_, ?_, ?_, ?_, fun j => frozen_of_row w p j _ _ hh⟩ <;> simp [World.cell?, hh]
end
section
open Go.RowKit
def CmpOk (okv : V -> Prop) (cf : V -> V -> Int) : Prop := ∀ a b w, okv a -> okv b -> Calls Tryz.prog 146 #[vv a, vv b] w fun e w' => e = .returned (.int .i64 (cf a b)) /\ w.Gr w'
def rcmp (cf : V -> V -> Int) : Row -> Row -> Int
 | a :: s, b :: t => if cf a b = 0 then rcmp cf s t else cf a b
 | s, t => Lib.compareInt s.length t.length
theorem rcmp_drop (cf : V -> V -> Int) (r s : Row) (j : Nat) (h : ∀ (i : Nat) (a b : V), i < j -> r[i]? = some a -> s[i]? = some b -> cf a b = 0) (hr : j <= r.length) (hs : j <= s.length) : rcmp cf r s = rcmp cf (r.drop j) (s.drop j) := by
 induction j generalizing r s with
 | zero => rfl
 | succ j ih =>
  cases r with
  | nil => simp at hr
  | cons a r =>
   cases s with
   | nil => simp at hs
   | cons b s =>
    have h0 := h 0 a b (by omega) rfl rfl
    simp only [rcmp, h0, if_true, List.drop_succ_cons]
    exact ih r s (fun i x y hi hx hy => h (i + 1) x y (by omega) (by simpa using hx) (by simpa using hy)) (by simpa using hr) (by simpa using hs)
theorem compareInt_add (a b c : Int) : Lib.compareInt (a + c) (b + c) = Lib.compareInt a b := by
 unfold Lib.compareInt
 by_cases h1 : a < b
 ·rw [if_pos h1, if_pos (by omega)]
 ·rw [if_neg h1, if_neg (by omega)]
  by_cases h2 : a > b
  ·rw [if_pos h2, if_pos (by omega)]
  ·rw [if_neg h2, if_neg (by omega)]
theorem rcmp_end (cf : V -> V -> Int) (r s : Row) (j : Nat) (h : ∀ (i : Nat) (a b : V), i < j -> r[i]? = some a -> s[i]? = some b -> cf a b = 0) (hj : j = min r.length s.length) : rcmp cf r s = Lib.compareInt r.length s.length := by
 rw [rcmp_drop cf r s j h (by omega) (by omega)]
 have e1 : (r.drop j).length = r.length - j := by simp
 have e2 : (s.drop j).length = s.length - j := by simp
 have hx : r.drop j = [] ∨ s.drop j = [] := by
  rcases Nat.le_total r.length s.length with hl | hl
  ·exact .inl (List.drop_of_length_le (by omega))
  ·exact .inr (List.drop_of_length_le (by omega))
 have : rcmp cf (r.drop j) (s.drop j) = Lib.compareInt (r.drop j).length (s.drop j).length := by
  rcases hx with hx | hx <;> rw [hx]
  ·cases s.drop j <;> rfl
  ·cases r.drop j <;> rfl
 rw [this, e1, e2, <- compareInt_add _ _ (j : Int)]
 congr 1 <;> omega
theorem rcmp_at (cf : V -> V -> Int) (r s : Row) (j : Nat) (h : ∀ (i : Nat) (a b : V), i < j -> r[i]? = some a -> s[i]? = some b -> cf a b = 0) {a b : V} (ha : r[j]? = some a) (hb : s[j]? = some b) (hab : cf a b ≠ 0) : rcmp cf r s = cf a b := by
 have hr := (List.getElem?_eq_some_iff.1 ha).1
 have hs := (List.getElem?_eq_some_iff.1 hb).1
 rw [rcmp_drop cf r s j h (by omega) (by omega)]
 rw [List.drop_eq_getElem_cons hr, List.drop_eq_getElem_cons hs]
 have e1 : r[j] = a := (List.getElem?_eq_some_iff.1 ha).2
 have e2 : s[j] = b := (List.getElem?_eq_some_iff.1 hb).2
 rw [e1, e2]
 simp [rcmp, hab]
theorem compareRow49 {okv : V -> Prop} {cf : V -> V -> Int} (hC : CmpOk okv cf) {w : World} {v1 v2 : Value} {r s : Row} (h1 : RdRow w v1 r) (h2 : RdRow w v2 s) (ho1 : ∀ x, x ∈ r -> okv x) (ho2 : ∀ x, x ∈ s -> okv x) (hl : r.length <= 8000000000000000000) :
  Calls Tryz.prog 164 #[v1, v2] w fun e w' => e = .returned (.int .i64 (rcmp cf r s)) /\ w.Gr w' := by
 obtain ⟨a1, c1, rfl, _, _⟩ := h1.rd.shape
 obtain ⟨a2, c2, rfl, _, _⟩ := h2.rd.shape
 have H1 := Hz h1; have H2 := Hz h2; have Ho1 := Hz ho1; have Ho2 := Hz ho2; have Hl := Hz hl; have HC := Hz hC; clear h1 h2 ho1 ho2 hl hC
 go_enter Tryz.func164, Tryz.ntmps164
 go_wp2
 go_loopw [12] (fun i wr => ∃ j : Nat, i = .int .i64 j /\ j <= min r.length s.length /\ Hid (∀ (i : Nat) (a b : V), i < j -> r[i]? = some a -> s[i]? = some b -> cf a b = 0) /\ Hid (w.Gr wr)) (fun i _ => (r.length - intOf i).toNat)
 case atStart => exact ⟨0, rfl, Nat.zero_le _, Hz (fun i a b hi => by omega), Hz (World.Gr.refl w)⟩
 case round =>
  obtain ⟨j, rfl, hj, HA, HF⟩ := hrel
  by_cases hlt : j < min r.length s.length
  ·obtain ⟨x, hx⟩ : ∃ x, r[j]? = some x := ⟨r[j], List.getElem?_eq_getElem (by omega)⟩
   obtain ⟨y, hy⟩ : ∃ y, s[j]? = some y := ⟨s[j], List.getElem?_eq_getElem (by omega)⟩
   obtain ⟨g, off, c, hv, hg, kx0, kx1, kx2, kx3⟩ := (H1.out.fr HF.out.fr (by simp)).at hx
   obtain ⟨g2, off2, c2', hv2, hg2, ky0, ky1, ky2, ky3⟩ := (H2.out.fr HF.out.fr (by simp)).at hy
   cases hv; cases hv2
   have hltI : (j : Int) < min (r.length : Int) (s.length : Int) := by omega
   have hrI : (j : Int) < (r.length : Int) := by omega
   have hsI : (j : Int) < (s.length : Int) := by omega
   have hw1 : IntKind.i64.wrap ((j : Int) + 1) = (j : Int) + 1 := IntWalk.i64_in _ (by have := Hl.out; omega)
   have hc := fun w => HC.out x y w (Ho1.out x (List.mem_of_getElem? hx)) (Ho2.out y (List.mem_of_getElem? hy))
   have Hc := Hz hc; have Hx := Hz hx; have Hy := Hz hy; have Hlt := Hz hlt; clear hc hx hy hj hlt
   go_wp2
   go_still_tail 8, (by kernel_rfl)
   change wpList _ _ _ _ _ wr.drew
   go_wp2_with fail
   refine (Hc.out _).mono ?_
   rintro e w2 ⟨rfl, hf2⟩
   have HF2 := Hz (HF.out.drew.trans hf2); clear hf2 kx0 kx1 kx2 kx3 ky0 ky1 ky2 ky3
   by_cases h0 : cf x y = 0
   ·have H0 := Hz h0
    rw [h0]
    go_wp2
    go_roundw
    case rel => exact ⟨j + 1, by go_num, by have := Hlt.out; omega, Hz (fun k a b hk ha hb => by
     rcases Nat.lt_or_ge k j with h | h
     ·exact HA.out k a b h ha hb
     ·obtain rfl : k = j := by omega
      rw [Hx.out] at ha; rw [Hy.out] at hb
      cases ha; cases hb; exact H0.out), HF2⟩
    case measure => simp [intOf]; omega
   ·have hres := rcmp_at cf r s j HA.out Hx.out Hy.out h0
    have h0b : (cf x y == 0) = false := beq_eq_false_iff_ne.2 h0
    have Hres := Hz hres; clear hres h0
    generalize cf x y = z at *
    go_wp2
    go_ret
    rw [Hres.out]
    exact ⟨rfl, HF2.out⟩
  ·have hres := rcmp_end cf r s j HA.out (by omega)
   have hd : decide ((j : Int) < min (r.length : Int) (s.length : Int)) = false := decide_eq_false (by omega)
   have Hres := Hz hres; clear hres HA hlt hj
   go_wp2_with fail
   refine (Tryz.cmp_Compare_int _ _ _).mono ?_
   rintro e w3 ⟨rfl, rfl⟩
   go_wp2
   go_ret
   rw [Hres.out]
   exact ⟨rfl, HF.out⟩
end
section
open Go.RowKit
def ChkOk (okv : V -> Prop) : Prop := ∀ v w, okv v -> Calls Tryz.prog 181 #[vv v] w fun e w' => e = .returned (.int .i64 (vcheck v)) /\ w.Gr w'
noncomputable def vchecks : Row -> Int
 | [] => 0
 | v :: r => if vcheck v = 0 then vchecks r else vcheck v
noncomputable def rowCheck (n : Nat) (r : Row) : Int := if r.length = n then vchecks r else 1
theorem vchecks_drop (r : Row) (j : Nat) (h : ∀ (i : Nat) (a : V), i < j -> r[i]? = some a -> vcheck a = 0) : vchecks r = vchecks (r.drop j) := by
 induction j generalizing r with
 | zero => rfl
 | succ j ih =>
  cases r with
  | nil => rfl
  | cons a r =>
   have h0 := h 0 a (by omega) rfl
   simp only [vchecks, h0, if_true, List.drop_succ_cons]
   exact ih r (fun i x hi hx => h (i + 1) x (by omega) (by simpa using hx))
theorem vchecks_at (r : Row) (j : Nat) (h : ∀ (i : Nat) (a : V), i < j -> r[i]? = some a -> vcheck a = 0) {a : V} (ha : r[j]? = some a) (hab : vcheck a ≠ 0) : vchecks r = vcheck a := by
 have hr := (List.getElem?_eq_some_iff.1 ha).1
 rw [vchecks_drop r j h, List.drop_eq_getElem_cons hr, (List.getElem?_eq_some_iff.1 ha).2]
 simp [vchecks, hab]
theorem vchecks_end (r : Row) (j : Nat) (h : ∀ (i : Nat) (a : V), i < j -> r[i]? = some a -> vcheck a = 0) (hj : r.length <= j) : vchecks r = 0 := by
 rw [vchecks_drop r j h, List.drop_of_length_le hj]; rfl
theorem checkRow48 {okv : V -> Prop} (hC : ChkOk okv) {w : World} {v : Value} {r : Row} (n : Nat) (h : RdRow w v r) (ho : ∀ x, x ∈ r -> okv x) (hl : r.length <= 8000000000000000000) :
  Calls Tryz.prog 151 #[.int .i64 n, v] w fun e w' => e = .returned (.int .i64 (rowCheck n r)) /\ w.Fr w' [] := by
 obtain ⟨a1, c1, rfl, _, _⟩ := h.rd.shape
 have H := Hz h; have Ho := Hz ho; have Hl := Hz hl; have HC := Hz hC; clear h ho hl hC
 by_cases hn : r.length = n
 ·have hres : rowCheck n r = vchecks r := if_pos hn
  rw [hres]
  have hnb : ((r.length : Int) == (n : Int)) = true := by rw [hn]; simp
  have hnc : ((r.length : Int) != (n : Int)) = false := by rw [hn]; simp
  clear hres
  subst hn
  go_enter Tryz.func151, Tryz.ntmps151
  go_wp2
  go_loopw [14] (fun i wr => ∃ j : Nat, i = .int .i64 j /\ j <= r.length /\ Hid (∀ (i : Nat) (a : V), i < j -> r[i]? = some a -> vcheck a = 0) /\ Hid (w.Fr wr [])) (fun i _ => (r.length - intOf i).toNat)
  case atStart => exact ⟨0, rfl, Nat.zero_le _, Hz (fun i a hi => by omega), Hz (World.Fr.refl w [])⟩
  case round =>
   obtain ⟨j, rfl, hj, HA, HF⟩ := hrel
   by_cases hlt : j < r.length
   ·obtain ⟨x, hx⟩ : ∃ x, r[j]? = some x := ⟨r[j], List.getElem?_eq_getElem (by omega)⟩
    obtain ⟨g, off, c, hv, hg, kx0, kx1, kx2, kx3⟩ := (H.out.fr HF.out (by simp)).at hx
    cases hv
    have hrI : (j : Int) < (r.length : Int) := by omega
    have hw1 : IntKind.i64.wrap ((j : Int) + 1) = (j : Int) + 1 := IntWalk.i64_in _ (by have := Hl.out; omega)
    have hgl : g < wr.heap.size + 1 := by omega
    have hc := fun w => HC.out x w (Ho.out x (List.mem_of_getElem? hx))
    have Hc := Hz hc; have Hx := Hz hx; clear hc hx
    go_wp2_with fail
    refine (Hc.out _).mono ?_
    rintro e w2 ⟨rfl, hf2⟩
    have HF2 := Hz ((HF.out.alloc _).trans hf2.fr (by simp)); clear hf2 kx0 kx1 kx2 kx3
    by_cases h0 : vcheck x = 0
    ·have H0 := Hz h0
     rw [h0]
     go_wp2
     go_roundw
     case rel => exact ⟨j + 1, by go_num, by omega, Hz (fun k a hk ha => by
      rcases Nat.lt_or_ge k j with h | h
      ·exact HA.out k a h ha
      ·obtain rfl : k = j := by omega
       rw [Hx.out] at ha
       cases ha; exact H0.out), HF2⟩
     case measure => simp [intOf]; omega
    ·have hres := vchecks_at r j HA.out Hx.out h0
     have h0b : (vcheck x == 0) = false := beq_eq_false_iff_ne.2 h0
     have Hres := Hz hres; clear hres h0
     generalize vcheck x = z at *
     go_wp2
     go_ret
     rw [Hres.out]
     exact ⟨rfl, HF2.out⟩
   ·have hres := vchecks_end r j HA.out (by omega)
    have hd : decide ((j : Int) < (r.length : Int)) = false := decide_eq_false (by omega)
    have hd2 : decide (j < r.length) = false := decide_eq_false hlt
    have Hres := Hz hres; clear hres HA hlt hj
    go_wp2
    go_ret
    rw [Hres.out]
    exact ⟨rfl, HF.out⟩
 ·have hres : rowCheck n r = 1 := if_neg hn
  rw [hres]
  have hnb : ((r.length : Int) == (n : Int)) = false := beq_eq_false_iff_ne.2 (by omega)
  have hnc : ((r.length : Int) != (n : Int)) = true := by simp; omega
  clear hres hn
  go_enter Tryz.func151, Tryz.ntmps151
  go_wp2
  go_ret
  exact ⟨rfl, World.Fr.refl w []⟩
end
section
open Go.RowKit
noncomputable def rowsCheck (cf : V -> V -> Int) (n : Nat) : Option Row -> List Row -> Int
 | _, [] => 0
 | p, r :: rs => if rowCheck n r = 0 then (if (match p with | some q => decide (0 <= rcmp cf q r) | none => false) = true then 1 else rowsCheck cf n (some r) rs) else rowCheck n r
noncomputable def tcheck (cf : V -> V -> Int) (t : Tb) : Int := if 8 < t.vars.length then 30 else if risesB t.vars = true then rowsCheck cf t.vars.length none t.rows else 30
structure Fine (cf : V -> V -> Int) (n : Nat) (p : Option Row) (r : Row) : Prop where
 row : rowCheck n r = 0
 up : ∀ q, p = some q -> rcmp cf q r < 0
def prevOf (p : Option Row) (rs : List Row) : Nat -> Option Row
 | 0 => p
 | j + 1 => rs[j]?
section
variable {cf : V -> V -> Int} {n : Nat}
theorem rowsCheck_fine {p : Option Row} {r : Row} (rs : List Row) (h : Fine cf n p r) : rowsCheck cf n p (r :: rs) = rowsCheck cf n (some r) rs := by
 simp only [rowsCheck, h.row, if_true]
 cases p with
 | none => rfl
 | some q =>
  have := h.up q rfl
  simp only [show decide (0 <= rcmp cf q r) = false from decide_eq_false (by omega)]
  rfl
theorem rowsCheck_drop (p : Option Row) (rs : List Row) (j : Nat) (h : ∀ (i : Nat) (r : Row), i < j -> rs[i]? = some r -> Fine cf n (prevOf p rs i) r) (hj : j <= rs.length) : rowsCheck cf n p rs = rowsCheck cf n (prevOf p rs j) (rs.drop j) := by
 induction j generalizing p rs with
 | zero => rfl
 | succ j ih =>
  cases rs with
  | nil => simp at hj
  | cons r rs =>
   have h0 : Fine cf n p r := h 0 r (by omega) rfl
   rw [rowsCheck_fine rs h0]
   rw [ih (some r) rs (fun i x hi hx => by
    have := h (i + 1) x (by omega) (by simpa using hx)
    cases i with
    | zero => exact this
    | succ i => exact this) (by simpa using hj)]
   cases j with
   | zero => rfl
   | succ j => rfl
theorem rowsCheck_bad (rs : List Row) (j : Nat) (h : ∀ (i : Nat) (r : Row), i < j -> rs[i]? = some r -> Fine cf n (prevOf none rs i) r) {r : Row} (hr : rs[j]? = some r) (hb : rowCheck n r ≠ 0) : rowsCheck cf n none rs = rowCheck n r := by
 have hl := (List.getElem?_eq_some_iff.1 hr).1
 rw [rowsCheck_drop none rs j h (by omega), List.drop_eq_getElem_cons hl, (List.getElem?_eq_some_iff.1 hr).2]
 simp [rowsCheck, hb]
theorem rowsCheck_down (rs : List Row) (j : Nat) (h : ∀ (i : Nat) (r : Row), i < j + 1 -> rs[i]? = some r -> Fine cf n (prevOf none rs i) r) {q r : Row} (hq : rs[j]? = some q) (hr : rs[j + 1]? = some r) (hb : rowCheck n r = 0) (hd : 0 <= rcmp cf q r) : rowsCheck cf n none rs = 1 := by
 have hl := (List.getElem?_eq_some_iff.1 hr).1
 rw [rowsCheck_drop none rs (j + 1) h (by omega), List.drop_eq_getElem_cons hl, (List.getElem?_eq_some_iff.1 hr).2]
 simp [rowsCheck, hb, prevOf, hq, hd]
theorem rowsCheck_end (rs : List Row) (j : Nat) (h : ∀ (i : Nat) (r : Row), i < j -> rs[i]? = some r -> Fine cf n (prevOf none rs i) r) (hj : j = rs.length) : rowsCheck cf n none rs = 0 := by
 rw [rowsCheck_drop none rs j h (by omega), List.drop_of_length_le (by omega)]
 cases prevOf none rs j <;> rfl
end
theorem two {w : World} {p : Nat} {t : TypeId} {a b : Value} (hh : w.heap[p]? = some (.cells #[a, b] t (0, 0))) :
  w.cell? ⟨p, 0, none⟩ = some a /\ w.cell? ⟨p, 1, none⟩ = some b /\ ∀ j, w.frozen? ⟨p, j, none⟩ = false := by
 refine ⟨?_, ?_, fun j => frozen_of_row w p j _ _ hh⟩ <;> simp [World.cell?, hh]
theorem check15 {okv : V -> Prop} {cf : V -> V -> Int} (hK : ChkOk okv) (hC : CmpOk okv cf) {w : World} {v : Value} {t : Tb} (h : RdTab w v t) (ho : ∀ r, r ∈ t.rows -> ∀ x, x ∈ r -> okv x) (hl1 : t.vars.length <= 8000000000000000000) (hl2 : t.rows.length <= 8000000000000000000) (hl3 : ∀ r, r ∈ t.rows -> r.length <= 8000000000000000000) :
  Calls Tryz.prog 128 #[v] w fun e w' => e = .returned (.int .i64 (tcheck cf t)) /\ w.Fr w' [] := by
 obtain ⟨va, vb, hs, rfl, hv, hr⟩ := h.ex
 obtain ⟨aa, ca, rfl, _, _⟩ := hv.rd.shape
 obtain ⟨ab, cb, rfl, _, _⟩ := hr.rd.shape
 have hlen := hr.len
 rw [hlen] at hr ⊢
 have Hv := Hz hv; have Hr := Hz hr; have Ho := Hz ho; have Hl1 := Hz hl1; have Hl2 := Hz hl2; have Hl3 := Hz hl3; have HK := Hz hK; have HC := Hz hC; have Hlen := Hz hlen; clear h hv hr ho hl1 hl2 hl3 hK hC hlen
 generalize hR : tcheck cf t = R
 have HR := Hz hR; clear hR
 have hp := heap_alloc_at w (.cells #[.slice aa t.vars.length ca, .slice ab t.rows.length cb] 34) _ rfl
 have hfr := (World.Fr.refl w []).alloc (.cells #[.slice aa t.vars.length ca, .slice ab t.rows.length cb] 34)
 go_enter Tryz.func128, Tryz.ntmps128
 go_upto_region 1 with (fail)
 generalize hW : World.alloc w _ = W at *
 clear hW
 obtain ⟨p0, p1, pf⟩ := two hp
 have Hp := Hz hp; have Hf := Hz hfr; clear hp hfr
 by_cases h8 : 8 < t.vars.length
 ·have hd8 : decide ((8 : Int) < (t.vars.length : Int)) = true := decide_eq_true (by omega)
  have hres : R = 30 := by rw [<- HR.out, tcheck, if_pos h8]
  subst hres
  clear h8
  go_wp2
  go_ret
  exact ⟨rfl, Hf.out⟩
 ·have hd8 : decide ((8 : Int) < (t.vars.length : Int)) = false := decide_eq_false (by omega)
  have H8 := Hz h8; clear h8
  have hrises := rises47 (Hv.out.fr Hf.out (by simp)) Hl1.out
  have Hrises := Hz hrises; clear hrises
  go_wp2_with fail
  refine Hrises.out.mono ?_
  rintro e w1 ⟨rfl, hf1⟩
  have Hp1 := Hz (hf1.heap Hp.out (by simp)); have Hf1 := Hz (Hf.out.trans hf1 (by simp)); clear hf1 p0 p1 pf Hp Hf Hrises
  obtain ⟨p0, p1, pf⟩ := two Hp1.out
  cases hri : risesB t.vars with
  | false =>
   have hres : R = 30 := by rw [<- HR.out, tcheck, if_neg H8.out, hri]; rfl
   subst hres
   go_wp2
   go_ret
   exact ⟨rfl, Hf1.out⟩
  | true =>
   have hres : R = rowsCheck cf t.vars.length none t.rows := by rw [<- HR.out, tcheck, if_neg H8.out, hri]; rfl
   subst hres
   clear HR hri
   go_wp2
   generalize w.heap.size = tb at *
   go_loopw [19] (fun i wr => ∃ j : Nat, i = .int .i64 j /\ j <= t.rows.length /\ Hid (∀ (i : Nat) (r : Row), i < j -> t.rows[i]? = some r -> Fine cf t.vars.length (prevOf none t.rows i) r) /\ Hid (wr.heap[tb]? = some (.cells #[.slice aa t.vars.length ca, .slice ab t.rows.length cb] 34)) /\ Hid (w.Fr wr [])) (fun i _ => (t.rows.length - intOf i).toNat)
   case atStart => exact ⟨0, rfl, Nat.zero_le _, Hz (fun i a hi => by omega), Hp1, Hf1⟩
   case round =>
    obtain ⟨j, rfl, hj, HA, HP, HF⟩ := hrel
    clear p0 p1 pf Hp1 Hf1
    obtain ⟨p0, p1, pf⟩ := two HP.out
    by_cases hlt : j < t.rows.length
    ·obtain ⟨x, hx⟩ : ∃ x, t.rows[j]? = some x := ⟨t.rows[j], List.getElem?_eq_getElem (by omega)⟩
     have hall := Hr.out.still HF.out
     obtain ⟨g, off, c, a, m, hv, hg, kx, hrow⟩ := hall.at hx
     cases hv
     have hrI : (j : Int) < (t.rows.length : Int) := by omega
     have hw1 : IntKind.i64.wrap ((j : Int) + 1) = (j : Int) + 1 := IntWalk.i64_in _ (by have := Hl2.out; omega)
     have hxm := List.mem_of_getElem? hx
     have hc := checkRow48 HK.out t.vars.length hrow (Ho.out x hxm) (Hl3.out x hxm)
     have Hc := Hz hc; have Hx := Hz hx; have Hall := Hz hall; have Hrow := Hz hrow; have Hxm := Hz hxm; clear hc hx hall hrow hxm
     go_wp2_with fail
     refine Hc.out.mono ?_
     rintro e w2 ⟨rfl, hf2⟩
     have HP2 := Hz (hf2.heap HP.out (by simp))
     have HF2 := Hz (HF.out.trans hf2 (by simp))
     have Hrow2 := Hz (Hrow.out.fr hf2 (by simp))
     have Hall2 := Hz (Hall.out.still hf2); clear hf2 kx p0 p1 pf HP HF Hall Hrow Hc
     obtain ⟨p0, p1, pf⟩ := two HP2.out
     by_cases h0 : rowCheck t.vars.length x = 0
     ·have H0 := Hz h0
      rw [h0]
      clear h0
      cases j with
      | zero =>
       go_wp2
       go_roundw
       case rel => exact ⟨1, by go_num, by omega, Hz (fun k r hk hr => by
        obtain rfl : k = 0 := by omega
        rw [Hx.out] at hr
        cases hr
        exact ⟨H0.out, fun q hq => by cases hq⟩), HP2, HF2⟩
       case measure => simp [intOf]; omega
      | succ m1 =>
       obtain ⟨y, hy⟩ : ∃ y, t.rows[m1]? = some y := ⟨t.rows[m1], List.getElem?_eq_getElem (by omega)⟩
       obtain ⟨g, off, c, ay, my, hvy, hgy, ky, hrowy⟩ := Hall2.out.at hy
       cases hvy
       have hym := List.mem_of_getElem? hy
       have hs1 : IntKind.i64.wrap (m1 : Int) = (m1 : Int) := IntWalk.i64_in _ (by have := Hl2.out; omega)
       have hmI : (m1 : Int) < (t.rows.length : Int) := by omega
       have hw2 : IntKind.i64.wrap ((m1 : Int) + 1 + 1) = (m1 : Int) + 1 + 1 := IntWalk.i64_in _ (by have := Hl2.out; omega)
       have hpos : (0 : Int) < (m1 : Int) + 1 := by omega
       have hposb : decide ((0 : Int) < (m1 : Int) + 1) = true := decide_eq_true hpos
       have hc := compareRow49 HC.out hrowy Hrow2.out (Ho.out y hym) (Ho.out x Hxm.out) (Hl3.out y hym)
       have Hc := Hz hc; have Hy := Hz hy; clear hc hy hrowy hym
       go_wp2_with fail
       refine Hc.out.mono ?_
       rintro e w3 ⟨rfl, hg3⟩
       have hf3 := hg3.fr; clear hg3
       have HP3 := Hz (hf3.heap HP2.out (by simp))
       have HF3 := Hz (HF2.out.trans hf3 (by simp)); clear hf3 ky p0 p1 pf HP2 HF2 Hc
       by_cases hup : rcmp cf y x < 0
       ·have hub : decide (0 <= rcmp cf y x) = false := decide_eq_false (by omega)
        have Hup := Hz hup; clear hup
        go_wp2
        go_roundw
        case rel => exact ⟨m1 + 1 + 1, by go_num, by omega, Hz (fun k r hk hr => by
         rcases Nat.lt_or_ge k (m1 + 1) with h | h
         ·exact HA.out k r h hr
         ·obtain rfl : k = m1 + 1 := by omega
          rw [Hx.out] at hr
          cases hr
          exact ⟨H0.out, fun q hq => by
           simp only [prevOf] at hq
           rw [Hy.out] at hq
           cases hq
           exact Hup.out⟩), HP3, HF3⟩
        case measure => simp [intOf]; omega
       ·have hres := rowsCheck_down t.rows m1 HA.out Hy.out Hx.out H0.out (by omega)
        have hub : decide (0 <= rcmp cf y x) = true := decide_eq_true (by omega)
        have Hres := Hz hres; clear hres hup
        go_wp2
        go_ret
        rw [Hres.out]
        exact ⟨rfl, HF3.out⟩
     ·have hres := rowsCheck_bad t.rows j HA.out Hx.out h0
      have h0b : (rowCheck t.vars.length x == 0) = false := beq_eq_false_iff_ne.2 h0
      have Hres := Hz hres; clear hres h0
      generalize rowCheck t.vars.length x = z at *
      go_wp2
      go_ret
      rw [Hres.out]
      exact ⟨rfl, HF2.out⟩
    ·have hres := rowsCheck_end t.rows j HA.out (by omega)
     have hd : decide ((j : Int) < (t.rows.length : Int)) = false := decide_eq_false (by omega)
     have hd2 : decide (j < t.rows.length) = false := decide_eq_false hlt
     have Hres := Hz hres; clear hres HA hlt hj
     go_wp2
     go_ret
     rw [Hres.out]
     exact ⟨rfl, HF.out⟩
end
end Go.Proofs.YtbejmdlncnkaaaaGreat
