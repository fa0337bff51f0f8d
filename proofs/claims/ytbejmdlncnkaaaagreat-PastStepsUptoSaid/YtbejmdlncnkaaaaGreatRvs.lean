/-
  The document's rows: CompareRow, why a row's values may not be. The document's tables: values, Check.
-/
import Derived.Test.YtbejmdlncnkaaaaGreatNumC
import Derived.Test.YtbejmdlncnkaaaaGreatChk
import Derived.Test.YtbejmdlncnkaaaaGreatSor
set_option maxRecDepth 100000
set_option maxHeartbeats 16000000
set_option linter.unusedSimpArgs false
namespace Go.Proofs.YtbejmdlncnkaaaaGreat
section
open Go.RowKit
def RCmpOk (okv : V -> Prop) (cf : V -> V -> Int) : Prop := ∀ a b w, okv a -> okv b -> Calls Tryz.prog 204 #[vv a, vv b] w fun e w' => e = .returned (.int .i64 (cf a b)) /\ w.Gr w'
def RChkOk (okv : V -> Prop) : Prop := ∀ v w, okv v -> Calls Tryz.prog 172 #[vv v] w fun e w' => e = .returned (.int .i64 (vcheck v)) /\ w.Gr w'
theorem rrow51 {okv : V -> Prop} {cf : V -> V -> Int} (hC : RCmpOk okv cf) {w : World} {v1 v2 : Value} {r s : Row} (h1 : RdRow w v1 r) (h2 : RdRow w v2 s) (ho1 : ∀ x, x ∈ r -> okv x) (ho2 : ∀ x, x ∈ s -> okv x) (hl : r.length <= 8000000000000000000) :
  Calls Tryz.prog 175 #[v1, v2] w fun e w' => e = .returned (.int .i64 (rcmp cf r s)) /\ w.Gr w' := by
 obtain ⟨a1, c1, rfl, _, _⟩ := h1.rd.shape
 obtain ⟨a2, c2, rfl, _, _⟩ := h2.rd.shape
 have H1 := Hz h1; have H2 := Hz h2; have Ho1 := Hz ho1; have Ho2 := Hz ho2; have Hl := Hz hl; have HC := Hz hC; clear h1 h2 ho1 ho2 hl hC
 go_enter Tryz.func175, Tryz.ntmps175
 go_wp2
 go_loopw [5] (fun i wr => ∃ j : Nat, i = .int .i64 j /\ j <= min r.length s.length /\ Hid (∀ (i : Nat) (a b : V), i < j -> r[i]? = some a -> s[i]? = some b -> cf a b = 0) /\ Hid (w.Gr wr)) (fun i _ => (r.length - intOf i).toNat)
 case atStart => exact ⟨0, rfl, Nat.zero_le _, Hz (fun i a b hi => by omega), Hz (World.Gr.refl w)⟩
 case round =>
  obtain ⟨j, rfl, hj, HA, HF⟩ := hrel
  by_cases hlt : j < min r.length s.length
  ·obtain ⟨x, hx⟩ : ∃ x, r[j]? = some x := ⟨r[j], List.getElem?_eq_getElem (by omega)⟩
   obtain ⟨y, hy⟩ : ∃ y, s[j]? = some y := ⟨s[j], List.getElem?_eq_getElem (by omega)⟩
   obtain ⟨g, off, c, hv, hg, kx0, kx1, kx2, kx3⟩ := (H1.out.fr HF.out.fr (by simp)).at hx
   obtain ⟨g2, off2, c2', hv2, hg2, ky0, ky1, ky2, ky3⟩ := (H2.out.fr HF.out.fr (by simp)).at hy
   cases hv; cases hv2
   have d1 : decide ((j : Int) < (r.length : Int)) = true := decide_eq_true (by omega)
   have d2 : decide ((j : Int) < (s.length : Int)) = true := decide_eq_true (by omega)
   have hrI : (j : Int) < (r.length : Int) := by omega
   have hsI : (j : Int) < (s.length : Int) := by omega
   have hw1 : IntKind.i64.wrap ((j : Int) + 1) = (j : Int) + 1 := IntWalk.i64_in _ (by have := Hl.out; omega)
   have hc := fun w => HC.out x y w (Ho1.out x (List.mem_of_getElem? hx)) (Ho2.out y (List.mem_of_getElem? hy))
   have Hc := Hz hc; have Hx := Hz hx; have Hy := Hz hy; have Hlt := Hz hlt; clear hc hx hy hj hlt
   go_wp2
   go_still_tail 8, (by kernel_rfl)
   change wpList _ _ _ _ _ wr.drew
   go_wp2_with fail
   refine (Hc.out _).mono ?_
   rintro e w2 ⟨rfl, hf2⟩
   have HF2 := Hz (HF.out.drew.trans hf2); clear hf2 kx0 kx1 kx2 kx3 ky0 ky1 ky2 ky3
   by_cases h0 : cf x y = 0
   ·have H0 := Hz h0
    rw [h0]
    go_wp2
    go_roundw
    case rel => exact ⟨j + 1, by go_num, by have := Hlt.out; omega, Hz (fun k a b hk ha hb => by
     rcases Nat.lt_or_ge k j with h | h
     ·exact HA.out k a b h ha hb
     ·obtain rfl : k = j := by omega
      rw [Hx.out] at ha; rw [Hy.out] at hb
      cases ha; cases hb; exact H0.out), HF2⟩
    case measure => simp [intOf]; omega
   ·have hres := rcmp_at cf r s j HA.out Hx.out Hy.out h0
    have h0b : (cf x y == 0) = false := beq_eq_false_iff_ne.2 h0
    have Hres := Hz hres; clear hres h0
    generalize cf x y = z at *
    go_wp2
    go_ret
    rw [Hres.out]
    exact ⟨rfl, HF2.out⟩
  ·have hres := rcmp_end cf r s j HA.out (by omega)
   have hd : decide ((j : Int) < (r.length : Int)) = false /\ decide (j < r.length) = false ∨ decide ((j : Int) < (r.length : Int)) = true /\ decide (j < r.length) = true /\ decide ((j : Int) < (s.length : Int)) = false /\ decide (j < s.length) = false := by
    by_cases h : j < r.length
    ·exact .inr ⟨decide_eq_true (by omega), decide_eq_true h, decide_eq_false (by omega), decide_eq_false (by omega)⟩
    ·exact .inl ⟨decide_eq_false (by omega), decide_eq_false h⟩
   have Hres := Hz hres; clear hres HA hlt hj
   rcases hd with ⟨d1, d2⟩ | ⟨d1, d2, d3, d4⟩
   ·go_wp2_with fail
    refine (rsizes93 _ _ _).mono ?_
    rintro e w3 ⟨rfl, rfl⟩
    go_wp2
    go_ret
    rw [Hres.out]
    exact ⟨rfl, HF.out⟩
   ·go_wp2_with fail
    refine (rsizes93 _ _ _).mono ?_
    rintro e w3 ⟨rfl, rfl⟩
    go_wp2
    go_ret
    rw [Hres.out]
    exact ⟨rfl, HF.out⟩
end
section
open Go.RowKit
theorem rvalues50 {okv : V -> Prop} (hC : RChkOk okv) {w : World} {v : Value} {r : Row} (h : RdRow w v r) (ho : ∀ x, x ∈ r -> okv x) (hl : r.length <= 8000000000000000000) :
  Calls Tryz.prog 127 #[v] w fun e w' => e = .returned (.int .i64 (vchecks r)) /\ w.Fr w' [] := by
 obtain ⟨a1, c1, rfl, _, _⟩ := h.rd.shape
 have H := Hz h; have Ho := Hz ho; have Hl := Hz hl; have HC := Hz hC; clear h ho hl hC
 go_enter Tryz.func127, Tryz.ntmps127
 go_wp2
 go_loopw [3] (fun i wr => ∃ j : Nat, i = .int .i64 j /\ j <= r.length /\ Hid (∀ (i : Nat) (a : V), i < j -> r[i]? = some a -> vcheck a = 0) /\ Hid (w.Fr wr [])) (fun i _ => (r.length - intOf i).toNat)
 case atStart => exact ⟨0, rfl, Nat.zero_le _, Hz (fun i a hi => by omega), Hz (World.Fr.refl w [])⟩
 case round =>
  obtain ⟨j, rfl, hj, HA, HF⟩ := hrel
  by_cases hlt : j < r.length
  ·obtain ⟨x, hx⟩ : ∃ x, r[j]? = some x := ⟨r[j], List.getElem?_eq_getElem (by omega)⟩
   obtain ⟨g, off, c, hv, hg, kx0, kx1, kx2, kx3⟩ := (H.out.fr HF.out (by simp)).at hx
   cases hv
   have hrI : (j : Int) < (r.length : Int) := by omega
   have hw1 : IntKind.i64.wrap ((j : Int) + 1) = (j : Int) + 1 := IntWalk.i64_in _ (by have := Hl.out; omega)
   have hc := fun w => HC.out x w (Ho.out x (List.mem_of_getElem? hx))
   have Hc := Hz hc; have Hx := Hz hx; clear hc hx
   go_wp2_with fail
   refine (Hc.out _).mono ?_
   rintro e w2 ⟨rfl, hf2⟩
   have HF2 := Hz (HF.out.trans hf2.fr (by simp)); clear hf2 kx0 kx1 kx2 kx3
   by_cases h0 : vcheck x = 0
   ·have H0 := Hz h0
    rw [h0]
    go_wp2
    go_roundw
    case rel => exact ⟨j + 1, by go_num, by omega, Hz (fun k a hk ha => by
     rcases Nat.lt_or_ge k j with h | h
     ·exact HA.out k a h ha
     ·obtain rfl : k = j := by omega
      rw [Hx.out] at ha
      cases ha; exact H0.out), HF2⟩
    case measure => simp [intOf]; omega
   ·have hres := vchecks_at r j HA.out Hx.out h0
    have h0b : (vcheck x == 0) = false := beq_eq_false_iff_ne.2 h0
    have Hres := Hz hres; clear hres h0
    generalize vcheck x = z at *
    go_wp2
    go_ret
    rw [Hres.out]
    exact ⟨rfl, HF2.out⟩
  ·have hres := vchecks_end r j HA.out (by omega)
   have hd : decide ((j : Int) < (r.length : Int)) = false := decide_eq_false (by omega)
   have hd2 : decide (j < r.length) = false := decide_eq_false hlt
   have Hres := Hz hres; clear hres HA hlt hj
   go_wp2
   go_ret
   rw [Hres.out]
   exact ⟨rfl, HF.out⟩
theorem rcheck16 {okv : V -> Prop} {cf : V -> V -> Int} (hK : RChkOk okv) (hC : RCmpOk okv cf) {w : World} {v : Value} {t : Tb} (h : RdTab w v t) (ho : ∀ r, r ∈ t.rows -> ∀ x, x ∈ r -> okv x) (hl1 : t.vars.length <= 8000000000000000000) (hl2 : t.rows.length <= 8000000000000000000) (hl3 : ∀ r, r ∈ t.rows -> r.length <= 8000000000000000000) :
  Calls Tryz.prog 132 #[v] w fun e w' => e = .returned (.int .i64 (tcheck cf t)) /\ w.Fr w' [] := by
 obtain ⟨va, vb, hs, rfl, hv, hr⟩ := h.ex
 obtain ⟨aa, ca, rfl, _, _⟩ := hv.rd.shape
 obtain ⟨ab, cb, rfl, _, _⟩ := hr.rd.shape
 have hlen := hr.len
 rw [hlen] at hr ⊢
 have Hv := Hz hv; have Hr := Hz hr; have Ho := Hz ho; have Hl1 := Hz hl1; have Hl2 := Hz hl2; have Hl3 := Hz hl3; have HK := Hz hK; have HC := Hz hC; have Hlen := Hz hlen; clear h hv hr ho hl1 hl2 hl3 hK hC hlen
 generalize hR : tcheck cf t = R
 have HR := Hz hR; clear hR
 have hp := heap_alloc_at w (.cells #[.slice aa t.vars.length ca, .slice ab t.rows.length cb] 34) _ rfl
 have hfr := (World.Fr.refl w []).alloc (.cells #[.slice aa t.vars.length ca, .slice ab t.rows.length cb] 34)
 go_enter Tryz.func132, Tryz.ntmps132
 go_upto_region 1 with (fail)
 generalize hW : World.alloc w _ = W at *
 clear hW
 obtain ⟨p0, p1, pf⟩ := two hp
 have Hp := Hz hp; have Hf := Hz hfr; clear hp hfr
 by_cases h8 : 8 < t.vars.length
 ·have hd8 : decide ((8 : Int) < (t.vars.length : Int)) = true := decide_eq_true (by omega)
  have hres : R = 30 := by rw [<- HR.out, tcheck, if_pos h8]
  subst hres
  clear h8
  go_wp2
  go_ret
  exact ⟨rfl, Hf.out⟩
 ·have hd8 : decide ((8 : Int) < (t.vars.length : Int)) = false := decide_eq_false (by omega)
  have H8 := Hz h8; clear h8
  go_wp2
  generalize w.heap.size = tb at *
  go_loopw [3] (fun i wr => ∃ m : Nat, i = .int .i64 ((m : Int) + 1) /\ (m = 0 ∨ m + 1 <= t.vars.length) /\ Hid (∀ (k : Nat) (a b : BA), k < m -> t.vars[k]? = some a -> t.vars[k + 1]? = some b -> ltS a b = true) /\ Hid (wr.heap[tb]? = some (.cells #[.slice aa t.vars.length ca, .slice ab t.rows.length cb] 34)) /\ Hid (w.Fr wr [])) (fun i _ => (t.vars.length + 1 - intOf i).toNat)
  case atStart => exact ⟨0, rfl, .inl rfl, Hz (fun k a b hk => by omega), Hp, Hf⟩
  case round =>
   obtain ⟨m, rfl, hm, HA, HP, HF⟩ := hrel
   clear p0 p1 pf Hp Hf
   obtain ⟨p0, p1, pf⟩ := two HP.out
   by_cases hlt : m + 1 < t.vars.length
   ·have hltI : (m : Int) + 1 < (t.vars.length : Int) := by omega
    obtain ⟨x, hx⟩ : ∃ x, t.vars[m]? = some x := ⟨t.vars[m], List.getElem?_eq_getElem (by omega)⟩
    obtain ⟨y, hy⟩ : ∃ y, t.vars[m + 1]? = some y := ⟨t.vars[m + 1], List.getElem?_eq_getElem (by omega)⟩
    have hr := Hv.out.fr HF.out (by simp)
    obtain ⟨g, off, c, hv, hg, kx⟩ := hr.at hx
    obtain ⟨g2, off2, c2, hv2, _, ky⟩ := hr.at hy
    cases hv; cases hv2
    have hs1 : IntKind.i64.wrap (m : Int) = (m : Int) := IntWalk.i64_in _ (by have := Hl1.out; omega)
    have hw1 : IntKind.i64.wrap ((m : Int) + 1 + 1) = ((m + 1 : Nat) : Int) + 1 := by rw [IntWalk.i64_in _ (by have := Hl1.out; omega)]; omega
    have hmI : (m : Int) < (t.vars.length : Int) := by omega
    have Hx := Hz hx; have Hy := Hz hy; clear hx hy hr
    go_wp2
    cases hxy : ltS x y with
    | true =>
     have hb : Op.bytesLess x.toList y.toList = true := hxy
     go_quiet (fail)
     go_wp2
     go_roundw
     case rel => exact ⟨m + 1, by go_num, by omega, Hz (fun k a b hk ha hb' => by
      rcases Nat.lt_or_ge k m with h | h
      ·exact HA.out k a b h ha hb'
      ·obtain rfl : k = m := by omega
       rw [Hx.out] at ha; rw [Hy.out] at hb'
       cases ha; cases hb'; exact hxy), HP, Hz (HF.out.of_drewN _)⟩
     case measure => simp [intOf]; omega
    | false =>
     have hb : Op.bytesLess x.toList y.toList = false := hxy
     have hres : risesB t.vars = false := risesB_false (fun h => by have := h m x y Hx.out Hy.out; rw [hxy] at this; cases this)
     have hres : R = 30 := by rw [<- HR.out, tcheck, if_neg H8.out, hres]; rfl
     subst hres
     clear hxy
     go_quiet (fail)
     go_wp2
     go_ret
     exact ⟨rfl, HF.out.of_drewN _⟩
   ·have hd : decide ((m : Int) + 1 < (t.vars.length : Int)) = false := decide_eq_false (by omega)
    have hres : risesB t.vars = true := risesB_true (fun k a b ha hb => by
     have := (List.getElem?_eq_some_iff.1 hb).1
     exact HA.out k a b (by omega) ha hb)
    have hres : R = rowsCheck cf t.vars.length none t.rows := by rw [<- HR.out, tcheck, if_neg H8.out, hres]; rfl
    subst hres
    clear HR hlt HA
    have Hp1 := HP; have Hf1 := HF
    clear HP HF
    go_wp2
    go_loopw [4] (fun i wr => ∃ j : Nat, i = .int .i64 j /\ j <= t.rows.length /\ Hid (∀ (i : Nat) (r : Row), i < j -> t.rows[i]? = some r -> Fine cf t.vars.length (prevOf none t.rows i) r) /\ Hid (wr.heap[tb]? = some (.cells #[.slice aa t.vars.length ca, .slice ab t.rows.length cb] 34)) /\ Hid (w.Fr wr [])) (fun i _ => (t.rows.length - intOf i).toNat)
    case atStart => exact ⟨0, rfl, Nat.zero_le _, Hz (fun i a hi => by omega), Hp1, Hf1⟩
    case round =>
     obtain ⟨j, rfl, hj, HA, HP, HF⟩ := hrel
     clear p0 p1 pf Hp1 Hf1
     obtain ⟨p0, p1, pf⟩ := two HP.out
     by_cases hlt : j < t.rows.length
     ·obtain ⟨x, hx⟩ : ∃ x, t.rows[j]? = some x := ⟨t.rows[j], List.getElem?_eq_getElem (by omega)⟩
      have hall := Hr.out.still HF.out
      obtain ⟨g, off, c, a, m1, hv, hg, kx, hrow⟩ := hall.at hx
      cases hv
      have hrI : (j : Int) < (t.rows.length : Int) := by omega
      have hw1 : IntKind.i64.wrap ((j : Int) + 1) = (j : Int) + 1 := IntWalk.i64_in _ (by have := Hl2.out; omega)
      have hxm := List.mem_of_getElem? hx
      have Hx := Hz hx; have Hxm := Hz hxm
      clear hxm
      by_cases hn : x.length = t.vars.length
      ·have hnb : ((x.length : Int) == (t.vars.length : Int)) = true := by rw [hn]; simp
       have hnc : ((x.length : Int) != (t.vars.length : Int)) = false := by rw [hn]; simp
       have hnd : (x.length == t.vars.length) = true := by rw [hn]; simp
       have hne : (x.length != t.vars.length) = false := by rw [hn]; simp
       have hrc : rowCheck t.vars.length x = vchecks x := if_pos hn
       have Hrc := Hz hrc; have Hn := Hz hn
       clear hrc hn hall hrow
       go_wp2
       go_quiet (fail)
       generalize hW : wr.drewN nq = w1 at *
       have hF1 : w.Fr w1 [] := by rw [<- hW]; exact HF.out.of_drewN _
       have hP1 : w1.heap[tb]? = some (.cells #[.slice aa t.vars.length ca, .slice (some ⟨g, off, none⟩) t.rows.length cb] 34 (0, 0)) := by rw [<- hW]; exact HP.out
       clear hW HF HP p0 p1 pf kx
       have hall := Hr.out.still hF1
       obtain ⟨g2, off2, c2, a2, m2, hv2, hg2, kx, hrow⟩ := hall.at hx
       cases hv2
       obtain ⟨p0, p1, pf⟩ := two hP1
       have hc := rvalues50 HK.out hrow (Ho.out x Hxm.out) (Hl3.out x Hxm.out)
       have Hc := Hz hc; have Hall := Hz hall; have Hrow := Hz hrow; have HP := Hz hP1; have HF := Hz hF1; clear hc hall hrow hP1 hF1 hx
       go_wp2_with fail
       refine Hc.out.mono ?_
       rintro e w2 ⟨rfl, hf2⟩
       have HP2 := Hz (hf2.heap HP.out (by simp))
       have HF2 := Hz (HF.out.trans hf2 (by simp))
       have Hrow2 := Hz (Hrow.out.fr hf2 (by simp))
       have Hall2 := Hz (Hall.out.still hf2); clear hf2 kx p0 p1 pf HP HF Hall Hrow Hc
       obtain ⟨p0, p1, pf⟩ := two HP2.out
       by_cases h0 : vchecks x = 0
       ·have H0 := Hz (Hrc.out.trans h0)
        rw [h0]
        clear h0
        cases j with
        | zero =>
         go_wp2
         go_roundw
         case rel => exact ⟨1, by go_num, by omega, Hz (fun k r hk hr => by
          obtain rfl : k = 0 := by omega
          rw [Hx.out] at hr
          cases hr
          exact ⟨H0.out, fun q hq => by cases hq⟩), HP2, HF2⟩
         case measure => simp [intOf]; omega
        | succ m1 =>
         obtain ⟨y, hy⟩ : ∃ y, t.rows[m1]? = some y := ⟨t.rows[m1], List.getElem?_eq_getElem (by omega)⟩
         obtain ⟨g3, off3, c3, ay, my, hvy, hgy, ky, hrowy⟩ := Hall2.out.at hy
         cases hvy
         obtain ⟨g4, off4, c4, ax, mx, hvx, hgx, kx, hrowx⟩ := Hall2.out.at Hx.out
         cases hvx
         have hym := List.mem_of_getElem? hy
         have hs1 : IntKind.i64.wrap (m1 : Int) = (m1 : Int) := IntWalk.i64_in _ (by have := Hl2.out; omega)
         have hmI : (m1 : Int) < (t.rows.length : Int) := by omega
         have hmJ : (m1 : Int) + 1 < (t.rows.length : Int) := by omega
         have hmK : (0 : Int) <= (m1 : Int) + 1 := by omega
         have hmL : m1 + 1 < t.rows.length := by omega
         have hw2 : IntKind.i64.wrap ((m1 : Int) + 1 + 1) = (m1 : Int) + 1 + 1 := IntWalk.i64_in _ (by have := Hl2.out; omega)
         have hpos : (0 : Int) < (m1 : Int) + 1 := by omega
         have hposb : decide ((0 : Int) < (m1 : Int) + 1) = true := decide_eq_true hpos
         have hc := fun w' (hd : w2.Fr w' []) => rrow51 HC.out (hrowy.fr hd (by simp)) (hrowx.fr hd (by simp)) (Ho.out y hym) (Ho.out x Hxm.out) (Hl3.out y hym)
         have Hc := Hz hc; have Hy := Hz hy; clear hc hy hrowy hrowx hym
         go_wp2
         go_still_tail 11, (by kernel_rfl)
         change wpList _ _ _ _ _ w2.drew
         go_wp2_with fail
         refine (Hc.out _ ((World.Fr.refl w2 []).drew)).mono ?_
         rintro e w3 ⟨rfl, hg3⟩
         have hf3 := hg3.fr; clear hg3
         have HP3 := Hz (hf3.heap (w := w2.drew) HP2.out (by simp))
         have HF3 := Hz (HF2.out.drew.trans hf3 (by simp)); clear hf3 kx ky p0 p1 pf HP2 HF2 Hc
         by_cases hup : rcmp cf y x < 0
         ·have hub : decide (0 <= rcmp cf y x) = false := decide_eq_false (by omega)
          have Hup := Hz hup; clear hup
          go_wp2
          go_roundw
          case rel => exact ⟨m1 + 1 + 1, by go_num, by omega, Hz (fun k r hk hr => by
           rcases Nat.lt_or_ge k (m1 + 1) with h | h
           ·exact HA.out k r h hr
           ·obtain rfl : k = m1 + 1 := by omega
            rw [Hx.out] at hr
            cases hr
            exact ⟨H0.out, fun q hq => by
             simp only [prevOf] at hq
             rw [Hy.out] at hq
             cases hq
             exact Hup.out⟩), HP3, HF3⟩
          case measure => simp [intOf]; omega
         ·have hres := rowsCheck_down t.rows m1 HA.out Hy.out Hx.out H0.out (by omega)
          have hub : decide (0 <= rcmp cf y x) = true := decide_eq_true (by omega)
          have Hres := Hz hres; clear hres hup
          go_wp2
          go_ret
          rw [Hres.out]
          exact ⟨rfl, HF3.out⟩
       ·have hres := rowsCheck_bad t.rows j HA.out Hx.out (by rw [Hrc.out]; exact h0)
        rw [Hrc.out] at hres
        have h0b : (vchecks x == 0) = false := beq_eq_false_iff_ne.2 h0
        have Hres := Hz hres; clear hres h0
        generalize vchecks x = z at *
        go_wp2
        go_ret
        rw [Hres.out]
        exact ⟨rfl, HF2.out⟩
      ·have hnb : ((x.length : Int) == (t.vars.length : Int)) = false := beq_eq_false_iff_ne.2 (by omega)
       have hnc : ((x.length : Int) != (t.vars.length : Int)) = true := by simp; omega
       have hnd : (x.length == t.vars.length) = false := beq_eq_false_iff_ne.2 hn
       have hne : (x.length != t.vars.length) = true := by simp; exact hn
       have hrc : rowCheck t.vars.length x = 1 := if_neg hn
       have hres := rowsCheck_bad t.rows j HA.out Hx.out (by rw [hrc]; decide)
       rw [hrc] at hres
       have Hres := Hz hres; clear hres hrc hn
       go_wp2
       go_quiet (fail)
       go_wp2
       go_ret
       rw [Hres.out]
       exact ⟨rfl, HF.out.of_drewN _⟩
     ·have hres := rowsCheck_end t.rows j HA.out (by omega)
      have hd : decide ((j : Int) < (t.rows.length : Int)) = false := decide_eq_false (by omega)
      have hd2 : decide (j < t.rows.length) = false := decide_eq_false hlt
      have Hres := Hz hres; clear hres HA hlt hj
      go_wp2
      go_ret
      rw [Hres.out]
      exact ⟨rfl, HF.out⟩
end
end Go.Proofs.YtbejmdlncnkaaaaGreat
