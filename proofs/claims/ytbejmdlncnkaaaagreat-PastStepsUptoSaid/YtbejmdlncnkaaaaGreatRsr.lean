/-
  The walks of the reference's Same and Has. The walks of the reference's Same of tables, Has. The statements' arguments, opened: names, rows, tables. The walk of the statement TableAsks (live's contract as a hypothesis; joined later).
-/
import Derived.Test.YtbejmdlncnkaaaaGreatEqs
import Derived.Test.YtbejmdlncnkaaaaGreatMad
import Derived.Test.YtbejmdlncnkaaaaGreatLow
import Derived.ProofKit
import Derived.OpenShut
import Derived.Deep.Slices
import Derived.Lib.SmallJoins
import Derived.SizedLaws
import Derived.Deep.RegionHeld3
set_option maxRecDepth 100000
set_option maxHeartbeats 16000000
set_option linter.unusedSimpArgs false
namespace Go.Proofs.YtbejmdlncnkaaaaGreat
section
open Go.RowKit
theorem rsame87 (x y : V) (w : World) : Calls Tryz.prog 129 #[vv x, vv y] w fun e w' => e = .returned (.bool (eqB x y)) /\ w.Gr w' := by
 have q3 : w.Gr ((w.alloc (.cells #[.int .i64 x.k, .int .i64 x.n, .int .i64 x.d, .string x.s] 83)).alloc (.cells #[.int .i64 y.k, .int .i64 y.n, .int .i64 y.d, .string y.s] 83)) := ((World.Gr.refl w).alloc _).alloc _
 have Q3 := Hz q3; clear q3
 by_cases hxy : x = y
 ·subst hxy
  have hbs : (x.s.toList == x.s.toList) = true := beq_self_eq_true _
  have hres : eqB x x = true := eqB_true rfl
  have Hres := Hz hres; clear hres
  generalize eqB x x = R at *
  go_enter Tryz.func129, Tryz.ntmps129
  go_wp2
  go_ret
  exact ⟨by rw [Hres.out]; rfl, Q3.out⟩
 ·have hres : eqB x y = false := eqB_false hxy
  have Hres := Hz hres; clear hres
  generalize eqB x y = R at *
  obtain ⟨x1, x2, x3, x4⟩ := x
  obtain ⟨y1, y2, y3, y4⟩ := y
  have hdiff := V.differ hxy
  simp only at hdiff
  clear hxy
  rcases hdiff with hb | ⟨rfl, hb⟩ | ⟨rfl, rfl, hb⟩ | ⟨rfl, rfl, rfl, hb⟩
  all_goals
   go_enter Tryz.func129, Tryz.ntmps129
   go_wp2
   go_ret
   exact ⟨by rw [Hres.out]; rfl, Q3.out⟩
theorem rsameVars52 {w : World} {v1 v2 : Value} {r s : List BA} (h1 : RdStr w v1 r) (h2 : RdStr w v2 s) (hl : r.length <= 8000000000000000000) :
  Calls Tryz.prog 63 #[v1, v2] w fun e w' => e = .returned (.bool (eqB r s)) /\ w.Fr w' [] := by
 obtain ⟨a1, c1, rfl, _, _⟩ := h1.rd.shape
 obtain ⟨a2, c2, rfl, _, _⟩ := h2.rd.shape
 have H1 := Hz h1; have H2 := Hz h2; have Hl := Hz hl; clear h1 h2 hl
 generalize hR : eqB r s = R
 have HR := Hz hR; clear hR
 by_cases hn : r.length = s.length
 ·have Hn := Hz hn
  rw [<- hn] at H2 ⊢
  clear hn
  have hbb : ((r.length : Int) != (r.length : Int)) = false := by simp
  go_enter Tryz.func63, Tryz.ntmps63
  go_wp2
  go_loopw [5] (fun i wr => ∃ j : Nat, i = .int .i64 j /\ j <= r.length /\ Hid (∀ (i : Nat) (a b : BA), i < j -> r[i]? = some a -> s[i]? = some b -> a = b) /\ Hid (w.Fr wr [])) (fun i _ => (r.length - intOf i).toNat)
  case atStart => exact ⟨0, rfl, Nat.zero_le _, Hz (fun i a b hi => by omega), Hz (World.Fr.refl w [])⟩
  case round =>
   obtain ⟨j, rfl, hj, HA, HF⟩ := hrel
   by_cases hlt : j < r.length
   ·obtain ⟨x, hx⟩ : ∃ x, r[j]? = some x := ⟨r[j], List.getElem?_eq_getElem (by omega)⟩
    obtain ⟨y, hy⟩ : ∃ y, s[j]? = some y := ⟨s[j]'(by have := Hn.out; omega), List.getElem?_eq_getElem (by have := Hn.out; omega)⟩
    obtain ⟨g, off, c, hv, hg, kx0⟩ := (H1.out.fr HF.out (by simp)).at hx
    have h2' := H2.out.fr HF.out (by simp)
    rw [Hn.out] at h2'
    obtain ⟨g2, off2, c2', hv2, hg2, ky0⟩ := h2'.at hy
    cases hv; cases hv2
    have hrI : (j : Int) < (r.length : Int) := by omega
    have hw1 : IntKind.i64.wrap ((j : Int) + 1) = (j : Int) + 1 := IntWalk.i64_in _ (by have := Hl.out; omega)
    have Hx := Hz hx; have Hy := Hz hy; clear hx hy h2'
    by_cases hxy : x = y
    ·subst hxy
     have hbs : (x.toList == x.toList) = true := beq_self_eq_true _
     have hbs2 : (x.toList != x.toList) = false := by simp
     go_wp2
     go_quiet (fail)
     go_wp2
     go_roundw
     case rel => exact ⟨j + 1, by go_num, by omega, Hz (fun k a b hk ha hb => by
      rcases Nat.lt_or_ge k j with h | h
      ·exact HA.out k a b h ha hb
      ·obtain rfl : k = j := by omega
       rw [Hx.out] at ha; rw [Hy.out] at hb
       cases ha; cases hb; rfl), Hz (HF.out.of_drewN _)⟩
     case measure => simp [intOf]; omega
    ·have hres : R = false := by
      rw [<- HR.out]
      exact eqB_false (fun h => hxy (by have := Hx.out; rw [h, Hy.out] at this; injection this with this; exact this.symm))
     subst hres
     have hb : (x.toList == y.toList) = false := beq_eq_false_iff_ne.2 (fun h => hxy (toList_inj h))
     have hb2 : (x.toList != y.toList) = true := by simp [bne, hb]
     clear hxy Hx Hy HR HA
     go_wp2
     go_quiet (fail)
     go_wp2
     go_ret
     exact ⟨rfl, HF.out.of_drewN _⟩
   ·have hres : R = true := by
     rw [<- HR.out]
     exact eqB_true (eq_of_get Hn.out (fun i a b ha hb => HA.out i a b (by have := (List.getElem?_eq_some_iff.1 ha).1; omega) ha hb))
    have hd : decide ((j : Int) < (r.length : Int)) = false := decide_eq_false (by omega)
    have hd2 : decide (j < r.length) = false := decide_eq_false hlt
    subst hres
    clear HA hlt hj HR
    go_wp2
    go_ret
    exact ⟨rfl, HF.out⟩
 ·have hres : R = false := by rw [<- HR.out]; exact eqB_false (fun h => hn (by rw [h]))
  subst hres
  have hbb : ((r.length : Int) == (s.length : Int)) = false := beq_eq_false_iff_ne.2 (by omega)
  have hbc : ((r.length : Int) != (s.length : Int)) = true := by simp; omega
  clear hn HR
  go_enter Tryz.func63, Tryz.ntmps63
  go_wp2
  go_ret
  exact ⟨rfl, World.Fr.refl w []⟩
theorem rsameRow53 {w : World} {v1 v2 : Value} {r s : Row} (h1 : RdRow w v1 r) (h2 : RdRow w v2 s) (hl : r.length <= 8000000000000000000) :
  Calls Tryz.prog 64 #[v1, v2] w fun e w' => e = .returned (.bool (eqB r s)) /\ w.Fr w' [] := by
 obtain ⟨a1, c1, rfl, _, _⟩ := h1.rd.shape
 obtain ⟨a2, c2, rfl, _, _⟩ := h2.rd.shape
 have H1 := Hz h1; have H2 := Hz h2; have Hl := Hz hl; clear h1 h2 hl
 generalize hR : eqB r s = R
 have HR := Hz hR; clear hR
 by_cases hn : r.length = s.length
 ·have Hn := Hz hn
  rw [<- hn] at H2 ⊢
  clear hn
  have hbb : ((r.length : Int) != (r.length : Int)) = false := by simp
  go_enter Tryz.func64, Tryz.ntmps64
  go_wp2
  go_loopw [5] (fun i wr => ∃ j : Nat, i = .int .i64 j /\ j <= r.length /\ Hid (∀ (i : Nat) (a b : V), i < j -> r[i]? = some a -> s[i]? = some b -> a = b) /\ Hid (w.Fr wr [])) (fun i _ => (r.length - intOf i).toNat)
  case atStart => exact ⟨0, rfl, Nat.zero_le _, Hz (fun i a b hi => by omega), Hz (World.Fr.refl w [])⟩
  case round =>
   obtain ⟨j, rfl, hj, HA, HF⟩ := hrel
   by_cases hlt : j < r.length
   ·obtain ⟨x, hx⟩ : ∃ x, r[j]? = some x := ⟨r[j], List.getElem?_eq_getElem (by omega)⟩
    obtain ⟨y, hy⟩ : ∃ y, s[j]? = some y := ⟨s[j]'(by have := Hn.out; omega), List.getElem?_eq_getElem (by have := Hn.out; omega)⟩
    obtain ⟨g, off, c, hv, hg, kx0, kx1, kx2, kx3⟩ := (H1.out.fr HF.out (by simp)).at hx
    have h2' := H2.out.fr HF.out (by simp)
    rw [Hn.out] at h2'
    obtain ⟨g2, off2, c2', hv2, hg2, ky0, ky1, ky2, ky3⟩ := h2'.at hy
    cases hv; cases hv2
    have hrI : (j : Int) < (r.length : Int) := by omega
    have hw1 : IntKind.i64.wrap ((j : Int) + 1) = (j : Int) + 1 := IntWalk.i64_in _ (by have := Hl.out; omega)
    have Hx := Hz hx; have Hy := Hz hy; clear hx hy h2'
    go_wp2
    go_still_tail 8, (by kernel_rfl)
    change wpList _ _ _ _ _ wr.drew
    go_wp2_with fail
    refine (rsame87 x y _).mono ?_
    rintro e w2 ⟨rfl, hf2⟩
    have HF2 := Hz (HF.out.drew.trans hf2.fr (by simp)); clear hf2 kx0 kx1 kx2 kx3 ky0 ky1 ky2 ky3
    by_cases hxy : x = y
    ·subst hxy
     rw [eqB_true rfl]
     go_wp2
     go_roundw
     case rel => exact ⟨j + 1, by go_num, by omega, Hz (fun k a b hk ha hb => by
      rcases Nat.lt_or_ge k j with h | h
      ·exact HA.out k a b h ha hb
      ·obtain rfl : k = j := by omega
       rw [Hx.out] at ha; rw [Hy.out] at hb
       cases ha; cases hb; rfl), HF2⟩
     case measure => simp [intOf]; omega
    ·have hres : R = false := by
      rw [<- HR.out]
      exact eqB_false (fun h => hxy (by have := Hx.out; rw [h, Hy.out] at this; injection this with this; exact this.symm))
     subst hres
     rw [eqB_false hxy]
     clear hxy Hx Hy HR HA
     go_wp2
     go_ret
     exact ⟨rfl, HF2.out⟩
   ·have hres : R = true := by
     rw [<- HR.out]
     exact eqB_true (eq_of_get Hn.out (fun i a b ha hb => HA.out i a b (by have := (List.getElem?_eq_some_iff.1 ha).1; omega) ha hb))
    have hd : decide ((j : Int) < (r.length : Int)) = false := decide_eq_false (by omega)
    have hd2 : decide (j < r.length) = false := decide_eq_false hlt
    subst hres
    clear HA hlt hj HR
    go_wp2
    go_ret
    exact ⟨rfl, HF.out⟩
 ·have hres : R = false := by rw [<- HR.out]; exact eqB_false (fun h => hn (by rw [h]))
  subst hres
  have hbb : ((r.length : Int) == (s.length : Int)) = false := beq_eq_false_iff_ne.2 (by omega)
  have hbc : ((r.length : Int) != (s.length : Int)) = true := by simp; omega
  clear hn HR
  go_enter Tryz.func64, Tryz.ntmps64
  go_wp2
  go_ret
  exact ⟨rfl, World.Fr.refl w []⟩
end
section
open Go.RowKit
theorem rsame17 {w : World} {v1 v2 : Value} {s t : Tb} (h1 : RdTab w v1 s) (h2 : RdTab w v2 t) (hs : Small s) :
  Calls Tryz.prog 19 #[v1, v2] w fun e w' => e = .returned (.bool (sameB s t)) /\ w.Fr w' [] := by
 obtain ⟨x1, y1, hs1, rfl, hv1, hr1⟩ := h1.ex
 obtain ⟨x2, y2, hs2, rfl, hv2, hr2⟩ := h2.ex
 obtain ⟨a1, c1, rfl, _, _⟩ := hv1.rd.shape
 obtain ⟨a2, c2, rfl, _, _⟩ := hv2.rd.shape
 obtain ⟨a3, c3, rfl, _, _⟩ := hr1.rd.shape
 obtain ⟨a4, c4, rfl, _, _⟩ := hr2.rd.shape
 have hl1 := hr1.len
 have hl2 := hr2.len
 rw [hl1] at hr1 ⊢
 rw [hl2] at hr2 ⊢
 have Hv1 := Hz hv1; have Hv2 := Hz hv2; have Hr1 := Hz hr1; have Hr2 := Hz hr2; have Hs := Hz hs; clear h1 h2 hv1 hv2 hr1 hr2 hs hl1 hl2
 generalize hR : sameB s t = R
 have HR := Hz hR; clear hR
 have q1 := heap_alloc_some (heap_alloc_at w (.cells #[.slice a1 s.vars.length c1, .slice a3 s.rows.length c3] 34) _ rfl) (.cells #[.slice a2 t.vars.length c2, .slice a4 t.rows.length c4] 34)
 have q2 : ((w.alloc (.cells #[.slice a1 s.vars.length c1, .slice a3 s.rows.length c3] 34)).alloc (.cells #[.slice a2 t.vars.length c2, .slice a4 t.rows.length c4] 34)).heap[w.heap.size + 1]? = some (.cells #[.slice a2 t.vars.length c2, .slice a4 t.rows.length c4] 34) := heap_alloc_at _ _ _ (by simp)
 have q3 := ((World.Fr.refl w []).alloc (.cells #[.slice a1 s.vars.length c1, .slice a3 s.rows.length c3] 34)).alloc (.cells #[.slice a2 t.vars.length c2, .slice a4 t.rows.length c4] 34)
 go_enter Tryz.func19, Tryz.ntmps19
 go_upto_region 1 with (fail)
 generalize hW : World.alloc (World.alloc w _) _ = W at *
 clear hW
 generalize w.heap.size = b1 at *
 obtain ⟨p0, p1, pf⟩ := two q1
 obtain ⟨r0, r1, rf⟩ := two q2
 have Q1 := Hz q1; have Q2 := Hz q2; have Q3 := Hz q3; clear q1 q2 q3
 have hc := rsameVars52 (Hv1.out.fr Q3.out (by simp)) (Hv2.out.fr Q3.out (by simp)) Hs.out.vars
 have Hc := Hz hc; clear hc
 go_wp2_with fail
 refine Hc.out.mono ?_
 rintro e w1 ⟨rfl, hf1⟩
 have q1 := hf1.heap Q1.out (by simp)
 have q2 := hf1.heap Q2.out (by simp)
 have q3 := Q3.out.trans hf1 (by simp)
 clear p0 p1 pf r0 r1 rf hf1 Q1 Q2 Q3 Hc
 obtain ⟨p0, p1, pf⟩ := two q1
 obtain ⟨r0, r1, rf⟩ := two q2
 have Q1 := Hz q1; have Q2 := Hz q2; have Q3 := Hz q3; clear q1 q2 q3
 cases he : eqB s.vars t.vars with
 | false =>
  have hres : R = false := by rw [<- HR.out, sameB, he]; rfl
  subst hres
  go_wp2
  go_ret
  exact ⟨rfl, Q3.out⟩
 | true =>
  have hres : R = eqB s.rows t.rows := by rw [<- HR.out, sameB, he]; rfl
  have HR2 := Hz hres
  clear hres he HR
  by_cases hn : s.rows.length = t.rows.length
  ·have Hn := Hz hn
   rw [<- hn] at Q2 r1 Hr2 ⊢
   clear hn
   have hbb : ((s.rows.length : Int) != (s.rows.length : Int)) = false := by simp
   go_wp2
   clear p0 p1 pf r0 r1 rf
   go_loopw [6] (fun i wr => ∃ j : Nat, i = .int .i64 j /\ j <= s.rows.length /\ Hid (∀ (i : Nat) (a b : Row), i < j -> s.rows[i]? = some a -> t.rows[i]? = some b -> a = b) /\ Hid (w1.Fr wr [])) (fun i _ => (s.rows.length - intOf i).toNat)
   case atStart => exact ⟨0, rfl, Nat.zero_le _, Hz (fun i a b hi => by omega), Hz (World.Fr.refl w1 [])⟩
   case round =>
    obtain ⟨j, rfl, hj, HA, HF⟩ := hrel
    obtain ⟨p0, p1, pf⟩ := two (HF.out.heap Q1.out (by simp))
    obtain ⟨r0, r1, rf⟩ := two (HF.out.heap Q2.out (by simp))
    have hfw := Q3.out.trans HF.out (by simp)
    by_cases hlt : j < s.rows.length
    ·obtain ⟨x, hx⟩ : ∃ x, s.rows[j]? = some x := ⟨s.rows[j], List.getElem?_eq_getElem (by omega)⟩
     obtain ⟨y, hy⟩ : ∃ y, t.rows[j]? = some y := ⟨t.rows[j]'(by have := Hn.out; omega), List.getElem?_eq_getElem (by have := Hn.out; omega)⟩
     obtain ⟨g, off, c, ax, mx, hv, hg, kx, hrx⟩ := (Hr1.out.still hfw).at hx
     have h2' := Hr2.out.still hfw
     rw [Hn.out] at h2'
     obtain ⟨g2, off2, c2', ay, my, hv2, hg2, ky, hry⟩ := h2'.at hy
     cases hv; cases hv2
     have hrI : (j : Int) < (s.rows.length : Int) := by omega
     have hw1 : IntKind.i64.wrap ((j : Int) + 1) = (j : Int) + 1 := IntWalk.i64_in _ (by have := Hs.out.rows; omega)
     have hc := fun w' (hf : wr.Fr w' []) => rsameRow53 (hrx.fr hf (by simp)) (hry.fr hf (by simp)) (Hs.out.row x (List.mem_of_getElem? hx))
     have Hc := Hz hc; have Hx := Hz hx; have Hy := Hz hy; clear hx hy h2' hc hrx hry hfw
     go_wp2
     go_still_tail 10, (by kernel_rfl)
     change wpList _ _ _ _ _ wr.drew
     go_wp2_with fail
     refine (Hc.out wr.drew (World.Fr.refl wr []).drew).mono ?_
     rintro e w2 ⟨rfl, hf2⟩
     have HF2 := Hz (HF.out.drew.trans hf2 (by simp)); clear hf2 kx ky Hc p0 p1 pf r0 r1 rf
     by_cases hxy : x = y
     ·subst hxy
      rw [eqB_true (rfl : x = x)]
      go_wp2
      go_roundw
      case rel => exact ⟨j + 1, by go_num, by omega, Hz (fun k a b hk ha hb => by
       rcases Nat.lt_or_ge k j with h | h
       ·exact HA.out k a b h ha hb
       ·obtain rfl : k = j := by omega
        rw [Hx.out] at ha; rw [Hy.out] at hb
        cases ha; cases hb; rfl), HF2⟩
      case measure => simp [intOf]; omega
     ·have hres : R = false := by
       rw [HR2.out]
       exact eqB_false (fun h => hxy (by have := Hx.out; rw [h, Hy.out] at this; injection this with this; exact this.symm))
      subst hres
      rw [eqB_false hxy]
      have hfin := Q3.out.trans HF2.out (by simp)
      have Hfin := Hz hfin
      clear hxy Hx Hy HR2 HA hfin
      go_wp2
      go_ret
      exact ⟨rfl, Hfin.out⟩
    ·have hres : R = true := by
      rw [HR2.out]
      exact eqB_true (eq_of_get Hn.out (fun i a b ha hb => HA.out i a b (by have := (List.getElem?_eq_some_iff.1 ha).1; omega) ha hb))
     have hd : decide ((j : Int) < (s.rows.length : Int)) = false := decide_eq_false (by omega)
     have hd2 : decide (j < s.rows.length) = false := decide_eq_false hlt
     subst hres
     have Hfin := Hz hfw
     clear HA hlt hj HR2 hfw
     go_wp2
     go_ret
     exact ⟨rfl, Hfin.out⟩
  ·have hres : R = false := by rw [HR2.out]; exact eqB_false (fun h => hn (by rw [h]))
   subst hres
   have hbb : ((s.rows.length : Int) == (t.rows.length : Int)) = false := beq_eq_false_iff_ne.2 (by omega)
   have hbc : ((s.rows.length : Int) != (t.rows.length : Int)) = true := by simp; omega
   clear hn HR2
   go_wp2
   go_ret
   exact ⟨rfl, Q3.out⟩
end
section
open Go.RowKit Go.ChangeShapes Go.WideShapes Go.ChangeAt Go.Joins
theorem cellsOf60 : Tryz.prog.cellsOf 83 = 4 := by kernel_rfl
theorem cellsOf9 : Tryz.prog.cellsOf 9 = 1 := by kernel_rfl
theorem cellsOf32 : Tryz.prog.cellsOf 81 = 1 := by kernel_rfl
theorem cellsOf3 : Tryz.prog.cellsOf 3 = 1 := by kernel_rfl
theorem cellsOf2 : Tryz.prog.cellsOf 2 = 1 := by kernel_rfl
theorem inI64_of {n : Int} (h : (Lit.int .i64 n).wf = true) : inI64 n := by
 simp only [Lit.wf, IntKind.min, IntKind.max, Bool.and_eq_true] at h
 unfold inI64
 simp [IntKind.bits, IntKind.signed] at h
 omega
section
variable {H : Type} {enc : TypeId × Value -> H} {w : World} {fuel : Nat} {x : DataW H × List MemPlace}
noncomputable abbrev tr (enc : TypeId × Value -> H) (w : World) (fuel : Nat) (t : TypeId) (cs : List Value) : Option (DataW H × List MemPlace) := DataW.trod enc Tryz.prog w 0 (fun _ => true) true fuel t cs
theorem open_v {cs : List Value} (h : tr enc w fuel 83 cs = some x) : ∃ v : V, cs = v.enc /\ v.wf := by
 obtain ⟨y0, y1, y2, y3, n, _, hl, h0, h1, h2, h3⟩ := trod_struct4 Tryz.underlying83 h
 rw [cellsOf60] at hl
 match cs, hl with
 | [c0, c1, c2, c3], _ =>
  obtain ⟨a, e0, _, w0⟩ := DataW.trod_int Tryz.underlying3 h0
  obtain ⟨b, e1, _, w1⟩ := DataW.trod_int Tryz.underlying2 h1
  obtain ⟨c, e2, _, w2⟩ := DataW.trod_int Tryz.underlying2 h2
  obtain ⟨d, e3, _, w3⟩ := DataW.trod_string Tryz.underlying9 h3
  simp only [cellsOf3, cellsOf2, cellsOf9, List.drop_zero, List.drop_succ_cons, List.take_succ_cons, List.take_zero, List.cons.injEq, and_true] at e0 e1 e2 e3
  exact ⟨⟨a, b, c, d⟩, by rw [e0, e1, e2, e3], ⟨inI64_of w0, inI64_of w1, inI64_of w2, by unfold maxLen at w3; exact w3⟩⟩
theorem spot_none {a : Addr} {v : Value} (h : w.cell? a = some v) : a.spot = none /\ a.block < w.heap.size := by
 unfold World.cell? at h
 split at h
 ·rename_i c e f hc
  split at h
  ·exact absurd h (by simp)
  ·rename_i hs
   exact ⟨by cases hq : a.spot with | none => rfl | some j => exact absurd (by rw [hq]; rfl) hs, by obtain ⟨hlt, _⟩ := Array.getElem?_eq_some_iff.1 hc; exact hlt⟩
 ·exact absurd h (by simp)
theorem mapM_getO {α β : Type} {f : α -> Option β} : ∀ {l : List α} {r : List β}, l.mapM f = some r -> ∀ (i : Nat) (a : α), l[i]? = some a -> f a = r[i]?
 | [], _, _, i, a, h => by simp at h
 | b :: l, r, h, i, a, hi => by
  rw [List.mapM_cons] at h
  obtain ⟨y, hy, h⟩ := Option.bind_eq_some_iff.1 h
  obtain ⟨ys, hys, h⟩ := Option.bind_eq_some_iff.1 h
  cases h
  cases i with
  | zero => simp only [List.getElem?_cons_zero, Option.some.injEq] at hi ⊢; subst hi; exact hy
  | succ i => simp only [List.getElem?_cons_succ] at hi ⊢; exact mapM_getO hys i a hi
theorem cells_atO {base : Nat} {a : Addr} {k : Nat} {cs : List Value} (h : w.cells? base a k = some cs) : ∀ j, j < k -> w.cell? (a.add j) = cs[j]? := by
 unfold World.cells? at h
 split at h
 ·exact fun j hj => mapM_getO h j j (by rw [List.getElem?_range hj])
 ·exact absurd h (by simp)
theorem flat_atO {α β : Type} {f : α -> List β} {size : Nat} (hs : 0 < size) (hf : ∀ a, (f a).length = size) : ∀ (l : List α) (k : Nat) (a : α), l[k / size]? = some a -> (l.flatMap f)[k]? = (f a)[k % size]?
 | [], k, a, h => by simp at h
 | b :: l, k, a, h => by
  rw [List.flatMap_cons]
  by_cases hk : k < size
  ·rw [Nat.div_eq_of_lt hk] at h
   simp only [List.getElem?_cons_zero, Option.some.injEq] at h
   subst h
   rw [List.getElem?_append_left (by rw [hf]; exact hk), Nat.mod_eq_of_lt hk]
  ·have hd : k / size = (k - size) / size + 1 := by
    conv => lhs; rw [show k = (k - size) + size by omega]
    rw [Nat.add_div_right _ hs]
   have hm : k % size = (k - size) % size := by
    conv => lhs; rw [show k = (k - size) + size by omega]
    rw [Nat.add_mod_right]
   rw [hd, List.getElem?_cons_succ] at h
   rw [List.getElem?_append_right (by rw [hf]; omega), hf, hm]
   exact flat_atO hs hf l (k - size) a h
theorem open_rd {α : Type} [Inhabited α] {t e : TypeId} {size : Nat} {v : Value} (ht : Tryz.prog.underlying t = some (.slice e)) (hc : Tryz.prog.cellsOf e = size) (hs : 0 < size) (f : α -> List Value) (hf : ∀ a, (f a).length = size) (p : α -> DataW H -> Prop)
  (he : ∀ (n : Nat) (cs : List Value) (y : DataW H × List MemPlace), tr enc w n e cs = some y -> ∃ a, cs = f a /\ p a y.1) (h : tr enc w fuel t [v] = some x) :
  ∃ (l : List α) (D : Nat -> DataW H), w.Rd size v l.length (l.flatMap f) /\ (l = [] ∨ ∃ rest, x.1 = .slice ((List.range l.length).map D) rest) /\ ∀ i a, l[i]? = some a -> p a (D i) := by
 rcases Deep.open_slice ht h with ⟨h0, rfl⟩ | ⟨a, len, cap, m, n, D, Pl, h0, _, hl, hm, hmm, rfl, hx⟩
 ·simp only [List.cons.injEq, and_true] at h0
  subst h0
  exact ⟨[], fun _ => .nil, ⟨by simp, .inl ⟨rfl, none, 0, rfl, Nat.zero_le _⟩⟩, .inl rfl, by simp⟩
 ·simp only [List.cons.injEq, and_true] at h0
  subst h0
  rw [if_pos rfl] at hmm
  subst hmm
  rw [hc] at hx
  have each : ∀ i, i < len -> ∃ q : α, w.cells? 0 (a.add (i * size)) size = some (f q) /\ p q (D i) := fun i hi => by
   obtain ⟨cs', h1, h2⟩ := hx i (by omega)
   obtain ⟨q, rfl, hq⟩ := he _ _ _ h2
   exact ⟨q, h1, hq⟩
  obtain ⟨q, hq⟩ := Deep.choose_lt each
  refine ⟨(List.range len).map q, D, ?_, .inr ⟨_, by rw [List.length_map, List.length_range]⟩, ?_⟩
  ·rw [List.length_map, List.length_range]
   refine ⟨?_, ?_⟩
   ·rw [List.length_flatMap, List.map_map]
    rw [show ((fun x => (f x).length) ∘ q) = fun _ => size from funext fun i => hf _, List.map_const', List.sum_replicate_nat, List.length_range]
   ·by_cases hz : len = 0
    ·subst hz
     exact .inl ⟨rfl, some a, m, rfl, hm⟩
    ·have hcell : ∀ i, i < len -> ∀ j, j < size -> w.cell? (a.add (i * size + j)) = (f (q i))[j]? := fun i hi j hj => by
      rw [<- Deep.add_add]
      exact cells_atO (hq i hi).1 j hj
     obtain ⟨sp, hb⟩ := spot_none (w := w) (a := a) (v := (f (q 0))[0]'(by rw [hf]; exact hs)) (by
      have := hcell 0 (by omega) 0 hs
      rw [List.getElem?_eq_getElem (by rw [hf]; exact hs)] at this
      simpa [Addr.add] using this)
     obtain ⟨g, off, spot⟩ := a
     simp only at sp hb
     subst sp
     refine .inr ⟨g, off, m, rfl, hl, hm, hb, fun k hk => ?_⟩
     have hi : k / size < len := Nat.div_lt_of_lt_mul (by rw [Nat.mul_comm]; exact hk)
     have := hcell (k / size) hi (k % size) (Nat.mod_lt _ hs)
     rw [Nat.mul_comm, Nat.div_add_mod] at this
     have hadd : (⟨g, off, none⟩ : Addr).add k = ⟨g, off + k, none⟩ := by unfold Addr.add; split <;> simp_all
     rw [hadd] at this
     rw [this, flat_atO hs hf _ k (q (k / size)) (by rw [List.getElem?_map, List.getElem?_range hi]; rfl)]
  ·intro i b hb
   rw [List.getElem?_map] at hb
   by_cases hi : i < len
   ·rw [List.getElem?_range hi] at hb
    simp only [Option.map_some, Option.some.injEq] at hb
    subst hb
    exact (hq i hi).2
   ·rw [List.getElem?_eq_none (by simpa using hi)] at hb
    simp at hb
local instance instInhO : Inhabited V := ⟨⟨0, 0, 0, .empty⟩⟩
theorem cellsOf22 : Tryz.prog.cellsOf 24 = 1 := by kernel_rfl
theorem cellsOf23 : Tryz.prog.cellsOf 32 = 1 := by kernel_rfl
theorem cellsOf25 : Tryz.prog.cellsOf 34 = 2 := by kernel_rfl
end
end
section
open Go.RowKit
theorem cellFrA {w w' : World} {b j : Nat} {v : Value} (h : w.Fr w' []) (hc : w.cell? ⟨b, j, none⟩ = some v) : w'.cell? ⟨b, j, none⟩ = some v := by
 rw [World.cell?_of_block (a := ⟨b, j, none⟩) (h.block b (spot_none hc).2 (by simp))]; exact hc
theorem undr {w w' : World} {L : List Nat} (h : w.Fr w'.drew L) : w.Fr w' L := ⟨h.os, h.tape, h.output, h.size, h.block⟩
end
end Go.Proofs.YtbejmdlncnkaaaaGreat
