/-
  The references of the past and of the future: intervals, what an operator is made of. The references of the past and of the future: Last, Wrong. The reference of the past: Make.
-/
import Derived.Test.YtbejmdlncnkaaaaGreatAlgA
import Derived.Test.YtbejmdlncnkaaaaGreatRmB
import Derived.Test.YtbejmdlncnkaaaaGreatPaA
import Derived.Test.YtbejmdlncnkaaaaGreatRvs
set_option maxRecDepth 100000
set_option maxHeartbeats 16000000
set_option linter.unusedSimpArgs false
namespace Go.Proofs.YtbejmdlncnkaaaaGreat
section
open Go.RowKit
theorem interval177 (i : Iv) (w : World) : Calls Tryz.prog 177 #[ivV i] w fun e w' => e = .returned (.bool (ivB i)) /\ w.Fr w' [] := by
 obtain ⟨lo, hi, op⟩ := i
 obtain ⟨R, hR⟩ : ∃ R, ivB ⟨lo, hi, op⟩ = R := ⟨_, rfl⟩
 rw [hR]
 unfold ivB at hR
 simp only at hR
 have hf := (World.Fr.refl w []).alloc (.cells #[.int .i64 lo, .int .i64 hi, .bool op] 23)
 have q := heap_alloc_at w (.cells #[.int .i64 lo, .int .i64 hi, .bool op] 23) _ rfl
 have HF := Hz hf
 obtain ⟨c0, c1, c2, cf⟩ := tri q
 clear hf q
 go_enter Tryz.func177, Tryz.ntmps177
 go_upto_region 1 with (fail)
 generalize hW : World.alloc w _ = W at *
 clear hW
 cases op with
 | true =>
  simp only [if_true] at hR
  cases h1 : decide (0 <= lo) with
  | false =>
   rw [h1] at hR
   simp only [Bool.false_and] at hR
   subst hR
   go_wp2
   go_ret
   exact ⟨rfl, HF.out⟩
  | true =>
   cases h2 : decide (lo <= 1099511627776) with
   | false =>
    rw [h1, h2] at hR
    simp only [Bool.true_and, Bool.false_and] at hR
    subst hR
    go_wp2
    go_ret
    exact ⟨rfl, HF.out⟩
   | true =>
    rw [h1, h2] at hR
    simp only [Bool.true_and] at hR
    subst hR
    go_wp2
    go_ret
    exact ⟨rfl, HF.out⟩
 | false =>
  simp only [Bool.false_eq_true, if_false] at hR
  cases h1 : decide (0 <= lo) with
  | false =>
   rw [h1] at hR
   simp only [Bool.false_and] at hR
   subst hR
   go_wp2
   go_ret
   exact ⟨rfl, HF.out⟩
  | true =>
   cases h2 : decide (lo <= hi) with
   | false =>
    rw [h1, h2] at hR
    simp only [Bool.true_and, Bool.false_and] at hR
    subst hR
    go_wp2
    go_ret
    exact ⟨rfl, HF.out⟩
   | true =>
    rw [h1, h2] at hR
    simp only [Bool.true_and] at hR
    subst hR
    go_wp2
    go_ret
    exact ⟨rfl, HF.out⟩
theorem in74 (n : Int) (i : Iv) (w : World) : Calls Tryz.prog 74 #[.int .i64 n, ivV i] w fun e w' => e = .returned (.bool (inB n i)) /\ w.Fr w' [] := by
 obtain ⟨lo, hi, op⟩ := i
 obtain ⟨R, hR⟩ : ∃ R, inB n ⟨lo, hi, op⟩ = R := ⟨_, rfl⟩
 rw [hR]
 unfold inB at hR
 simp only at hR
 have hf := (World.Fr.refl w []).alloc (.cells #[.int .i64 lo, .int .i64 hi, .bool op] 23)
 have q := heap_alloc_at w (.cells #[.int .i64 lo, .int .i64 hi, .bool op] 23) _ rfl
 have HF := Hz hf
 obtain ⟨c0, c1, c2, cf⟩ := tri q
 clear hf q
 go_enter Tryz.func74, Tryz.ntmps74
 go_upto_region 1 with (fail)
 generalize hW : World.alloc w _ = W at *
 clear hW
 cases h1 : decide (lo <= n) with
 | false =>
  rw [h1] at hR
  simp only [Bool.false_and] at hR
  subst hR
  go_wp2
  go_ret
  exact ⟨rfl, HF.out⟩
 | true =>
  rw [h1] at hR
  simp only [Bool.true_and] at hR
  cases op with
  | true =>
   simp only [Bool.true_or] at hR
   subst hR
   go_wp2
   go_ret
   exact ⟨rfl, HF.out⟩
  | false =>
   simp only [Bool.false_or] at hR
   subst hR
   go_wp2
   go_ret
   exact ⟨rfl, HF.out⟩
structure RCtx (cf : V -> V -> Int) : Prop where
 rk : RChkOk V.wf
 rc : RCmpOk V.wf cf
 ord : OrdOk (fun v => V.wf v /\ vcheck v = 0) cf
abbrev rcells10 (kind : Int) (i : Iv) (nt : Bool) (vl vr vt vL vR : Value) : Array Value := #[.int .i64 kind, .int .i64 i.lo, .int .i64 i.hi, .bool i.op, .bool nt, vl, vr, vt, vL, vR]
structure NamesIn (Q : Nat -> Prop) (w : World) (v : Value) (l : List BA) : Prop where
 sl : w.Sl 9 1 v l.length (l.map Value.string)
 wf : ∀ s, s ∈ l -> s.size <= 9223372036854775807
 blk : ∀ k, k ∈ v.blk -> Q k
theorem NamesIn.still {Q : Nat -> Prop} {w w' : World} {v : Value} {l : List BA} (h : NamesIn Q w v l) (hf : w.Fr w' []) : NamesIn Q w' v l := ⟨h.sl.fr hf (by simp), h.wf, h.blk⟩
theorem NamesIn.rd {Q : Nat -> Prop} {w : World} {v : Value} {l : List BA} (h : NamesIn Q w v l) : RdStr w v l := ⟨h.sl.rd, h.wf⟩
theorem NamesIn.imp {Q R : Nat -> Prop} {w : World} {v : Value} {l : List BA} (h : NamesIn Q w v l) (hq : ∀ k, k < w.heap.size -> Q k -> R k) : NamesIn R w v l := ⟨h.sl, h.wf, fun k hk => hq k (h.sl.lt k hk) (h.blk k hk)⟩
theorem NamesIn.off {Q : Nat -> Prop} {w w' : World} {v : Value} {l : List BA} {M : List Nat} (h : NamesIn Q w v l) (hf : w.Fr w' M) (hM : ∀ k, k ∈ M -> ¬ Q k) : NamesIn Q w' v l := ⟨h.sl.fr hf (fun k hk hm => hM k hm (h.blk k hk)), h.wf, h.blk⟩
end
section
open Go.RowKit
def lastI (TS : List Int) : Int := (TS.getLast?).getD (-1)
theorem lastI_push (TS : List Int) (n : Int) : lastI (TS ++ [n]) = n := by simp [lastI]
theorem lastI_at {TS : List Int} {t : Int} (h : TS[TS.length - 1]? = some t) : lastI TS = t := by
 unfold lastI
 rw [List.getLast?_eq_getElem?, h]
 rfl
abbrev tms (TS : List Int) : List Value := TS.map (Value.int .i64)
theorem tms_at {wr : World} {vt : Value} {TS : List Int} (h : wr.Sl 2 1 vt TS.length (tms TS)) {i : Nat} {t : Int} (hi : TS[i]? = some t) : ∃ g off c, vt = .slice (some ⟨g, off, none⟩) TS.length c /\ g < wr.heap.size /\ wr.cell? ⟨g, off + i, none⟩ = some (.int .i64 t) := by
 have hl := (List.getElem?_eq_some_iff.1 hi).1
 obtain ⟨g, off, c, he, _, _, hg, hc, _⟩ := h.form (by omega)
 have := hc i (by omega)
 rw [List.getElem?_map, hi] at this
 exact ⟨g, off, c, he, hg, by simpa using this⟩
theorem last73 {w : World} {v : Value} {TS : List Int} (h : w.Sl 2 1 v TS.length (tms TS)) (hm : TS.length <= 1000) : Calls Tryz.prog 73 #[v] w fun e w' => e = .returned (.int .i64 (lastI TS)) /\ w = w' := by
 obtain ⟨R, hR⟩ : ∃ R, lastI TS = R := ⟨_, rfl⟩
 rw [hR]
 obtain ⟨a1, a2, rfl, _, _⟩ := h.shape
 obtain ⟨N, hN⟩ : ∃ N, TS.length = N := ⟨_, rfl⟩
 by_cases h0 : N = 0
 ·subst h0
  have : TS = [] := List.eq_nil_of_length_eq_zero hN
  subst this
  have hres : R = -1 := by rw [<- hR]; rfl
  subst hres
  clear h hR hm hN
  simp only [List.length_nil]
  go_enter Tryz.func73, Tryz.ntmps73
  go_wp2
  go_ret
  exact ⟨rfl, rfl⟩
 ·obtain ⟨t, ht⟩ : ∃ t, TS[TS.length - 1]? = some t := ⟨TS[TS.length - 1]'(by omega), List.getElem?_eq_getElem _⟩
  have hres : R = t := by rw [<- hR]; exact lastI_at ht
  subst hres
  obtain ⟨g, off, c, he, hg, hc⟩ := tms_at h ht
  cases he
  rw [hN] at hc ⊢
  have hb : ((N : Int) == 0) = false := by simp; omega
  have hb2 : (N == 0) = false := by simp; omega
  obtain ⟨M, hM⟩ : ∃ M, N - 1 = M := ⟨_, rfl⟩
  rw [hM] at hc
  have hw : IntKind.i64.wrap ((N : Int) - 1) = (M : Int) := by rw [IntWalk.i64_in _ (by omega)]; omega
  have h1 : (M : Int) < (N : Int) := by omega
  have h2 : (0 : Int) <= (M : Int) := by omega
  clear h hR hm ht hM hN h0
  go_enter Tryz.func73, Tryz.ntmps73
  go_wp2
  go_ret
  exact ⟨rfl, rfl⟩
structure RdNs (w : World) (v : Value) (vs : List (List BA)) : Prop where
 ex : ∃ hs : List Value, hs.length = vs.length /\ w.Rd 1 v vs.length hs /\ ∀ (i : Nat) (h : Value) (l : List BA), hs[i]? = some h -> vs[i]? = some l -> RdStr w h l
theorem RdNs.still {w w' : World} {v : Value} {vs : List (List BA)} (h : RdNs w v vs) (hf : w.Fr w' []) : RdNs w' v vs := by
 obtain ⟨hs, h1, h2, h3⟩ := h.ex
 exact ⟨hs, h1, h2.fr hf (by simp), fun i x l e1 e2 => (h3 i x l e1 e2).fr hf (by simp)⟩
theorem RdNs.shape {w : World} {v : Value} {vs : List (List BA)} (h : RdNs w v vs) : ∃ a c, v = .slice a vs.length c := by
 obtain ⟨hs, h1, h2, h3⟩ := h.ex
 obtain ⟨a, c, e, _⟩ := h2.shape
 exact ⟨a, c, e⟩
theorem RdNs.at {w : World} {v : Value} {vs : List (List BA)} (h : RdNs w v vs) {j : Nat} {l : List BA} (hj : vs[j]? = some l) : ∃ g off c a m, v = .slice (some ⟨g, off, none⟩) vs.length c /\ g < w.heap.size /\ w.cell? ⟨g, off + j, none⟩ = some (.slice a l.length m) /\ RdStr w (.slice a l.length m) l := by
 obtain ⟨hs, h1, h2, h3⟩ := h.ex
 have hl := (List.getElem?_eq_some_iff.1 hj).1
 obtain ⟨x, hx⟩ : ∃ x, hs[j]? = some x := ⟨hs[j]'(by omega), List.getElem?_eq_getElem _⟩
 have hr := h3 j x l hx hj
 obtain ⟨a, m, rfl, _, _⟩ := hr.rd.shape
 obtain ⟨g, off, c, he, _, _, hg, hc⟩ := h2.form (by omega)
 have := hc j (by omega)
 rw [hx] at this
 exact ⟨g, off, c, a, m, he, hg, this, hr⟩
open Classical in
noncomputable def rwrong (cf : V -> V -> Int) (last n : Int) (ts : List Tb) (vs : List (List BA)) : Int :=
 if n < 0 ∨ 1099511627776 < n ∨ n < last then 80
 else if ts.length ≠ vs.length then 1
 else if firstBad cf ts ≠ 0 then firstBad cf ts
 else if ∃ (i : Nat) (t : Tb) (v : List BA), ts[i]? = some t /\ vs[i]? = some v /\ t.vars ≠ v then 30 else 0
theorem take_eq_step {α : Type} {l m : List α} {k : Nat} {x : α} (h : l.take k = m.take k) (h1 : l[k]? = some x) (h2 : m[k]? = some x) : l.take (k + 1) = m.take (k + 1) := by
 have a1 := (List.getElem?_eq_some_iff.1 h1).1
 have a2 := (List.getElem?_eq_some_iff.1 h2).1
 rw [List.take_succ_eq_append_getElem a1, List.take_succ_eq_append_getElem a2, h, (List.getElem?_eq_some_iff.1 h1).2, (List.getElem?_eq_some_iff.1 h2).2]
theorem wrong72 {cf : V -> V -> Int} (hRC : RCtx cf) {w : World} {v vv : Value} {ts : List Tb} {vs : List (List BA)} {last n : Int} (ht : RdTabs w v ts) (hv : RdNs w vv vs) (hts : ts.length <= 8796093021952) (hvs : vs.length <= 1000) (h8 : ∀ l, l ∈ vs -> l.length <= 8) (hf : ∀ t, t ∈ ts -> Fits V.wf t) :
  Calls Tryz.prog 72 #[.int .i64 last, .int .i64 n, v, vv] w fun e w' => e = .returned (.int .i64 (rwrong cf last n ts vs)) /\ w.Fr w' [] := by
 obtain ⟨v1, v2, rfl⟩ := ht.shape
 obtain ⟨u1, u2, rfl⟩ := hv.shape
 obtain ⟨R, hR⟩ : ∃ R, rwrong cf last n ts vs = R := ⟨_, rfl⟩
 rw [hR]
 unfold rwrong at hR
 have HT := Hz ht; have HV := Hz hv; have HK := Hz hRC; have HF := Hz hf; have HR := Hz hR; have Hts := Hz hts; have Hvs := Hz hvs; have H8 := Hz h8
 clear ht hv hRC hf hR hts hvs h8
 go_enter Tryz.func72, Tryz.ntmps72
 cases h1 : decide (n < 0) with
 | true =>
  have hres : R = 80 := by rw [<- HR.out, if_pos (.inl (of_decide_eq_true h1))]
  subst hres
  clear HR
  go_wp2
  go_ret
  exact ⟨rfl, World.Fr.refl w []⟩
 | false =>
 cases h2 : decide (1099511627776 < n) with
 | true =>
  have hres : R = 80 := by rw [<- HR.out, if_pos (.inr (.inl (of_decide_eq_true h2)))]
  subst hres
  clear HR
  go_wp2
  go_ret
  exact ⟨rfl, World.Fr.refl w []⟩
 | false =>
 cases h3 : decide (n < last) with
 | true =>
  have hres : R = 80 := by rw [<- HR.out, if_pos (.inr (.inr (of_decide_eq_true h3)))]
  subst hres
  clear HR
  go_wp2
  go_ret
  exact ⟨rfl, World.Fr.refl w []⟩
 | false =>
 have hR := HR.out
 rw [if_neg (fun h => h.elim (fun h => of_decide_eq_false h1 h) (fun h => h.elim (fun h => of_decide_eq_false h2 h) (fun h => of_decide_eq_false h3 h)))] at hR
 clear HR
 obtain ⟨N, hN⟩ : ∃ N, ts.length = N := ⟨_, rfl⟩
 obtain ⟨M, hM⟩ : ∃ M, vs.length = M := ⟨_, rfl⟩
 rw [hN, hM] at hR ⊢
 have HN := Hz hN; have HM := Hz hM
 clear hN hM
 by_cases h4 : N = M
 ·rw [if_neg (fun h => h h4)] at hR
  have h5 : ((N : Int) != (M : Int)) = false := by simp [h4]
  have HR := Hz hR
  have H4 := Hz h4
  clear hR h4
  have HB0 : Hid (firstBad cf (ts.take 0) = 0) := Hz rfl
  go_wp2
  have HFr := Hz (World.Fr.refl w [])
  go_loopw [33] (fun i wr => ∃ j : Nat, i = .int .i64 j /\ j <= N /\ Hid (firstBad cf (ts.take j) = 0) /\ Hid (w.Fr wr [])) (fun i _ => (N - intOf i).toNat)
  case atStart => exact ⟨0, rfl, Nat.zero_le _, HB0, HFr⟩
  case round =>
   obtain ⟨j, rfl, hj, HB, HW⟩ := hrel
   clear HB0 HFr
   by_cases hlt : j < N
   ·obtain ⟨t, ht⟩ : ∃ t, ts[j]? = some t := ⟨ts[j]'(by have := HN.out; omega), List.getElem?_eq_getElem _⟩
    obtain ⟨g, off, c, x1, x2, x3, x4, hv, hg, k1, k2, hrd⟩ := (HT.out.still HW.out).at ht
    rw [HN.out] at hv
    cases hv
    have hjI : (j : Int) < (N : Int) := by omega
    have hw1 : IntKind.i64.wrap ((j : Int) + 1) = (j : Int) + 1 := IntWalk.i64_in _ (by have := Hts.out; have := HN.out; omega)
    have hnn : (0 : Int) <= (j : Int) := by omega
    have hfit := HF.out t (List.mem_of_getElem? ht)
    have hc := rcheck16 (cf := cf) HK.out.rk HK.out.rc (hrd.still ((World.Fr.refl wr []).alloc (.cells #[.slice x1 t.vars.length x2, .slice x3 t.rows.length x4] 34))) hfit.ok hfit.small.vars hfit.small.rows hfit.small.row
    have q8 := heap_alloc_at wr (.cells #[.slice x1 t.vars.length x2, .slice x3 t.rows.length x4] 34) _ rfl
    have HW := Hz (HW.out.trans ((World.Fr.refl wr []).alloc (.cells #[.slice x1 t.vars.length x2, .slice x3 t.rows.length x4] 34)) (by simp))
    have Hc := Hz hc; have Ht := Hz ht
    clear hc ht hrd hfit
    go_upto_region 8 with (fail)
    generalize hWW : World.alloc wr _ = w8 at *
    clear hWW
    generalize wr.heap.size = p8 at *
    obtain ⟨m0, m1, mf⟩ := two q8
    have hz8 := lt_of_heap q8
    clear q8 k1 k2 hg
    go_wp2_with fail
    (with_reducible refine Hc.out.mono ?_)
    rintro e w9 ⟨rfl, fx⟩
    have HW := Hz (HW.out.trans fx (by simp))
    clear fx m0 m1 mf hz8 Hc
    by_cases h0 : tcheck cf t = 0
    ·have h0b : (tcheck cf t != 0) = false := by simp [h0]
     have HB2 := Hz ((firstBad_step Ht.out HB.out).trans h0)
     clear h0
     go_wp2
     go_roundw
     case rel => exact ⟨j + 1, by go_num, by omega, HB2, HW⟩
     case measure => simp [intOf]; omega
    ·have h0b : (tcheck cf t != 0) = true := by simp [h0]
     have hb := firstBad_found Ht.out HB.out h0
     have hres : R = tcheck cf t := by rw [<- HR.out, if_pos (by rw [hb]; exact h0), hb]
     subst hres
     clear HR h0 hb
     go_wp2
     go_ret
     exact ⟨rfl, HW.out⟩
   ·have hd : decide ((j : Int) < (N : Int)) = false := decide_eq_false (by omega)
    have hd2 : decide (j < N) = false := decide_eq_false hlt
    obtain rfl : j = N := by omega
    have hb := HB.out
    rw [List.take_of_length_le (by rw [HN.out]; exact Nat.le_refl _)] at hb
    have hR := HR.out
    rw [if_neg (fun h => h hb)] at hR
    have HR2 := Hz hR
    clear HB HR hb hR hj hlt
    have HE0 : Hid (∀ (i : Nat) (t : Tb) (v : List BA), i < 0 -> ts[i]? = some t -> vs[i]? = some v -> t.vars = v) := Hz (fun i _ _ h => by omega)
    go_wp2
    go_loopw [45] (fun i wr => ∃ j2 : Nat, i = .int .i64 j2 /\ j2 <= j /\ Hid (∀ (i : Nat) (t : Tb) (v : List BA), i < j2 -> ts[i]? = some t -> vs[i]? = some v -> t.vars = v) /\ Hid (w.Fr wr [])) (fun i _ => (j - intOf i).toNat)
    case atStart => exact ⟨0, rfl, Nat.zero_le _, HE0, HW⟩
    case round =>
     obtain ⟨k, rfl, hk, HE, HW⟩ := hrel
     clear HE0 hd hd2
     by_cases hlt : k < j
     ·obtain ⟨t, ht⟩ : ∃ t, ts[k]? = some t := ⟨ts[k]'(by have := HN.out; omega), List.getElem?_eq_getElem _⟩
      obtain ⟨l, hl⟩ : ∃ l, vs[k]? = some l := ⟨vs[k]'(by have := HM.out; have := H4.out; omega), List.getElem?_eq_getElem _⟩
      obtain ⟨g, off, c, x1, x2, x3, x4, hv, hg, k1, k2, hrd⟩ := (HT.out.still HW.out).at ht
      rw [HN.out] at hv
      cases hv
      obtain ⟨g2, off2, c2, y1, y2, hv2, hg2, l1, hls⟩ := (HV.out.still HW.out).at hl
      rw [HM.out] at hv2
      cases hv2
      have hvr : RdStr wr (.slice x1 t.vars.length x2) t.vars := by
       obtain ⟨va, vb, hs, he, hv, _⟩ := hrd.ex
       cases he
       exact hv
      have hjI : (k : Int) < (j : Int) := by omega
      have hkM : (k : Int) < (M : Int) := by have := H4.out; omega
      have hw1 : IntKind.i64.wrap ((k : Int) + 1) = (k : Int) + 1 := IntWalk.i64_in _ (by have := Hts.out; have := HN.out; omega)
      have hnn : (0 : Int) <= (k : Int) := by omega
      have hl8 := H8.out l (List.mem_of_getElem? hl)
      have Ht := Hz ht; have Hl := Hz hl
      clear ht hl hrd
      obtain ⟨NT, hNT⟩ : ∃ n, t.vars.length = n := ⟨_, rfl⟩
      obtain ⟨NL, hNL⟩ : ∃ n, l.length = n := ⟨_, rfl⟩
      rw [hNL] at l1 hl8 hls
      rw [hNT] at k1 hvr
      have HNT := Hz hNT; have HNL := Hz hNL; have HL8 := Hz hl8
      clear hNL hNT hl8
      have hal := (World.Fr.refl wr []).alloc (.cells #[.slice x1 NT x2, .slice x3 t.rows.length x4] 34)
      have q8 := heap_alloc_at wr (.cells #[.slice x1 NT x2, .slice x3 t.rows.length x4] 34) _ rfl
      have HW := Hz (HW.out.trans hal (by simp))
      have l1 := cellFr hal l1 (by simp)
      have hg2 := Nat.lt_of_lt_of_le hg2 hal.size
      have Hls := Hz (hls.fr hal (by simp)); have Hvr := Hz (hvr.fr hal (by simp))
      have HG2 := Hz hg2
      clear hal hls hvr
      go_upto_region 15 with (fail)
      generalize hWW : World.alloc wr _ = w8 at *
      clear hWW
      generalize wr.heap.size = p8 at *
      obtain ⟨m0, m1, mf⟩ := two q8
      have hz8 := lt_of_heap q8
      have Q8 := Hz q8
      have HL1 := Hz l1
      clear q8 k1 k2 hg
      by_cases hne : NT = NL
      ·have hb : ((NT : Int) != (NL : Int)) = false := by simp [hne]
       have HNE := Hz hne
       clear hne
       go_quiet (fail)
       have HF0 := Hz ((World.Fr.refl w8 []))
       have HT0 : Hid (t.vars.take 0 = l.take 0) := Hz rfl
       generalize hWq : World.drewN w8 _ = w8q
       have HFq : Hid (w8.Fr w8q []) := Hz (by rw [<- hWq]; exact (World.Fr.refl w8 []).of_drewN _)
       clear hWq HF0 m0 m1 mf hz8
       obtain ⟨m0, m1, mf⟩ := two (HFq.out.heap Q8.out (by simp))
       have hz8 := lt_of_heap (HFq.out.heap Q8.out (by simp))
       have l1 := cellFr HFq.out l1 (by simp)
       have hg2 := Nat.lt_of_lt_of_le HG2.out HFq.out.size
       go_wp2
       go_loopw [62] (fun i wr => ∃ q : Nat, i = .int .i64 q /\ q <= NT /\ Hid (t.vars.take q = l.take q) /\ Hid (w8.Fr wr [])) (fun i _ => (NT - intOf i).toNat)
       case atStart => exact ⟨0, rfl, Nat.zero_le _, HT0, HFq⟩
       case round =>
        obtain ⟨q, rfl, hq, HTq, HF⟩ := hrel
        clear HT0 HFq m0 m1 mf hz8 l1 hg2
        obtain ⟨m0, m1, mf⟩ := two (HF.out.heap Q8.out (by simp))
        have hz8 := lt_of_heap (HF.out.heap Q8.out (by simp))
        have l1 := cellFr HF.out HL1.out (by simp)
        have hg2 := Nat.lt_of_lt_of_le HG2.out HF.out.size
        by_cases hqn : q < NT
        ·obtain ⟨x, hx⟩ : ∃ x, t.vars[q]? = some x := ⟨t.vars[q]'(by have := HNT.out; omega), List.getElem?_eq_getElem _⟩
         obtain ⟨y, hy⟩ : ∃ y, l[q]? = some y := ⟨l[q]'(by have := HNL.out; have := HNE.out; omega), List.getElem?_eq_getElem _⟩
         have hvr := Hvr.out.fr HF.out (by simp)
         have hls := Hls.out.fr HF.out (by simp)
         rw [<- HNT.out] at hvr
         rw [<- HNL.out] at hls
         obtain ⟨g5, off5, c5, hv5, hg5, kx⟩ := hvr.at hx
         obtain ⟨g6, off6, c6, hv6, hg6, ky⟩ := hls.at hy
         rw [HNT.out] at hv5
         rw [HNL.out] at hv6
         cases hv5
         cases hv6
         clear hvr hls
         have hqI : (q : Int) < (NT : Int) := by omega
         have hqL : (q : Int) < (NL : Int) := by have := HNE.out; omega
         have hwq : IntKind.i64.wrap ((q : Int) + 1) = (q : Int) + 1 := IntWalk.i64_in _ (by have := HNE.out; have := HL8.out; omega)
         have hqn0 : (0 : Int) <= (q : Int) := by omega
         have Hx := Hz hx; have Hy := Hz hy
         clear hx hy
         cases hxy : (x.toList == y.toList) with
         | true =>
          have hxe : x = y := toList_inj (by simpa using hxy)
          have hxy2 : (x.toList != y.toList) = false := by simp [bne, hxy]
          have HT2 : Hid (t.vars.take (q + 1) = l.take (q + 1)) := Hz (take_eq_step HTq.out Hx.out (by rw [hxe]; exact Hy.out))
          clear HTq hxe
          go_wp2_with fail
          go_quiet (fail)
          go_wp2
          go_roundw
          case rel => exact ⟨q + 1, by go_num, by omega, HT2, Hz (HF.out.of_drewN _)⟩
          case measure => simp [intOf]; omega
         | false =>
          have hxy2 : (x.toList != y.toList) = true := by simp [bne, hxy]
          have hres : R = 30 := by
           rw [<- HR2.out, if_pos]
           refine ⟨k, t, l, Ht.out, Hl.out, fun he => ?_⟩
           have h1 := Hx.out
           rw [he, Hy.out] at h1
           cases h1
           simp at hxy
          subst hres
          clear HR2 HTq
          go_wp2_with fail
          go_quiet (fail)
          go_wp2
          go_ret
          exact ⟨rfl, (HW.out.trans HF.out (by simp)).of_drewN _⟩
        ·have hdq : decide ((q : Int) < (NT : Int)) = false := decide_eq_false (by omega)
         have hdq2 : decide (q < NT) = false := decide_eq_false hqn
         have htq := HTq.out
         rw [List.take_of_length_le (by have := HNT.out; omega), List.take_of_length_le (by have := HNL.out; have := HNE.out; omega)] at htq
         have HE2 : Hid (∀ (i : Nat) (t : Tb) (v : List BA), i < k + 1 -> ts[i]? = some t -> vs[i]? = some v -> t.vars = v) := Hz fun i t' v' hi h1 h2 => by
          rcases Nat.lt_or_ge i k with h | h
          ·exact HE.out i t' v' h h1 h2
          ·obtain rfl : i = k := by omega
           rw [Ht.out] at h1
           rw [Hl.out] at h2
           cases h1
           cases h2
           exact htq
         have HW2 := Hz (HW.out.trans HF.out (by simp))
         clear HTq htq HE
         go_wp2
         go_roundw
         case rel => exact ⟨k + 1, by go_num, by omega, HE2, HW2⟩
         case measure => simp [intOf]; omega
      ·have hb : ((NT : Int) != (NL : Int)) = true := by simp; omega
       have hres : R = 30 := by
        rw [<- HR2.out, if_pos]
        refine ⟨k, t, l, Ht.out, Hl.out, fun he => hne ?_⟩
        rw [<- HNT.out, <- HNL.out, he]
       subst hres
       clear HR2 hne
       go_quiet (fail)
       go_wp2
       go_ret
       exact ⟨rfl, HW.out.of_drewN _⟩
     ·have hd : decide ((k : Int) < (j : Int)) = false := decide_eq_false (by omega)
      have hd2 : decide (k < j) = false := decide_eq_false hlt
      have hres : R = 0 := by
       rw [<- HR2.out, if_neg]
       rintro ⟨i, t, v, h1, h2, h3⟩
       have hi := (List.getElem?_eq_some_iff.1 h1).1
       exact h3 (HE.out i t v (by have := HN.out; omega) h1 h2)
      subst hres
      clear HE HR2 hlt hk
      go_wp2
      go_ret
      exact ⟨rfl, HW.out⟩
 ·have h5 : ((N : Int) != (M : Int)) = true := by simp; omega
  have hres : R = 1 := by rw [<- hR, if_pos h4]
  subst hres
  clear hR h4
  go_wp2
  go_ret
  exact ⟨rfl, World.Fr.refl w []⟩
theorem rwrong_one {cf : V -> V -> Int} {S : PS} {n : Int} {ts : List Tb} (hp : S.parts = 1) : rwrong cf S.time n ts [S.right] = wrongE cf S n ts := by
 unfold rwrong wrongE
 rw [hp]
 by_cases h0 : n < 0 ∨ 1099511627776 < n ∨ n < S.time
 ·rw [if_pos h0, if_pos h0]
 rw [if_neg h0, if_neg h0]
 by_cases h1 : ts.length = 1
 ·rw [if_neg (fun h => h (by simpa using h1)), if_neg (show ¬ (ts.length : Int) ≠ 1 from fun h => h (by omega))]
  by_cases h2 : firstBad cf ts ≠ 0
  ·rw [if_pos h2, if_pos h2]
  rw [if_neg h2, if_neg h2]
  have e : (∃ (i : Nat) (t : Tb) (v : List BA), ts[i]? = some t /\ [S.right][i]? = some v /\ t.vars ≠ v) ↔ ((1 : Int) = 2 /\ ∃ t, ts[0]? = some t /\ t.vars ≠ S.left) ∨ ∃ t, ts[ts.length - 1]? = some t /\ t.vars ≠ S.right := by
   constructor
   ·rintro ⟨i, t, v, a, b, c⟩
    cases i with
    | zero =>
     simp at b
     subst b
     exact .inr ⟨t, by rw [h1]; exact a, c⟩
    | succ i => simp at b
   ·rintro (⟨h, _⟩ | ⟨t, a, b⟩)
    ·omega
    ·exact ⟨0, t, S.right, by rw [h1] at a; exact a, rfl, b⟩
  by_cases h3 : ∃ (i : Nat) (t : Tb) (v : List BA), ts[i]? = some t /\ [S.right][i]? = some v /\ t.vars ≠ v
  ·rw [if_pos h3, if_pos (e.1 h3)]
  ·rw [if_neg h3, if_neg (fun h => h3 (e.2 h))]
 ·rw [if_pos (by simpa using h1), if_pos (show (ts.length : Int) ≠ 1 by omega)]
theorem rwrong_two {cf : V -> V -> Int} {S : PS} {n : Int} {ts : List Tb} (hp : S.parts = 2) : rwrong cf S.time n ts [S.left, S.right] = wrongE cf S n ts := by
 unfold rwrong wrongE
 rw [hp]
 by_cases h0 : n < 0 ∨ 1099511627776 < n ∨ n < S.time
 ·rw [if_pos h0, if_pos h0]
 rw [if_neg h0, if_neg h0]
 by_cases h1 : ts.length = 2
 ·rw [if_neg (fun h => h (by simpa using h1)), if_neg (show ¬ (ts.length : Int) ≠ 2 from fun h => h (by omega))]
  by_cases h2 : firstBad cf ts ≠ 0
  ·rw [if_pos h2, if_pos h2]
  rw [if_neg h2, if_neg h2]
  have e : (∃ (i : Nat) (t : Tb) (v : List BA), ts[i]? = some t /\ [S.left, S.right][i]? = some v /\ t.vars ≠ v) ↔ ((2 : Int) = 2 /\ ∃ t, ts[0]? = some t /\ t.vars ≠ S.left) ∨ ∃ t, ts[ts.length - 1]? = some t /\ t.vars ≠ S.right := by
   constructor
   ·rintro ⟨i, t, v, a, b, c⟩
    match i with
    | 0 =>
     simp at b
     subst b
     exact .inl ⟨rfl, t, a, c⟩
    | 1 =>
     simp at b
     subst b
     exact .inr ⟨t, by rw [h1]; exact a, c⟩
    | i + 2 => simp at b
   ·rintro (⟨_, t, a, b⟩ | ⟨t, a, b⟩)
    ·exact ⟨0, t, S.left, a, rfl, b⟩
    ·exact ⟨1, t, S.right, by rw [h1] at a; exact a, rfl, b⟩
  by_cases h3 : ∃ (i : Nat) (t : Tb) (v : List BA), ts[i]? = some t /\ [S.left, S.right][i]? = some v /\ t.vars ≠ v
  ·rw [if_pos h3, if_pos (e.1 h3)]
  ·rw [if_neg h3, if_neg (fun h => h3 (e.2 h))]
 ·rw [if_pos (by simpa using h1), if_pos (show (ts.length : Int) ≠ 2 by omega)]
end
section
open Go.RowKit
theorem hasS_take {M : List BA} {m : Nat} {x s : BA} (hx : M[m]? = some x) : hasS (M.take (m + 1)) s = (hasS (M.take m) s || (s.toList == x.toList)) := by
 have hlt := (List.getElem?_eq_some_iff.1 hx).1
 unfold hasS
 rw [List.take_succ_eq_append_getElem hlt, (List.getElem?_eq_some_iff.1 hx).2, Bool.eq_iff_iff]
 simp only [decide_eq_true_eq, List.mem_append, List.mem_cons, List.not_mem_nil, or_false, Bool.or_eq_true, beq_iff_eq]
 constructor
 ·rintro (h | rfl)
  ·exact .inl h
  ·exact .inr rfl
 ·rintro (h | h)
  ·exact .inl h
  ·exact .inr (toList_inj h)
open Classical in
theorem make136 {cf : V -> V -> Int} (hRC : RCtx cf) {Q : Nat -> Prop} {w : World} (hQ : ∀ k, w.heap.size <= k -> Q k) {kind : Int} {i : Iv} {nt : Bool} {v1 v2 : Value} {l r : List BA} (h1 : RdStr w v1 l) (h2 : RdStr w v2 r) (hl : l.length <= 8796093021952) (hr : r.length <= 8796093021952) :
  Calls Tryz.prog 136 #[.int .i64 kind, ivV i, .bool nt, v1, v2] w fun e w' => (∃ p, e = .returned (.tuple #[p, .int .i64 (beginE i l r)]) /\ (beginE i l r ≠ 0 /\ p = .pointer none ∨ beginE i l r = 0 /\ ∃ k vl vr, p = .pointer (some ⟨k, 0, none⟩) /\ w.heap.size <= k /\ w'.heap[k]? = some (.cells (rcells10 kind i nt vl vr (.slice none 0 0) (.slice none 0 0) (.slice none 0 0)) 107 (0, 0)) /\ NamesIn Q w' vl (sortS l) /\ NamesIn Q w' vr (sortS r))) /\ w.Fr w' [] := by
 obtain ⟨lo, hi, op⟩ := i
 obtain ⟨a1, a2, rfl, _, _⟩ := h1.rd.shape
 obtain ⟨b1, b2, rfl, _, _⟩ := h2.rd.shape
 obtain ⟨R, hR⟩ : ∃ R, beginE ⟨lo, hi, op⟩ l r = R := ⟨_, rfl⟩
 rw [hR]
 generalize hn1 : l.length = n1 at *
 generalize hn2 : r.length = n2 at *
 rw [<- hn1] at hl
 rw [<- hn2] at hr
 have q1 := heap_alloc_at w (.cells #[.int .i64 lo, .int .i64 hi, .bool op] 23) _ rfl
 have f1 := (World.Fr.refl w []).alloc (.cells #[.int .i64 lo, .int .i64 hi, .bool op] 23)
 have H1 := Hz h1; have H2 := Hz h2; have HK := Hz hRC; have HR := Hz hR; have Hl := Hz hl; have Hr := Hz hr; have HQ := Hz hQ
 clear h1 h2 hRC hR hl hr hn1 hn2 hQ
 go_enter Tryz.func136, Tryz.ntmps136
 go_upto_region 1 with (fail)
 generalize hW : World.alloc w _ = w1 at *
 clear hW
 generalize hp6 : w.heap.size = p6 at q1 HQ ⊢
 have HP6 := Hz hp6
 clear hp6
 obtain ⟨c0, c1, c2, cf0⟩ := tri q1
 have hz := lt_of_heap q1
 have Q1 := Hz q1; have F := Hz f1
 clear q1 f1
 have k := Hz (interval177 ⟨lo, hi, op⟩ w1)
 go_wp2_with fail
 (with_reducible refine k.out.mono ?_)
 rintro e w2 ⟨rfl, fx⟩
 have Q1 := Hz (fx.heap Q1.out (by simp)); have F := Hz (F.out.trans fx (by simp))
 clear k fx c0 c1 c2 cf0 hz
 obtain ⟨c0, c1, c2, cf0⟩ := tri Q1.out
 have hz := lt_of_heap Q1.out
 cases hB : ivB ⟨lo, hi, op⟩ with
 | false =>
  have hres : R = 1 := by rw [<- HR.out]; unfold beginE; rw [if_pos hB]
  subst hres
  clear HR hB
  go_wp2
  refine bodyPost_ret (v := .tuple #[.pointer none, _]) (by simp [results, Tryz.results136, go_sem]) rfl ⟨⟨.pointer none, rfl, .inl ⟨by decide, rfl⟩⟩, F.out⟩
 | true =>
  have hres : R = if ¬ NamesOk l ∨ ¬ NamesOk r then 30 else if ∀ s, s ∈ l -> s ∈ r then 0 else 30 := by rw [<- HR.out]; unfold beginE; rw [if_neg (by rw [hB]; simp)]
  have HR2 := Hz hres
  clear HR hB hres
  have k := Hz (rempty34 HK.out.rk HK.out.rc HK.out.ord (H1.out.fr F.out (by simp)) Hl.out)
  by_cases ho : NamesOk l
  ·rw [ofT_ok ho] at k
   have Ho := Hz ho
   clear ho
   go_wp2_with fail
   (with_reducible refine k.out.mono ?_)
   rintro e w3 ⟨u, rfl, ho⟩
   obtain ⟨s1, s2, s3, s4, rfl⟩ := ho.shape
   simp only [List.length_nil] at ho ⊢
   have Q1 := Hz (heap_alloc_some (ho.fr.heap Q1.out (by simp)) (.cells #[.slice s1 (sortS l).length s2, .slice s3 0 s4] 34))
   have Q14 := Hz (heap_alloc_at w3 (.cells #[.slice s1 (sortS l).length s2, .slice s3 0 s4] 34) _ rfl)
   have O1 := Hz ((ho.stay ((World.Fr.refl w3 []).alloc (.cells #[.slice s1 (sortS l).length s2, .slice s3 0 s4] 34))).inn (Q := Q) (fun k hk _ => HQ.out k (by have := F.out.size; have := HP6.out; omega)))
   have F := Hz (F.out.trans (ho.fr.alloc (.cells #[.slice s1 (sortS l).length s2, .slice s3 0 s4] 34)) (by simp))
   clear c0 c1 c2 cf0 hz
   clear ho k
   go_upto_region 4 with (fail)
   generalize hW : World.alloc w3 _ = w4 at *
   clear hW
   generalize w3.heap.size = p14 at *
   have k := Hz (rempty34 HK.out.rk HK.out.rc HK.out.ord (H2.out.fr F.out (by simp)) Hr.out)
   by_cases ho : NamesOk r
   ·rw [ofT_ok ho] at k
    have Ho2 := Hz ho
    clear ho
    go_wp2_with fail
    (with_reducible refine k.out.mono ?_)
    rintro e w5 ⟨u, rfl, ho⟩
    obtain ⟨t1, t2, t3, t4, rfl⟩ := ho.shape
    simp only [List.length_nil] at ho ⊢
    have Q1 := Hz (heap_alloc_some (ho.fr.heap Q1.out (by simp)) (.cells #[.slice t1 (sortS r).length t2, .slice t3 0 t4] 34))
    have Q14 := Hz (heap_alloc_some (ho.fr.heap Q14.out (by simp)) (.cells #[.slice t1 (sortS r).length t2, .slice t3 0 t4] 34))
    have Q16 := Hz (heap_alloc_at w5 (.cells #[.slice t1 (sortS r).length t2, .slice t3 0 t4] 34) _ rfl)
    have O2 := Hz ((ho.stay ((World.Fr.refl w5 []).alloc (.cells #[.slice t1 (sortS r).length t2, .slice t3 0 t4] 34))).inn (Q := Q) (fun k hk _ => HQ.out k (by have := F.out.size; have := HP6.out; omega)))
    have F := Hz (F.out.trans (ho.fr.alloc (.cells #[.slice t1 (sortS r).length t2, .slice t3 0 t4] 34)) (by simp))
    have O1 := Hz (O1.out.still (ho.fr.alloc (.cells #[.slice t1 (sortS r).length t2, .slice t3 0 t4] 34)))
    clear ho k
    go_upto_region 7 with (fail)
    generalize hW : World.alloc w5 _ = w6 at *
    clear hW
    generalize w5.heap.size = p16 at *
    have hres : R = if ∀ s, s ∈ l -> s ∈ r then 0 else 30 := by rw [HR2.out, if_neg (fun h => h.elim (fun h => h Ho.out) (fun h => h Ho2.out))]
    have HR3 := Hz hres
    have hu1 := sortS_up Ho.out
    have hm1 : ∀ s, s ∈ sortS l ↔ s ∈ l := fun s => (sortS_perm l).mem_iff
    have hm2 : ∀ s, s ∈ sortS r ↔ s ∈ r := fun s => (sortS_perm r).mem_iff
    have hu2 := sortS_up Ho2.out
    obtain ⟨_, _, hs1, he, A1, _, _, N1, _, _⟩ := O1.out.ex
    cases he
    obtain ⟨_, _, hs2, he, A2, _, _, N2, _, _⟩ := O2.out.ex
    cases he
    have hn1 : NamesIn Q w6 (.slice s1 (sortS l).length s2) (sortS l) := ⟨A1, O1.out.wf.1, N1⟩
    have hn2 : NamesIn Q w6 (.slice t1 (sortS r).length t2) (sortS r) := ⟨A2, O2.out.wf.1, N2⟩
    have Hm1 := Hz hm1; have Hm2 := Hz hm2; have Hu1 := Hz hu1; have Hu2 := Hz hu2; have HN1 := Hz hn1; have HN2 := Hz hn2
    clear hres HR2 hm1 hm2 hu1 hu2 A1 A2 O1 O2 N1 N2 hn1 hn2
    have hd1 := Hz HN1.out.rd
    have hd2 := Hz HN2.out.rd
    generalize hLL : sortS l = L at *
    generalize hMM : sortS r = M at *
    have HLL := Hz hLL; have HMM := Hz hMM
    clear hLL hMM
    obtain ⟨c0, c1, c2, cf0⟩ := tri Q1.out
    obtain ⟨m0, m1, mf⟩ := two Q14.out
    obtain ⟨n0, n1, nf⟩ := two Q16.out
    have hz6 := lt_of_heap Q1.out
    have hz14 := lt_of_heap Q14.out
    have hz16 := lt_of_heap Q16.out
    have HI0 : Hid (∀ s, s ∈ L.take 0 -> s ∈ M) := Hz (by simp)
    go_wp2
    go_loopw [42] (fun i wr => ∃ j : Nat, i = .int .i64 j /\ j <= L.length /\ Hid (∀ s, s ∈ L.take j -> s ∈ M) /\ wr = w6) (fun i _ => (L.length - intOf i).toNat)
    case atStart => exact ⟨0, rfl, Nat.zero_le _, HI0, rfl⟩
    case round =>
     obtain ⟨j, rfl, hj, HI, rfl⟩ := hrel
     clear HI0
     by_cases hlt : j < L.length
     ·obtain ⟨s, hs⟩ : ∃ s, L[j]? = some s := ⟨L[j], List.getElem?_eq_getElem hlt⟩
      obtain ⟨g, off, c, hv, hg, kx⟩ := hd1.out.at hs
      cases hv
      have hjI : (j : Int) < (L.length : Int) := by omega
      have hw1 : IntKind.i64.wrap ((j : Int) + 1) = (j : Int) + 1 := IntWalk.i64_in _ (by have := Hu1.out.2; omega)
      have hnn : (0 : Int) <= (j : Int) := by omega
      have hsn : L.take (j + 1) = L.take j ++ [s] := by
       rw [List.take_succ_eq_append_getElem hlt, (List.getElem?_eq_some_iff.1 hs).2]
      have Hs := Hz (List.mem_of_getElem? hs)
      have Hsn := Hz hsn
      clear hsn hs
      have HB0 : Hid (hasS (M.take 0) s = false) := Hz (by simp [hasS])
      go_upto_region 14 with (fail)
      go_loopw [17, 49] (fun b i2 wr2 => ∃ (m : Nat) (bb : Bool), i2 = .int .i64 m /\ b = .bool bb /\ m <= M.length /\ Hid (hasS (M.take m) s = bb) /\ wr2 = wr) (fun _ i2 _ => (M.length - intOf i2).toNat)
      case atStart => exact ⟨0, false, rfl, rfl, Nat.zero_le _, HB0, rfl⟩
      case round =>
       obtain ⟨m, bb, rfl, rfl, hm, HB, rfl⟩ := hrel
       clear HB0 kx hg
       by_cases hlt2 : m < M.length
       ·obtain ⟨x, hx⟩ : ∃ x, M[m]? = some x := ⟨M[m], List.getElem?_eq_getElem hlt2⟩
        obtain ⟨g2, off2, c2', hv2, hg2, kx2⟩ := hd2.out.at hx
        cases hv2
        have hmI : (m : Int) < (M.length : Int) := by omega
        have hw2 : IntKind.i64.wrap ((m : Int) + 1) = (m : Int) + 1 := IntWalk.i64_in _ (by have := Hu2.out.2; omega)
        have hmn : (0 : Int) <= (m : Int) := by omega
        have hht := hasS_take (s := s) hx
        rw [HB.out] at hht
        cases bb with
        | true =>
         have HB2 : Hid (hasS (M.take (m + 1)) s = true) := Hz (by rw [hht]; rfl)
         clear hht HB hx
         go_wp2
         go_roundw
         case rel => exact ⟨m + 1, true, by go_num, rfl, by omega, HB2, trivial⟩
         case measure => simp [intOf]; omega
        | false =>
         cases hsx : s.toList == x.toList with
         | true =>
          have HB2 : Hid (hasS (M.take (m + 1)) s = true) := Hz (by rw [hht, hsx]; rfl)
          clear hht HB hx
          go_wp2
          go_roundw
          case rel => exact ⟨m + 1, true, by go_num, rfl, by omega, HB2, trivial⟩
          case measure => simp [intOf]; omega
         | false =>
          have HB2 : Hid (hasS (M.take (m + 1)) s = false) := Hz (by rw [hht, hsx]; rfl)
          clear hht HB hx
          go_wp2
          go_roundw
          case rel => exact ⟨m + 1, false, by go_num, rfl, by omega, HB2, trivial⟩
          case measure => simp [intOf]; omega
       ·have hd : decide ((m : Int) < (M.length : Int)) = false := decide_eq_false (by omega)
        have hd2' : decide (m < M.length) = false := decide_eq_false hlt2
        have hB := HB.out
        rw [List.take_of_length_le (by omega)] at hB
        cases bb with
        | true =>
         have hin : s ∈ M := by unfold hasS at hB; exact of_decide_eq_true hB
         have HI2 : Hid (∀ s, s ∈ L.take (j + 1) -> s ∈ M) := Hz fun z hz => by
          rw [Hsn.out] at hz
          rcases List.mem_append.1 hz with h | h
          ·exact HI.out z h
          ·simp at h; subst h; exact hin
         clear HB hB hin hlt2 hm
         go_wp2
         go_roundw
         case rel => exact ⟨j + 1, by go_num, by omega, HI2, trivial⟩
         case measure => simp [intOf]; omega
        | false =>
         have hin : ¬ s ∈ M := by unfold hasS at hB; exact of_decide_eq_false hB
         have hres : R = 30 := by rw [HR3.out, if_neg (fun h => hin ((Hm2.out s).2 (h s ((Hm1.out s).1 Hs.out))))]
         subst hres
         clear HB hB hin HR3 hlt2 hm
         go_wp2
         refine bodyPost_ret (v := .tuple #[.pointer none, _]) (by simp [results, Tryz.results136, go_sem]) rfl ⟨⟨.pointer none, rfl, .inl ⟨by decide, rfl⟩⟩, F.out⟩
     ·have hd : decide ((j : Int) < (L.length : Int)) = false := decide_eq_false (by omega)
      have hd2' : decide (j < L.length) = false := decide_eq_false hlt
      obtain rfl : j = L.length := by omega
      have hI := HI.out
      rw [List.take_of_length_le (Nat.le_refl _)] at hI
      have hres : R = 0 := by rw [HR3.out, if_pos (fun s hs => (Hm2.out s).1 (hI s ((Hm1.out s).2 hs)))]
      subst hres
      clear HI hI HR3 hlt hj
      go_wp2
      have hb := heap_alloc_at wr (.cells (rcells10 kind ⟨lo, hi, op⟩ nt (.slice s1 L.length s2) (.slice t1 M.length t2) (.slice none 0 0) (.slice none 0 0) (.slice none 0 0)) 107) _ rfl
      have hf := (World.Fr.refl wr []).alloc (.cells (rcells10 kind ⟨lo, hi, op⟩ nt (.slice s1 L.length s2) (.slice t1 M.length t2) (.slice none 0 0) (.slice none 0 0) (.slice none 0 0)) 107)
      refine bodyPost_ret (v := .tuple #[.pointer (some ⟨wr.heap.size, 0, none⟩), _]) (by simp [results, Tryz.results136, go_sem]) rfl ⟨⟨.pointer (some ⟨wr.heap.size, 0, none⟩), rfl, ⟨wr.heap.size, rfl, (by have := F.out.size; have := HP6.out; omega), .slice s1 L.length s2, .slice t1 M.length t2, hb, (by rw [HLL.out]; exact HN1.out.still hf), (by rw [HMM.out]; exact HN2.out.still hf)⟩⟩, F.out.trans hf (by simp)⟩
   ·rw [ofT_bad ho] at k
    have hres : R = 30 := by rw [HR2.out, if_pos (.inr ho)]
    subst hres
    clear ho HR2
    go_wp2_with fail
    (with_reducible refine k.out.mono ?_)
    rintro e w5 ⟨u, rfl, ho⟩
    obtain ⟨t1, t2, t3, t4, rfl⟩ := ho.shape
    simp only [List.length_nil] at ho ⊢
    have F := Hz (F.out.trans (ho.fr.alloc (.cells #[.slice t1 0 t2, .slice t3 0 t4] 34)) (by simp))
    clear ho k
    go_upto_region 7 with (fail)
    generalize hW : World.alloc w5 _ = w6 at *
    clear hW
    generalize w5.heap.size = p16 at *
    go_wp2
    refine bodyPost_ret (v := .tuple #[.pointer none, _]) (by simp [results, Tryz.results136, go_sem]) rfl ⟨⟨.pointer none, rfl, .inl ⟨by decide, rfl⟩⟩, F.out⟩
  ·rw [ofT_bad ho] at k
   have hres : R = 30 := by rw [HR2.out, if_pos (.inl ho)]
   subst hres
   clear ho HR2
   go_wp2_with fail
   (with_reducible refine k.out.mono ?_)
   rintro e w3 ⟨u, rfl, ho⟩
   obtain ⟨s1, s2, s3, s4, rfl⟩ := ho.shape
   simp only [List.length_nil] at ho ⊢
   have F := Hz (F.out.trans (ho.fr.alloc (.cells #[.slice s1 0 s2, .slice s3 0 s4] 34)) (by simp))
   clear ho k
   go_upto_region 4 with (fail)
   generalize hW : World.alloc w3 _ = w4 at *
   clear hW
   generalize w3.heap.size = p14 at *
   go_wp2
   refine bodyPost_ret (v := .tuple #[.pointer none, _]) (by simp [results, Tryz.results136, go_sem]) rfl ⟨⟨.pointer none, rfl, .inl ⟨by decide, rfl⟩⟩, F.out⟩
end
end Go.Proofs.YtbejmdlncnkaaaaGreat
