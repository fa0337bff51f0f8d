/-
  The document's columns: a table's rows with some of its columns. The document's Project. The document's Drop.
-/
import Derived.Test.YtikodapgceokhaaGreatRmB
import Derived.Test.YtikodapgceokhaaGreatRvs
import Derived.Test.YtikodapgceokhaaGreatDrop
namespace Go.Proofs.YtikodapgceokhaaGreat
open Go.RowKit

set_option maxRecDepth 100000 in
set_option maxHeartbeats 4000000 in
theorem rcolumns84 {okv : V → Prop} {cf : V → V → Int} (hC : RCmpOk okv cf) {w : World} {v1 v2 : Value} {t : Tb} {want : List BA} (h1 : RdTab w v1 t) (h2 : RdStr w v2 want)
    (hl : t.vars.length ≤ 8000000000000000000) (hvl : want.length ≤ 3518437208780) (hr : t.rows.length ≤ 5864062014634) (hw : ∀ r, r ∈ t.rows → r.length = t.vars.length) (hin : ∀ x, x ∈ want → x ∈ t.vars) (hok : ∀ r, r ∈ t.rows → ∀ y, y ∈ r → okv y ∧ V.wf y) :
    Calls Tryz.prog 84 #[v1, v2] w fun e w' => ∃ u hs, e = .returned u ∧ hs.length = t.rows.length ∧ OwnTab w w' u (rmadeT cf want (t.rows.map fun r => pick t.vars r want) hs) := by
  obtain ⟨va, vb, hs0, rfl, hv, hrr⟩ := h1.ex
  obtain ⟨a1, c1, rfl, _, _⟩ := hv.rd.shape
  obtain ⟨a2, c2, rfl, _, _⟩ := hrr.rd.shape
  obtain ⟨a3, c3, rfl, _, _⟩ := h2.rd.shape
  have hlen := hrr.len
  rw [hlen] at hrr ⊢
  have H1 := Lib.hid hv; have H2 := Lib.hid hrr; have H3 := Lib.hid h2; have Hl := Lib.hid hl; have Hvl := Lib.hid hvl; have Hr := Lib.hid hr; have Hw := Lib.hid hw; have Hin := Lib.hid hin; have Hok := Lib.hid hok; have HC := Lib.hid hC; clear h1 hv hrr h2 hl hvl hr hw hin hok hC hlen
  have q1 := heap_alloc_at w (.cells #[.slice a1 t.vars.length c1, .slice a2 t.rows.length c2] 25) _ rfl
  have q2 := heap_alloc_at (w.alloc (.cells #[.slice a1 t.vars.length c1, .slice a2 t.rows.length c2] 25)) (.cells #[.slice none 0 0, .slice none 0 0] 25) (w.heap.size + 1) (by simp)
  have q1 := heap_alloc_some q1 (.cells #[.slice none 0 0, .slice none 0 0] 25)
  have qf := ((World.Fr.refl w []).alloc (.cells #[.slice a1 t.vars.length c1, .slice a2 t.rows.length c2] 25)).alloc (.cells #[.slice none 0 0, .slice none 0 0] 25)
  go_enter Tryz.func84, Tryz.ntmps84
  go_upto_region 1 with (fail)
  generalize hW : World.alloc (World.alloc w _) _ = W at *
  clear hW
  have hws : w.heap.size ≤ W.heap.size := qf.size
  have HA0 : Hid (AV W W (.slice none 0 0) []) := Lib.hid (AV.nil W)
  have Q1 := Lib.hid q1; have Q2 := Lib.hid q2; have Qf := Lib.hid qf; have Hws := Lib.hid hws
  clear q1 q2 qf hws
  go_wp2
  go_loopw [5, 6] (fun v i wr => ∃ (j : Nat) (hs : List Value), i = .int .i64 j ∧ j ≤ t.rows.length ∧ hs.length = j ∧ Hid (AV W wr v (hs.zip ((t.rows.take j).map fun r => pick t.vars r want)))) (fun _ i _ => (t.rows.length - intOf i).toNat)
  case atStart => exact ⟨0, [], rfl, Nat.zero_le _, rfl, HA0⟩
  case round =>
    obtain ⟨j, hs, rfl, hj, hhl, HA⟩ := hrel
    clear HA0
    have hPl : (hs.zip ((t.rows.take j).map fun r => pick t.vars r want)).length = j := by rw [List.length_zip, List.length_map, List.length_take]; omega
    obtain ⟨xa, xc, hv, _, _⟩ := HA.out.sl.shape
    subst hv
    rw [hPl]
    have q1 := HA.out.fr.heap Q1.out (by simp)
    obtain ⟨z0, z1, zf⟩ := two q1
    by_cases hlt : j < t.rows.length
    · obtain ⟨x, hx⟩ : ∃ x, t.rows[j]? = some x := ⟨t.rows[j], List.getElem?_eq_getElem (by omega)⟩
      have hxm := List.mem_of_getElem? hx
      have hfr := Qf.out.trans HA.out.fr (by simp)
      obtain ⟨g, off, c, ax, mx, hv, hg, kx, hrow⟩ := (H2.out.still hfr).at hx
      cases hv
      have hjI : (j : Int) < (t.rows.length : Int) := by omega
      have hw1 : IntKind.i64.wrap ((j : Int) + 1) = (j : Int) + 1 := IntWalk.i64_in _ (by have := Hr.out; omega)
      have hc := fun w' (hf : wr.Fr w' []) => rpicked76 (w := w') ((H1.out.fr hfr (by simp)).fr hf (by simp)) (hrow.fr hf (by simp)) ((H3.out.fr hfr (by simp)).fr hf (by simp)) Hl.out (Hw.out x hxm) Hin.out Hvl.out
      have Hc := Lib.hid hc; have Hx := Lib.hid hx; have Hfr := Lib.hid hfr
      clear hc hx hfr hrow hxm
      go_wp2
      go_still_tail 8, (by kernel_rfl)
      change wpList _ _ _ _ _ wr.drew
      go_wp2_with fail
      refine (Hc.out _ ((World.Fr.refl wr []).drew)).mono ?_
      rintro e w2 ⟨u, rfl, ho⟩
      obtain ⟨ya, yc, rfl, _, _⟩ := ho.sl.shape
      have hA2 := HA.out.still ((World.Fr.refl wr []).drew)
      have hsl2 := hA2.sl.fr ho.fr (by simp)
      have HA2 := Lib.hid hA2; have Ho := Lib.hid ho; have Hsl2 := Lib.hid hsl2
      clear hA2 ho hsl2 kx z0 z1 zf q1 Hc
      obtain ⟨ih, hih, hh0, hh1, hh2⟩ := info_parts infoH
      have hroom : j < 5864062014634 := by have := Hr.out; omega
      have hsn : ((t.rows.take (j + 1)).map fun r => pick t.vars r want) = ((t.rows.take j).map fun r => pick t.vars r want) ++ [pick t.vars x want] := by
        rw [List.take_succ_eq_append_getElem hlt, (List.getElem?_eq_some_iff.1 Hx.out).2]
        simp
      have Hsn := Lib.hid hsn
      clear hsn
      generalize hrw : pick t.vars x want = rw0 at *
      generalize hpp : ((t.rows.take j).map fun r => pick t.vars r want) = pp at *
      have hzip : (hs ++ [Value.slice ya rw0.length yc]).zip (pp ++ [rw0]) = hs.zip pp ++ [(Value.slice ya rw0.length yc, rw0)] := by
        rw [List.zip_append (by rw [hhl, ← hpp, List.length_map, List.length_take]; omega)]
        rfl
      have Hzip := Lib.hid hzip; have HPl := Lib.hid hPl
      clear hzip hPl hrw hpp
      rw [HPl.out] at Hsl2
      go_wp2_with (at_builtin; refine wpList_append_one _ rfl (.tmp 24) (.tmp 26) 23 rfl 32 ih (.slice none 0 0) 1 24 Tryz.underlying23 hih hh0 hh1 hh2 rfl (.slice xa j xc) j ((hs.zip pp).map (·.1)) rfl (Hsl2.out.alloc _) w2.heap.size 1 [.slice ya rw0.length yc] 32 rfl (heap_alloc_at _ _ _ rfl) rfl rfl ⟨by omega, by omega⟩ ?_)
      intro g3 off3 c3 w3 hsl3 hfr3 hat hlt3
      have hpush := HA2.out.push (Ho.out.still ((World.Fr.refl w2 []).alloc (.cells #[.slice ya rw0.length yc] 32))) (g := g3) (off := off3) (c := c3) (by rw [HPl.out]; exact hsl3) (by rw [HPl.out]; exact hfr3) (by rw [HPl.out]; rcases hat with h | h; exact .inl h; exact .inr (by (try simp at h); (try simp); omega))
      rw [HPl.out, ← Hzip.out, ← Hsn.out] at hpush
      have Hpush := Lib.hid hpush
      clear hpush hsl3 hfr3 hat hlt3
      go_wp2
      go_roundw
      case rel => exact ⟨j + 1, hs ++ [.slice ya rw0.length yc], by go_num, by omega, by simp; omega, Hpush⟩
      case measure => simp [intOf]; omega
    · have hd : decide ((j : Int) < (t.rows.length : Int)) = false := decide_eq_false (by omega)
      have hd2 : decide (j < t.rows.length) = false := decide_eq_false hlt
      obtain rfl : j = t.rows.length := by omega
      have hA := HA.out
      rw [List.take_of_length_le (Nat.le_refl _)] at hA hPl
      generalize hpp : (t.rows.map fun r => pick t.vars r want) = pp at *
      have hpl : pp.length = t.rows.length := by rw [← hpp, List.length_map]
      have hmem : ∀ r, r ∈ pp → r.length = want.length ∧ ∀ y, y ∈ r → okv y ∧ V.wf y := by
        intro r hr
        rw [← hpp] at hr
        obtain ⟨r0, hr0, rfl⟩ := List.mem_map.1 hr
        exact ⟨pick_len _ _ _, fun y hy => Hok.out r0 hr0 y (pick_mem Hin.out (Hw.out r0 hr0) hy)⟩
      have hrows : RdRows wr (.slice xa t.rows.length xc) pp hs := by
        have hs1 := hA.sl
        rw [hPl, List.map_fst_zip (by omega)] at hs1
        refine ⟨by rw [hhl]; exact hs1.rd, by omega, fun i hv r h1 h2 => ?_⟩
        have hm : (hv, r) ∈ hs.zip pp := List.mem_of_getElem? (i := i) (by rw [List.getElem?_zip_eq_some]; exact ⟨h1, h2⟩)
        exact ⟨(hA.row _ hm).1.rd, fun y hy => ((hmem r (List.mem_of_getElem? h2)).2 y hy).2⟩
      have hc := rmade77 HC.out (H3.out.fr (Qf.out.trans hA.fr (by simp)) (by simp)) hrows Hvl.out (by have := Hr.out; omega) (fun r hr => (hmem r hr).1) (fun r hr => (hmem r hr).2)
      have q2 := hA.fr.heap Q2.out (by simp)
      have hf := Qf.out.trans hA.fr (by simp)
      have Hc := Lib.hid hc; have Q2' := Lib.hid q2; have Hf := Lib.hid hf; have Hpl := Lib.hid hpl
      have Hpp := Lib.hid hpp
      clear hc q2 hf hA hmem hrows HA hPl hpp hlt hj hpl q1
      go_wp2_with fail
      refine Hc.out.mono ?_
      rintro e w2 ⟨u, hs', rfl, hsl, ho⟩
      rw [← Hpp.out] at ho
      obtain ⟨x1, y1, x2, y2, rfl⟩ := ho.shape
      have hbx := ho.fr.heap Q2'.out (by simp)
      have ho2 := (ho.since Hf.out).put hbx (by omega)
      obtain ⟨p0, p1, pf⟩ := two hbx
      obtain ⟨f0, f1, _⟩ := two ho2.2
      have Hfin := Lib.hid ho2.1
      have hsl' : hs'.length = t.rows.length := by rw [hsl, Hpl.out]
      clear ho2 ho hbx hsl
      go_wp2
      refine bodyPost_ret (v := .agg #[.slice x1 _ y1, .slice x2 _ y2]) (by simp [results, Tryz.results84, go_sem, f0, f1]) rfl ⟨_, hs', rfl, hsl', Hfin.out⟩
end Go.Proofs.YtikodapgceokhaaGreat
namespace Go.Proofs.YtikodapgceokhaaGreat
open Go.RowKit

theorem rcolumns84m {cf : V → V → Int} (hC : RCmpOk V.wf cf) (hO : OrdOk (fun v => V.wf v ∧ vcheck v = 0) cf) {w : World} {v1 v2 : Value} {t : Tb} {want : List BA} (h1 : RdTab w v1 t) (h2 : RdStr w v2 want)
    (hl : t.vars.length ≤ 8) (hvl : want.length ≤ 8) (hr : t.rows.length ≤ 5864062014634) (hw : ∀ r, r ∈ t.rows → r.length = t.vars.length ∧ ∀ x, x ∈ r → vcheck x = 0) (hn : want.Nodup) (hin : ∀ x, x ∈ want → x ∈ t.vars) (hwf : ∀ r, r ∈ t.rows → ∀ x, x ∈ r → V.wf x) :
    Calls Tryz.prog 84 #[v1, v2] w fun e w' => ∃ u, e = .returned u ∧ OwnTab w w' u (madeT cf want (t.rows.map fun r => pick t.vars r want)) := by
  refine (rcolumns84 hC h1 h2 (by omega) (by omega) hr (fun r hr => (hw r hr).1) hin (fun r hr y hy => ⟨hwf r hr y hy, hwf r hr y hy⟩)).mono ?_
  rintro e w' ⟨u, hs, he, hl', ho⟩
  rw [rmadeT_eq hO hn (by rw [List.length_map]; exact hl') (fun r hr => by obtain ⟨r0, _, rfl⟩ := List.mem_map.1 hr; exact pick_len _ _ _) (fun r hr y hy => by
    obtain ⟨r0, hr0, rfl⟩ := List.mem_map.1 hr
    have hm := pick_mem hin (hw r0 hr0).1 hy
    exact ⟨hwf r0 hr0 y hm, (hw r0 hr0).2 y hm⟩)] at ho
  exact ⟨u, he, ho⟩

open Classical in
set_option maxRecDepth 100000 in
set_option maxHeartbeats 4000000 in
theorem rproject36 {cf : V → V → Int} (hRK : RChkOk V.wf) (hRC : RCmpOk V.wf cf) (hO : OrdOk (fun v => V.wf v ∧ vcheck v = 0) cf) {w : World} {v1 v2 : Value} {t : Tb} {want : List BA} (h1 : RdTab w v1 t) (h2 : RdStr w v2 want) (ht : Fits V.wf t) (hl : want.length ≤ 8796093021952) :
    Calls Tryz.prog 36 #[v1, v2] w fun e w' => ∃ v, e = .returned (.tuple #[v, .int .i64 (projectT cf t want).1]) ∧ OwnTab w w' v (projectT cf t want).2 := by
  have hchk := fun w' (hf : w.Fr w' []) => rcheck16 hRK hRC (h1.still hf) ht.ok ht.small.vars ht.small.rows ht.small.row
  have hcol := fun w' (hf : w.Fr w' []) => rcolumns84m (want := want) hRC hO (h1.still hf) (h2.fr hf (by simp))
  obtain ⟨x1, y1, hs1, rfl, hv1, hr1⟩ := h1.ex
  obtain ⟨a1, c1, rfl, _, _⟩ := hv1.rd.shape
  obtain ⟨a2, c2, rfl, _, _⟩ := h2.rd.shape
  obtain ⟨a3, c3, rfl, _, _⟩ := hr1.rd.shape
  have hlen := hr1.len
  generalize hR : projectT cf t want = R
  rw [hlen] at hr1 hchk hcol ⊢
  clear hlen h1
  have Hv1 := Lib.hid hv1; have H2 := Lib.hid h2; have Hl := Lib.hid hl; have Ht := Lib.hid ht; have Hchk := Lib.hid hchk; have Hcol := Lib.hid hcol; have HR := Lib.hid hR; clear h2 hv1 hr1 hl ht hRK hRC hO hchk hcol hR
  go_enter Tryz.func36, Tryz.ntmps36
  go_upto_region 1 with (fail)
  generalize hW : World.alloc (World.alloc w _) _ = W
  have q1 : W.heap[w.heap.size]? = some (.cells #[.slice a1 t.vars.length c1, .slice a3 t.rows.length c3] 25 (0, 0)) := by rw [← hW]; exact heap_alloc_some (heap_alloc_at _ _ _ rfl) _
  have q2 : W.heap[w.heap.size + 1]? = some (.cells #[.slice none 0 0, .slice none 0 0] 25 (0, 0)) := by rw [← hW]; exact heap_alloc_at _ _ _ (by simp)
  have q3 : w.Fr W [] := by rw [← hW]; exact ((World.Fr.refl w []).alloc _).alloc _
  clear hW
  generalize hb1 : w.heap.size = b1 at *
  have Hb1 := Lib.hid hb1; clear hb1
  obtain ⟨p0, p1, pf⟩ := two q1
  have Q1 := Lib.hid q1; have Q2 := Lib.hid q2; have Q3 := Lib.hid q3; clear q1 q2 q3
  go_wp2_with fail
  (with_reducible refine (Hchk.out _ Q3.out).mono ?_)
  rintro e w1 ⟨rfl, hf1⟩
  have q1 := hf1.heap Q1.out (by simp)
  have q2 := hf1.heap Q2.out (by simp)
  have q3 := Q3.out.trans hf1 (by simp)
  clear p0 p1 pf Q1 Q2 Q3 hf1
  obtain ⟨p0, p1, pf⟩ := two q1
  obtain ⟨r0, r1, rf⟩ := two q2
  have hlb := lt_of_heap q1
  have hlb2 := lt_of_heap q2
  have Q1 := Lib.hid q1; have Q2 := Lib.hid q2; have Q3 := Lib.hid q3; clear q1 q2 q3
  by_cases h0 : tcheck cf t = 0
  · rw [h0]
    have hres : R = if ¬ want.Nodup ∨ ¬ (∀ x, x ∈ want → x ∈ t.vars) then (30, tNone) else (0, madeT cf want (t.rows.map fun r => pick t.vars r want)) := by rw [← HR.out]; unfold projectT; rw [if_neg (by simp [h0])]
    obtain ⟨k1, k2, k3, k4⟩ := tcheck_zero h0
    have hun := runlike80 (H2.out.fr Q3.out (by simp)) (by have := Hl.out; omega)
    have Hun := Lib.hid hun; have HR2 := Lib.hid hres; have K1 := Lib.hid k1; have K2 := Lib.hid k2; have K3 := Lib.hid k3
    clear hun hres k1 k2 k3 k4 h0 HR
    go_wp2_with fail
    (with_reducible refine Hun.out.mono ?_)
    rintro e w2 ⟨rfl, hf2⟩
    have q1 := hf2.heap Q1.out (by simp)
    have q2 := hf2.heap Q2.out (by simp)
    have q3 := Q3.out.trans hf2 (by simp)
    clear p0 p1 pf r0 r1 rf Q1 Q2 Q3 hf2 Hun hlb hlb2
    obtain ⟨p0, p1, pf⟩ := two q1
    obtain ⟨r0, r1, rf⟩ := two q2
    have hlb := lt_of_heap q1
    have hlb2 := lt_of_heap q2
    have Q1 := Lib.hid q1; have Q2 := Lib.hid q2; have Q3 := Lib.hid q3; clear q1 q2 q3
    by_cases hnd : want.Nodup
    · rw [decide_eq_true hnd]
      have Hnd := Lib.hid hnd; clear hnd
      go_wp2
      go_loopw [8] (fun i wr => ∃ j : Nat, i = .int .i64 j ∧ j ≤ want.length ∧ Hid (∀ x, x ∈ want.take j → x ∈ t.vars) ∧ Hid (wr.heap[b1]? = some (.cells #[.slice a1 t.vars.length c1, .slice a3 t.rows.length c3] 25 (0, 0))) ∧ Hid (wr.heap[b1 + 1]? = some (.cells #[.slice none 0 0, .slice none 0 0] 25 (0, 0))) ∧ Hid (w.Fr wr [])) (fun i _ => (want.length - intOf i).toNat)
      case atStart => exact ⟨0, rfl, Nat.zero_le _, Lib.hid (by simp), Q1, Q2, Q3⟩
      case round =>
        obtain ⟨j, rfl, hj, HA, HP1, HP2, HF⟩ := hrel
        clear p0 p1 pf r0 r1 rf hlb hlb2 Q1 Q2 Q3
        obtain ⟨p0, p1, pf⟩ := two HP1.out
        obtain ⟨r0, r1, rf⟩ := two HP2.out
        have hlb := lt_of_heap HP1.out
        have hlb2 := lt_of_heap HP2.out
        by_cases hlt : j < want.length
        · obtain ⟨x, hx⟩ : ∃ x, want[j]? = some x := ⟨want[j], List.getElem?_eq_getElem (by omega)⟩
          obtain ⟨g, off, c, hv, hg, kx⟩ := (H2.out.fr HF.out (by simp)).at hx
          cases hv
          have hrI : (j : Int) < (want.length : Int) := by omega
          have hw1 : IntKind.i64.wrap ((j : Int) + 1) = (j : Int) + 1 := IntWalk.i64_in _ (by have := Hl.out; omega)
          have hc := fun w' (hf : wr.Fr w' []) => rfind81 (w := w') x ((Hv1.out.fr HF.out (by simp)).fr hf (by simp)) (by have := K1.out; omega)
          have him := idx_mem (l := t.vars) (x := x)
          have hsn : want.take (j + 1) = want.take j ++ [x] := by
            rw [List.take_succ_eq_append_getElem hlt, (List.getElem?_eq_some_iff.1 hx).2]
          have hxm := List.mem_of_getElem? hx
          generalize hix : idx t.vars x = ix at *
          have Hc := Lib.hid hc; have Him := Lib.hid him; have Hsn := Lib.hid hsn; have Hxm := Lib.hid hxm; clear hc him hix hx hsn hxm
          have hq : ∀ n, Calls Tryz.prog 81 #[.slice a1 t.vars.length c1, .string x] (wr.drewN n) fun e w' => e = .returned (.int .i64 ix) ∧ w' = wr.drewN n := fun n => (Hc.out (wr.drewN n) ((World.Fr.refl wr []).of_drewN n)).mono fun e w' ⟨h1, h2⟩ => ⟨h1, h2.symm⟩
          have hnn : (0 : Int) ≤ (j : Int) := by omega
          by_cases hi : ix < 0
          · have hd : decide (ix < (0 : Int)) = true := decide_eq_true hi
            have hres : R = (30, tNone) := by
              rw [HR2.out, if_pos (.inr fun h => by have := Him.out.2 (h x Hxm.out); omega)]
            clear HR2 Him hi
            subst hres
            go_wp2
            go_quiet (first | (go_at_call 81; with_reducible exact Calls.quiet_of_same (hq _)))
            generalize hN : World.drewN wr _ = wd at *
            have hfd : wr.Fr wd [] := by rw [← hN]; exact (World.Fr.refl wr []).of_drewN _
            clear hN hq Hc
            have q2 := hfd.heap HP2.out (by simp)
            have q3 := HF.out.trans hfd (by simp)
            clear p0 p1 pf r0 r1 rf hlb hlb2 hfd kx
            obtain ⟨r0, r1, rf⟩ := two q2
            have hlb2 := lt_of_heap q2
            have hfin := (OwnTab.empty (w := w) q3).put q2 (by have := Hb1.out; omega)
            obtain ⟨f0, f1, _⟩ := two hfin.2
            have Hfin := Lib.hid hfin.1
            clear hfin q2 q3
            go_wp2
            refine bodyPost_ret (v := .tuple #[.agg #[.slice none 0 0, .slice none 0 0], .int .i64 30]) (by simp [results, Tryz.results36, go_sem, f0, f1]) rfl ⟨_, rfl, Hfin.out⟩
          · have hd : decide (ix < (0 : Int)) = false := decide_eq_false hi
            have hA2 : ∀ y, y ∈ want.take (j + 1) → y ∈ t.vars := by
              rw [Hsn.out]
              intro y hy
              rcases List.mem_append.1 hy with h | h
              · exact HA.out y h
              · simp at h; subst h; exact Him.out.1 (by omega)
            have HA2 := Lib.hid hA2
            clear hA2 hi
            go_wp2
            go_quiet (first | (go_at_call 81; with_reducible exact Calls.quiet_of_same (hq _)))
            generalize hN : World.drewN wr _ = wd at *
            have hfd : wr.Fr wd [] := by rw [← hN]; exact (World.Fr.refl wr []).of_drewN _
            clear hN hq Hc
            have q1 := Lib.hid (hfd.heap HP1.out (by simp))
            have q2 := Lib.hid (hfd.heap HP2.out (by simp))
            have q3 := Lib.hid (HF.out.trans hfd (by simp))
            clear p0 p1 pf r0 r1 rf hlb hlb2 hfd kx
            go_wp2
            go_roundw
            case rel => exact ⟨j + 1, by go_num, by omega, HA2, q1, q2, q3⟩
            case measure => simp [intOf]; omega
        · have hd : decide ((j : Int) < (want.length : Int)) = false := decide_eq_false (by omega)
          have hd2 : decide (j < want.length) = false := decide_eq_false hlt
          obtain rfl : j = want.length := by omega
          have hin := HA.out
          rw [List.take_of_length_le (Nat.le_refl _)] at hin
          have hres : R = (0, madeT cf want (t.rows.map fun r => pick t.vars r want)) := by
            rw [HR2.out, if_neg (fun h => h.elim (fun h => h Hnd.out) (fun h => h hin))]
          subst hres
          have hwl := nodup_le want t.vars Hnd.out hin
          have hc := Hcol.out _ HF.out K1.out (by have := K1.out; omega) Ht.out.rows K3.out Hnd.out hin Ht.out.ok
          have Hc := Lib.hid hc
          clear HR2 HA hin hc hwl hlt hj
          go_wp2_with fail
          (with_reducible refine Hc.out.mono ?_)
          rintro e w5 ⟨v, rfl, ho⟩
          obtain ⟨x1, y1, x2, y2, rfl⟩ := ho.shape
          have hbx := ho.fr.heap HP2.out (by simp)
          have ho2 := (ho.since HF.out).put hbx (by have := Hb1.out; omega)
          clear p0 p1 pf r0 r1 rf hlb hlb2
          obtain ⟨p0, p1, pf⟩ := two hbx
          have hbW := lt_of_heap hbx
          obtain ⟨f0, f1, _⟩ := two ho2.2
          have Hfin := Lib.hid ho2.1
          clear ho2 ho hbx
          go_wp2
          refine bodyPost_ret (v := .tuple #[.agg #[.slice x1 _ y1, .slice x2 _ y2], .int .i64 0]) (by simp [results, Tryz.results36, go_sem, f0, f1]) rfl ⟨_, rfl, Hfin.out⟩
    · rw [decide_eq_false hnd]
      have hres : R = (30, tNone) := by rw [HR2.out, if_pos (.inl hnd)]
      subst hres
      clear HR2 hnd
      go_wp2
      have hfin := (OwnTab.empty (w := w) Q3.out).put Q2.out (by have := Hb1.out; omega)
      obtain ⟨f0, f1, _⟩ := two hfin.2
      have Hfin := Lib.hid hfin.1
      clear hfin p0 p1 pf
      refine bodyPost_ret (v := .tuple #[.agg #[.slice none 0 0, .slice none 0 0], .int .i64 30]) (by simp [results, Tryz.results36, go_sem, f0, f1]) rfl ⟨_, rfl, Hfin.out⟩
  · have hres : R = (tcheck cf t, tNone) := by rw [← HR.out]; unfold projectT; rw [if_pos h0]
    have h0b : (tcheck cf t == 0) = false := beq_eq_false_iff_ne.2 h0
    have h0c : (tcheck cf t != 0) = true := by simp [h0]
    clear h0 HR
    generalize tcheck cf t = z at *
    subst hres
    go_wp2
    have hfin := (OwnTab.empty (w := w) Q3.out).put Q2.out (by have := Hb1.out; omega)
    obtain ⟨f0, f1, _⟩ := two hfin.2
    have Hfin := Lib.hid hfin.1
    clear hfin p0 p1 pf
    refine bodyPost_ret (v := .tuple #[.agg #[.slice none 0 0, .slice none 0 0], .int .i64 z]) (by simp [results, Tryz.results36, go_sem, f0, f1]) rfl ⟨_, rfl, Hfin.out⟩
end Go.Proofs.YtikodapgceokhaaGreat
namespace Go.Proofs.YtikodapgceokhaaGreat
open Go.RowKit

set_option maxRecDepth 100000 in
set_option maxHeartbeats 4000000 in
theorem rdrop38 {cf : V → V → Int} (hRK : RChkOk V.wf) (hRC : RCmpOk V.wf cf) (hO : OrdOk (fun v => V.wf v ∧ vcheck v = 0) cf) {w : World} {v1 v2 : Value} {t : Tb} {want : List BA} (h1 : RdTab w v1 t) (h2 : RdStr w v2 want) (ht : Fits V.wf t) (hl : want.length ≤ 8796093021952) :
    Calls Tryz.prog 38 #[v1, v2] w fun e w' => ∃ v, e = .returned (.tuple #[v, .int .i64 (dropT cf t want).1]) ∧ OwnTab w w' v (dropT cf t want).2 := by
  have hchk := fun w' (hf : w.Fr w' []) => rcheck16 hRK hRC (h1.still hf) ht.ok ht.small.vars ht.small.rows ht.small.row
  have hcol := fun w' (hf : w.Fr w' []) => fun v' (hs : RdStr w' v' (leftL t.vars want)) => rcolumns84m (want := leftL t.vars want) hRC hO (h1.still hf) hs
  obtain ⟨x1, y1, hs1, rfl, hv1, hr1⟩ := h1.ex
  obtain ⟨a1, c1, rfl, _, _⟩ := hv1.rd.shape
  obtain ⟨a2, c2, rfl, _, _⟩ := h2.rd.shape
  obtain ⟨a3, c3, rfl, _, _⟩ := hr1.rd.shape
  have hlen := hr1.len
  generalize hR : dropT cf t want = R
  rw [hlen] at hr1 hchk hcol ⊢
  clear hlen h1
  have Hv1 := Lib.hid hv1; have H2 := Lib.hid h2; have Hl := Lib.hid hl; have Ht := Lib.hid ht; have Hchk := Lib.hid hchk; have Hcol := Lib.hid hcol; have HR := Lib.hid hR; clear h2 hv1 hr1 hl ht hRK hRC hO hchk hcol hR
  go_enter Tryz.func38, Tryz.ntmps38
  go_upto_region 1 with (fail)
  generalize hW : World.alloc (World.alloc w _) _ = W
  have q1 : W.heap[w.heap.size]? = some (.cells #[.slice a1 t.vars.length c1, .slice a3 t.rows.length c3] 25 (0, 0)) := by rw [← hW]; exact heap_alloc_some (heap_alloc_at _ _ _ rfl) _
  have q2 : W.heap[w.heap.size + 1]? = some (.cells #[.slice none 0 0, .slice none 0 0] 25 (0, 0)) := by rw [← hW]; exact heap_alloc_at _ _ _ (by simp)
  have q3 : w.Fr W [] := by rw [← hW]; exact ((World.Fr.refl w []).alloc _).alloc _
  clear hW
  generalize hb1 : w.heap.size = b1 at *
  have Hb1 := Lib.hid hb1; clear hb1
  obtain ⟨p0, p1, pf⟩ := two q1
  have Q1 := Lib.hid q1; have Q2 := Lib.hid q2; have Q3 := Lib.hid q3; clear q1 q2 q3
  go_wp2_with fail
  (with_reducible refine (Hchk.out _ Q3.out).mono ?_)
  rintro e w1 ⟨rfl, hf1⟩
  have q1 := hf1.heap Q1.out (by simp)
  have q2 := hf1.heap Q2.out (by simp)
  have q3 := Q3.out.trans hf1 (by simp)
  clear p0 p1 pf Q1 Q2 Q3 hf1
  obtain ⟨p0, p1, pf⟩ := two q1
  obtain ⟨r0, r1, rf⟩ := two q2
  have hlb := lt_of_heap q1
  have hlb2 := lt_of_heap q2
  have Q1 := Lib.hid q1; have Q2 := Lib.hid q2; have Q3 := Lib.hid q3; clear q1 q2 q3
  by_cases h0 : tcheck cf t = 0
  · rw [h0]
    have hres : R = (0, madeT cf (leftL t.vars want) (t.rows.map fun r => pick t.vars r (leftL t.vars want))) := by rw [← HR.out]; unfold dropT; rw [if_neg (by simp [h0])]
    subst hres
    obtain ⟨k1, k2, k3, k4⟩ := tcheck_zero h0
    have hln : (leftL t.vars want).Nodup := (nodup_of_pair k2).sublist List.filter_sublist
    have hlw : (leftL t.vars want).length ≤ 8 := Nat.le_trans (List.length_filter_le _ _) k1
    have HO0 : Hid (Own w1 w1 9 (.slice none 0 0) ((leftL (t.vars.take 0) want).map Value.string)) := Lib.hid (Own.nil w1 9)
    have K1 := Lib.hid k1; have K3 := Lib.hid k3; have Hln := Lib.hid hln; have Hlw := Lib.hid hlw
    clear k1 k2 k3 k4 h0 HR hln hlw
    go_wp2
    go_loopw [7, 8] (fun v i wr => ∃ j : Nat, i = .int .i64 j ∧ j ≤ t.vars.length ∧ Hid (Own w1 wr 9 v ((leftL (t.vars.take j) want).map Value.string))) (fun _ i _ => (t.vars.length - intOf i).toNat)
    case atStart => exact ⟨0, rfl, Nat.zero_le _, HO0⟩
    case round =>
      obtain ⟨j, rfl, hj, HO⟩ := hrel
      clear HO0 p0 p1 pf r0 r1 rf hlb hlb2
      have hq1 := HO.out.fr.heap Q1.out (by simp)
      obtain ⟨p0, p1, pf⟩ := two hq1
      have hlb := lt_of_heap hq1
      have HF := Lib.hid (Q3.out.trans HO.out.fr (by simp))
      have hO := HO.out
      obtain ⟨ya, yc, rfl⟩ := hO.shape
      rw [List.length_map] at hO ⊢
      have hkl : (leftL (t.vars.take j) want).length ≤ j := Nat.le_trans (List.length_filter_le _ _) (by rw [List.length_take]; omega)
      have Hkl := Lib.hid hkl; have HO2 := Lib.hid hO
      clear HO hO hq1 hkl
      by_cases hlt : j < t.vars.length
      · obtain ⟨x, hx⟩ : ∃ x, t.vars[j]? = some x := ⟨t.vars[j], List.getElem?_eq_getElem (by omega)⟩
        obtain ⟨g, off, c, hv, hg, kx⟩ := (Hv1.out.fr HF.out (by simp)).at hx
        cases hv
        have hrI : (j : Int) < (t.vars.length : Int) := by omega
        have hw1 : IntKind.i64.wrap ((j : Int) + 1) = (j : Int) + 1 := IntWalk.i64_in _ (by have := K1.out; omega)
        have hc := rfind81 x (H2.out.fr HF.out (by simp)) (by have := Hl.out; omega)
        have him := idx_mem (l := want) (x := x)
        have hsn : t.vars.take (j + 1) = t.vars.take j ++ [x] := by
          rw [List.take_succ_eq_append_getElem hlt, (List.getElem?_eq_some_iff.1 hx).2]
        generalize hix : idx want x = ix at *
        have Hc := Lib.hid hc; have Him := Lib.hid him; have Hsn := Lib.hid hsn; clear hc him hix hx hsn
        have hnn : (0 : Int) ≤ (j : Int) := by omega
        go_wp2_with fail
        (with_reducible refine Hc.out.mono ?_)
        rintro e w9 ⟨rfl, rfl⟩
        clear Hc
        by_cases hi : ix < 0
        · have hd : decide (ix < (0 : Int)) = true := decide_eq_true hi
          have hxn : x ∉ want := fun h => by have := Him.out.2 h; omega
          have hnew : leftL (t.vars.take (j + 1)) want = leftL (t.vars.take j) want ++ [x] := by
            rw [Hsn.out]; unfold leftL; rw [List.filter_append]; simp [hasS, hxn]
          have Hnew := Lib.hid hnew
          clear hi hxn hnew
          generalize leftL (t.vars.take j) want = L at *
          have hroom : L.length ≤ 8 := by have := Hkl.out; have := K1.out; omega
          have hsl := HO2.out.sl
          rw [List.length_map] at hsl
          have Hsl := Lib.hid hsl; clear hsl
          have hgl : g < wr.heap.size + 1 := by omega
          obtain ⟨i0, hi0, hz0, hz1, hz2⟩ := info_parts infoS
          go_wp2_with (at_builtin; refine wpList_append_one _ rfl (.tmp 32) (.tmp 38) 22 rfl 9 i0 (.string .empty) 1 16 Tryz.underlying22 hi0 hz0 hz1 hz2 rfl (.slice ya L.length yc) L.length (L.map Value.string) rfl (Hsl.out.alloc _) wr.heap.size 1 [.string x] 9 rfl (heap_alloc_at _ _ _ rfl) rfl rfl ⟨by omega, by omega⟩ ?_)
          intro g3 off3 c3 w5 hsl3 hfr3 hat hlt3
          have hown := (HO2.out.still ((World.Fr.refl wr []).alloc (.cells #[.string x] 9))).appended (x := .string x) (g := g3) (off := off3) (c := c3) (by rw [List.length_map]; exact hsl3) hfr3 (by simpa using hat)
          rw [List.length_map] at hown
          have hmap : L.map Value.string ++ [.string x] = (L ++ [x]).map Value.string := by simp
          rw [hmap, ← Hnew.out] at hown
          have Hown := Lib.hid hown; clear hown hsl3 hfr3 hat kx hlt3 hmap i0 hi0 hz0 hz1 hz2
          go_wp2
          go_roundw
          case rel => exact ⟨j + 1, by go_num, by omega, Hown⟩
          case measure => simp [intOf]; omega
        · have hd : decide (ix < (0 : Int)) = false := decide_eq_false hi
          have hxi : x ∈ want := Him.out.1 (by omega)
          have hnew : leftL (t.vars.take (j + 1)) want = leftL (t.vars.take j) want := by
            rw [Hsn.out]; unfold leftL; rw [List.filter_append]; simp [hasS, hxi]
          have Hnew := Lib.hid hnew
          clear hi hxi hnew
          go_wp2
          go_roundw
          case rel => exact ⟨j + 1, by go_num, by omega, by rw [Hnew.out]; exact HO2⟩
          case measure => simp [intOf]; omega
      · have hd : decide ((j : Int) < (t.vars.length : Int)) = false := decide_eq_false (by omega)
        have hd2 : decide (j < t.vars.length) = false := decide_eq_false hlt
        obtain rfl : j = t.vars.length := by omega
        rw [List.take_of_length_le (Nat.le_refl _)] at HO2 ⊢
        have hc := Hcol.out _ HF.out _ (HO2.out.rd (fun s hs => Hv1.out.wf s (leftL_mem.1 hs).1)) K1.out Hlw.out Ht.out.rows K3.out Hln.out (fun x hx => (leftL_mem.1 hx).1) Ht.out.ok
        have Hbx := Lib.hid (HO2.out.fr.heap Q2.out (by simp))
        have Hc := Lib.hid hc
        clear hc hlt hj HO2 Hkl
        generalize (leftL t.vars want).length = nl at *
        go_wp2_with fail
        (with_reducible refine Hc.out.mono ?_)
        rintro e w5 ⟨v, rfl, ho⟩
        obtain ⟨x1, y1, x2, y2, rfl⟩ := ho.shape
        have hbx := ho.fr.heap Hbx.out (by simp)
        have ho2 := (ho.since HF.out).put hbx (by have := Hb1.out; omega)
        clear p0 p1 pf hlb
        obtain ⟨p0, p1, pf⟩ := two hbx
        have hbW := lt_of_heap hbx
        obtain ⟨f0, f1, _⟩ := two ho2.2
        have Hfin := Lib.hid ho2.1
        clear ho2 ho hbx
        go_wp2
        refine bodyPost_ret (v := .tuple #[.agg #[.slice x1 _ y1, .slice x2 _ y2], .int .i64 0]) (by simp [results, Tryz.results38, go_sem, f0, f1]) rfl ⟨_, rfl, Hfin.out⟩
  · have hres : R = (tcheck cf t, tNone) := by rw [← HR.out]; unfold dropT; rw [if_pos h0]
    have h0b : (tcheck cf t == 0) = false := beq_eq_false_iff_ne.2 h0
    have h0c : (tcheck cf t != 0) = true := by simp [h0]
    clear h0 HR
    generalize tcheck cf t = z at *
    subst hres
    go_wp2
    have hfin := (OwnTab.empty (w := w) Q3.out).put Q2.out (by have := Hb1.out; omega)
    obtain ⟨f0, f1, _⟩ := two hfin.2
    have Hfin := Lib.hid hfin.1
    clear hfin p0 p1 pf
    refine bodyPost_ret (v := .tuple #[.agg #[.slice none 0 0, .slice none 0 0], .int .i64 z]) (by simp [results, Tryz.results38, go_sem, f0, f1]) rfl ⟨_, rfl, Hfin.out⟩
end Go.Proofs.YtikodapgceokhaaGreat
