/-
  The walk of table.columns.
-/
import Derived.Test.YtikodapgceokhaaGreatCols
namespace Go.Proofs.YtikodapgceokhaaGreat
open Go.RowKit

set_option maxRecDepth 100000 in
set_option maxHeartbeats 4000000 in
theorem columns83 {okc : V → Prop} {cf : V → V → Int} (hK : Ctx okc cf) {w : World} {v1 v2 : Value} {t : Tb} {want : List BA} (h1 : RdTab w v1 t) (h2 : RdStr w v2 want) (hl : t.vars.length ≤ 8) (hl2 : want.length ≤ 8) (hm : t.rows.length ≤ 5864062014634) (hw : ∀ r, r ∈ t.rows → r.length = t.vars.length) (hok : ∀ r, r ∈ t.rows → ∀ x, x ∈ r → okc x ∧ vcheck x = 0) (hu : want.Nodup) (hin : ∀ x, x ∈ want → x ∈ t.vars) :
    Calls Tryz.prog 83 #[v1, v2] w fun e w' => ∃ v, e = .returned v ∧ OwnTab w w' v (madeT cf want (t.rows.map fun r => pick t.vars r want)) := by
  obtain ⟨x1, y1, hs1, rfl, hv1, hr1⟩ := h1.ex
  obtain ⟨a1, c1, rfl, _, _⟩ := hv1.rd.shape
  obtain ⟨a2, c2, rfl, _, _⟩ := h2.rd.shape
  obtain ⟨a3, c3, rfl, _, _⟩ := hr1.rd.shape
  have hlen := hr1.len
  rw [hlen] at hr1 ⊢
  clear hlen h1
  have hmk := fun W => run_make60 want.length (by omega) W
  have Hv1 := Lib.hid hv1; have H2 := Lib.hid h2; have Hr1 := Lib.hid hr1; have Hl := Lib.hid hl; have Hl2 := Lib.hid hl2; have Hm := Lib.hid hm; have Hw := Lib.hid hw; have HK := Lib.hid hK; have Hok := Lib.hid hok; have Hu := Lib.hid hu; have Hin := Lib.hid hin; have Hmk := Lib.hid hmk; clear h2 hv1 hr1 hl hl2 hm hw hK hok hu hin hmk
  go_enter Tryz.func83, Tryz.ntmps83
  go_upto_region 1 with (fail)
  generalize hW : World.alloc (World.alloc w _) _ = W
  have q1 : W.heap[w.heap.size]? = some (.cells #[.slice a1 t.vars.length c1, .slice a3 t.rows.length c3] 25 (0, 0)) := by rw [← hW]; exact heap_alloc_some (heap_alloc_at _ _ _ rfl) _
  have q2 : W.heap[w.heap.size + 1]? = some (.cells #[.slice none 0 0, .slice none 0 0] 25 (0, 0)) := by rw [← hW]; exact heap_alloc_at _ _ _ (by simp)
  have q3 : w.Fr W [] := by rw [← hW]; exact ((World.Fr.refl w []).alloc _).alloc _
  clear hW
  generalize hb1 : w.heap.size = b1 at *
  have Hb1 := Lib.hid hb1; clear hb1
  obtain ⟨p0, p1, pf⟩ := two q1
  have Q1 := Lib.hid q1; have Q2 := Lib.hid q2; have Q3 := Lib.hid q3; clear q1 q2 q3
  have hc := places70 (Hv1.out.fr Q3.out (by simp)) (H2.out.fr Q3.out (by simp)) (by have := Hl.out; omega) (by have := Hl2.out; omega)
  have Hc := Lib.hid hc; clear hc
  go_wp2_with fail
  refine Hc.out.mono ?_
  rintro e w1 ⟨vp, rfl, hop⟩
  obtain ⟨pa, pc, rfl⟩ := hop.shape
  have hpl : (pcells t.vars want).length = want.length := by simp
  rw [hpl] at hop ⊢
  have q1 := hop.fr.heap Q1.out (by simp)
  have q2 := hop.fr.heap Q2.out (by simp)
  have q3 := Q3.out.trans hop.fr (by simp)
  have hps := hop.sl
  rw [hpl] at hps
  clear p0 p1 pf Hc Q1 Q2 Q3 hop hpl
  obtain ⟨p0, p1, pf⟩ := two q1
  have hlb := lt_of_heap q1
  have Q1 := Lib.hid q1; have Q2 := Lib.hid q2; have Q3 := Lib.hid q3; have Hps := Lib.hid hps; clear q1 q2 q3 hps
  have HR0 : Hid (RowsR w1 w1 (.slice none 0 0) [] []) := Lib.hid (RowsR.nil w1)
  go_wp2
  clear p0 p1 pf
  go_loopw [19, 6] (fun i vb wr => ∃ (j : Nat) (hsn : List Value), i = .int .i64 j ∧ j ≤ t.rows.length ∧ Hid (RowsR w1 wr vb hsn ((t.rows.take j).map fun r => pick t.vars r want))) (fun i _ _ => (t.rows.length - intOf i).toNat)
  case atStart => exact ⟨0, [], rfl, Nat.zero_le _, HR0⟩
  case round =>
    obtain ⟨j, hsn, rfl, hj, HR⟩ := hrel
    obtain ⟨xa, xc, hxv, _, _⟩ := HR.out.sl.shape
    subst hxv
    by_cases hlt : j < t.rows.length
    · obtain ⟨r, hr⟩ : ∃ r, t.rows[j]? = some r := ⟨t.rows[j], List.getElem?_eq_getElem hlt⟩
      have hrm := List.mem_of_getElem? hr
      have hrl := Hw.out r hrm
      have hfr := Q3.out.trans HR.out.fr (by simp)
      obtain ⟨g, off, c, ax, mx, hv, hg, kx, hrow⟩ := (Hr1.out.still hfr).at hr
      cases hv
      have hjI : (j : Int) < (t.rows.length : Int) := by omega
      have hw1 : IntKind.i64.wrap ((j : Int) + 1) = (j : Int) + 1 := IntWalk.i64_in _ (by have := Hm.out; omega)
      have hmk := Hmk.out
      have Hr := Lib.hid hr; have Hrm := Lib.hid hrm; have Hrl := Lib.hid hrl; have Hrow := Lib.hid hrow; have Hfr := Lib.hid hfr
      clear hr hrm hrl hrow hfr
      go_upto_region 7 with (fail)
      have HO0 := Lib.hid (ownRow_make want.length (by have := Hl2.out; omega) wr)
      generalize hW5 : World.alloc wr _ = W5 at *
      clear hW5 hmk kx
      go_wp2
      obtain ⟨wQ, rfl⟩ : ∃ wQ : World, wQ = wr := ⟨_, rfl⟩
      go_loopw [28, 9] (fun i v wr => ∃ (k : Nat), i = .int .i64 k ∧ k ≤ want.length ∧ Hid (OwnRow wQ wr v (pick t.vars r (want.take k)))) (fun i _ _ => (want.length - intOf i).toNat)
      case atStart => exact ⟨0, rfl, Nat.zero_le _, HO0⟩
      case round =>
        obtain ⟨k, rfl, hk, HO⟩ := hrel
        have hkl : (pick t.vars r (want.take k)).length = k := by rw [pick_len]; simp; omega
        obtain ⟨ya, yc, hyv, _, _⟩ := HO.out.sl.shape
        subst hyv
        have hO := HO.out
        rw [hkl] at hO ⊢
        have hfo := HR.out.fr.trans hO.fr (by simp)
        by_cases hkt : k < want.length
        · obtain ⟨x, hx⟩ : ∃ x, want[k]? = some x := ⟨want[k], List.getElem?_eq_getElem hkt⟩
          have hkI : (k : Int) < (want.length : Int) := by omega
          have hw2 : IntKind.i64.wrap ((k : Int) + 1) = (k : Int) + 1 := IntWalk.i64_in _ (by have := Hl2.out; omega)
          obtain ⟨p, hp⟩ : ∃ p : Nat, idx t.vars x = p := ⟨(idx t.vars x).toNat, by have := idx_mem.2 (Hin.out x (List.mem_of_getElem? hx)); omega⟩
          have hpr := idx_range t.vars x
          rw [hp] at hpr
          have hpI : (p : Int) < (t.vars.length : Int) := hpr.2
          have hsn : pick t.vars r (want.take (k + 1)) = pick t.vars r (want.take k) ++ [r.getD p default] := by
            rw [List.take_succ_eq_append_getElem hkt, (List.getElem?_eq_some_iff.1 hx).2]
            simp [pick, hp]
          have hry : r[p]? = some (r.getD p default) := by
            have : p < r.length := by have := Hrl.out; omega
            rw [List.getD_eq_getElem?_getD, List.getElem?_eq_getElem this]; rfl
          have hrow3 := Hrow.out.fr hO.fr (by simp)
          obtain ⟨g2, off2, c2', hv2, hg2, ky0, ky1, ky2, ky3⟩ := hrow3.at hry
          rw [Hrl.out] at hv2
          have ko := (Hps.out.fr hfo (by simp))
          obtain ⟨g4, off4, c4, hv4, _, _, hg4, kcs, _⟩ := ko.form (by omega)
          cases hv4
          have ko := kcs k (by omega)
          clear kcs
          rw [List.getElem?_map, hx] at ko
          simp only [Option.map_some, hp] at ko
          have Hsn := Lib.hid hsn; have Hkl := Lib.hid hkl; have HO2 := Lib.hid hO
          clear hsn hkl hO HO hry hrow3 hx hp hpr hfo
          generalize r.getD p default = y at *
          generalize pick t.vars r (want.take k) = ys at *
          have hrlI : (p : Int) < (r.length : Int) := by rw [Hrl.out]; exact hpI
          have hroom : k < 9 := by have := Hl2.out; omega
          have hsly := HO2.out.sl
          rw [Hkl.out] at hsly
          have hgl : g2 < wr.heap.size + 1 := by omega
          have Hsly := Lib.hid hsly; clear hsly
          rw [← Hrl.out] at hv2
          cases hv2
          obtain ⟨iv, hiv, hv0, hv1, hv2⟩ := info_parts infoV
          go_wp2_with (at_builtin; refine wpList_append_one _ rfl (.tmp 32) (.tmp 37) 32 rfl 60 iv (.agg #[.int .i64 0, .int .i64 0, .int .i64 0, .string .empty]) 4 40 Tryz.underlying32 hiv hv0 hv1 hv2 rfl (.slice ya k yc) k (ys.flatMap V.enc) rfl (Hsly.out.alloc _) wr.heap.size 1 (V.enc y) 60 rfl (heap_alloc_at _ _ _ rfl) rfl rfl ⟨by omega, by omega⟩ ?_)
          intro g3 off3 c3 w5 hsl hfr3 hat hlt3
          have hown := (HO2.out.still ((World.Fr.refl wr []).alloc (.cells (V.enc y).toArray 60))).appended (y := y) (g := g3) (off := off3) (c := c3) (by rw [Hkl.out]; exact hsl) hfr3 (by simpa using hat)
          rw [Hkl.out, ← Hsn.out] at hown
          have Hown := Lib.hid hown; clear hown hsl hfr3 hat ky0 ky1 ky2 ky3 ko hlt3
          go_wp2
          go_roundw
          case rel => exact ⟨k + 1, by go_num, by omega, Hown⟩
          case measure => simp [intOf]; omega
        · have hd : decide ((k : Int) < (want.length : Int)) = false := decide_eq_false (by omega)
          have hd2 : decide (k < want.length) = false := decide_eq_false hkt
          obtain rfl : k = want.length := by omega
          rw [List.take_of_length_le (Nat.le_refl _)] at hO hkl
          have HRn := Lib.hid hO
          clear hO HO hkt hk
          have hxs := HR.out.still HRn.out.fr
          have hjh : hsn.length = j := by have := HR.out.len; rw [this]; simp; omega
          have hoff := fun k hk => apart HRn.out.sl hxs.sl (by decide) k (Value.rblk_sub hk)
          have hsl0 := hxs.sl
          rw [hjh] at hsl0
          have Hxs := Lib.hid hxs; have Hjh := Lib.hid hjh; have Hoff := Lib.hid hoff; have Hsl0 := Lib.hid hsl0; have Hkl := Lib.hid hkl; clear hxs hjh hoff hsl0 hfo hkl
          have hroom : j < 5864062014634 := by have := Hm.out; omega
          obtain ⟨ih, hih, hh0, hh1, hh2⟩ := info_parts infoH
          rw [Hjh.out]
          go_wp2_with (at_builtin; refine wpList_append_one _ rfl (.tmp 40) (.tmp 42) 23 rfl 32 ih (.slice none 0 0) 1 24 Tryz.underlying23 hih hh0 hh1 hh2 rfl (.slice xa j xc) j hsn rfl (Hsl0.out.alloc _) wr.heap.size 1 [.slice ya want.length yc] 32 rfl (heap_alloc_at _ _ _ rfl) rfl rfl ⟨by omega, by omega⟩ ?_)
          intro g3 off3 c3 w5 hsl hfr3 hat hlt3
          have hf1 : wQ.Fr (wr.alloc (.cells #[.slice ya want.length yc] 32)) [] := HRn.out.fr.alloc _
          have hrd : RdRow (wr.alloc (.cells #[.slice ya want.length yc] 32)) (.slice ya want.length yc) (pick t.vars r want) :=
            (HRn.out.rd (fun x hx => Hrow.out.wf x (pick_mem Hin.out Hrl.out hx))).fr ((World.Fr.refl wr []).alloc _) (by simp)
          have hpush := HR.out.push hf1 hrd Hoff.out (g := g3) (off := off3) (c := c3) (by rw [Hjh.out]; exact hsl) (by rw [Hjh.out]; exact hfr3) (by rw [Hjh.out]; rcases hat with h | h; exact .inl h; exact .inr (by simp at h ⊢; omega))
          rw [Hjh.out] at hpush
          have hsnr : (t.rows.take (j + 1)).map (fun r => pick t.vars r want) = (t.rows.take j).map (fun r => pick t.vars r want) ++ [pick t.vars r want] := by
            rw [List.take_succ_eq_append_getElem hlt, (List.getElem?_eq_some_iff.1 Hr.out).2]
            simp
          rw [← hsnr] at hpush
          have Hpush := Lib.hid hpush
          clear hpush hsnr hsl hfr3 hat hlt3 hf1 hrd
          go_wp2
          go_roundw
          case rel => exact ⟨j + 1, _, by go_num, by omega, Hpush⟩
          case measure => simp [intOf]; omega
    · have hd : decide ((j : Int) < (t.rows.length : Int)) = false := decide_eq_false (by omega)
      have hd2 : decide (j < t.rows.length) = false := decide_eq_false hlt
      obtain rfl : j = t.rows.length := by omega
      rw [List.take_of_length_le (Nat.le_refl _)] at HR
      have hfr := Q3.out.trans HR.out.fr (by simp)
      have hbx := HR.out.fr.heap Q2.out (by simp)
      have hc := made73 HK.out.cmp HK.out.ord (H2.out.fr hfr (by simp)) HR.out.rd Hl2.out (by simpa using Hm.out) (fun r hr => by
        obtain ⟨r0, _, rfl⟩ := List.mem_map.1 hr
        exact pick_len _ _ _) (fun r hr x hx => by
        obtain ⟨r0, hr0, rfl⟩ := List.mem_map.1 hr
        exact Hok.out r0 hr0 x (pick_mem Hin.out (Hw.out r0 hr0) hx)) Hu.out
      have Hc := Lib.hid hc; have Hbx := Lib.hid hbx; have Hfr := Lib.hid hfr; clear hc hbx hfr hlt hj
      go_wp2_with fail
      refine Hc.out.mono ?_
      rintro e w2 ⟨v, rfl, ho⟩
      obtain ⟨x1, y1, x2, y2, rfl⟩ := ho.shape
      have hbx := ho.fr.heap Hbx.out (by simp)
      have ho2 := (ho.since Hfr.out).put hbx (by have := Hb1.out; omega)
      obtain ⟨p0, p1, pf⟩ := two hbx
      have hbW := lt_of_heap hbx
      obtain ⟨f0, f1, _⟩ := two ho2.2
      have Hfin := Lib.hid ho2.1
      clear ho2 ho hbx
      go_wp2
      refine bodyPost_ret (v := .agg #[.slice x1 _ y1, .slice x2 _ y2]) (by simp [results, Tryz.results83, go_sem, f0, f1]) rfl ⟨_, rfl, Hfin.out⟩
end Go.Proofs.YtikodapgceokhaaGreat
