/-
  The law's copied: a table of its own.
-/
import Derived.Test.YtikodapgceokhaaGreatMad
namespace Go.Proofs.YtikodapgceokhaaGreat
open Go.RowKit

set_option maxRecDepth 100000 in
set_option maxHeartbeats 4000000 in
theorem copied14 {w : World} {v : Value} {t : Tb} (h : RdTab w v t) (hl1 : t.vars.length ≤ 8796093021952) (hl2 : t.rows.length ≤ 5864062014634) (hl3 : ∀ r, r ∈ t.rows → r.length ≤ 3518437208780) :
    Calls Tryz.prog 14 #[v] w fun e w' => ∃ u, e = .returned u ∧ OwnTab w w' u t := by
  obtain ⟨va, vb, hs, rfl, hv, hr⟩ := h.ex
  obtain ⟨aa, ca, rfl, _, _⟩ := hv.rd.shape
  obtain ⟨ab, cb, rfl, _, _⟩ := hr.rd.shape
  have hlen := hr.len
  rw [hlen] at hr ⊢
  have hwf : (∀ s, s ∈ t.vars → s.size ≤ 9223372036854775807) ∧ ∀ r, r ∈ t.rows → ∀ v, v ∈ r → v.wf := by
    refine ⟨hv.wf, fun r hrm => ?_⟩
    obtain ⟨i, hi⟩ := List.getElem?_of_mem hrm
    have hlt := (List.getElem?_eq_some_iff.1 hi).1
    obtain ⟨hvv, hh⟩ : ∃ x, hs[i]? = some x := ⟨hs[i]'(by omega), List.getElem?_eq_getElem (by omega)⟩
    exact (hr.row i hvv r hh hi).wf
  have Hv := Lib.hid hv; have Hr := Lib.hid hr; have Hl1 := Lib.hid hl1; have Hl2 := Lib.hid hl2; have Hl3 := Lib.hid hl3; have Hlen := Lib.hid hlen; have Hwf := Lib.hid hwf; clear h hv hr hl1 hl2 hl3 hlen hwf
  have q1 := heap_alloc_at w (.cells #[.slice aa t.vars.length ca, .slice ab t.rows.length cb] 25) _ rfl
  have q2 := heap_alloc_at (w.alloc (.cells #[.slice aa t.vars.length ca, .slice ab t.rows.length cb] 25)) (.cells #[.slice none 0 0, .slice none 0 0] 25) (w.heap.size + 1) (by simp)
  have q3 := heap_alloc_at ((w.alloc (.cells #[.slice aa t.vars.length ca, .slice ab t.rows.length cb] 25)).alloc (.cells #[.slice none 0 0, .slice none 0 0] 25)) (.cells #[.slice none 0 0, .slice none 0 0] 25) (w.heap.size + 2) (by simp)
  have q1 := heap_alloc_some (heap_alloc_some q1 (.cells #[.slice none 0 0, .slice none 0 0] 25)) (.cells #[.slice none 0 0, .slice none 0 0] 25)
  have q2 := heap_alloc_some q2 (.cells #[.slice none 0 0, .slice none 0 0] 25)
  have qf := (((World.Fr.refl w []).alloc (.cells #[.slice aa t.vars.length ca, .slice ab t.rows.length cb] 25)).alloc (.cells #[.slice none 0 0, .slice none 0 0] 25)).alloc (.cells #[.slice none 0 0, .slice none 0 0] 25)
  go_enter Tryz.func14, Tryz.ntmps14
  go_upto_region 2 with (fail)
  generalize hW : World.alloc (World.alloc (World.alloc w _) _) _ = W at *
  clear hW
  obtain ⟨x0, x1, xf⟩ := two q1
  obtain ⟨z0, z1, zf⟩ := two q3
  have Q1 := Lib.hid q1; have Q2 := Lib.hid q2; have Q3 := Lib.hid q3; have Qf := Lib.hid qf; clear q1 q2 q3 qf
  obtain ⟨i0, hi, hz0, hz1, hz2⟩ := info_parts infoS
  go_wp2_with (at_builtin; refine wpList_append_src _ rfl (.tmp 7) (.tmp 9) 22 rfl 9 i0 (.string .empty) 1 16 Tryz.underlying22 hi hz0 hz1 hz2 rfl (.slice none 0 0) 0 [] rfl (World.Sl.nil _ _ _) (.slice aa t.vars.length ca) t.vars.length (t.vars.map Value.string) rfl (Hv.out.fr Qf.out (by simp)).rd (one_strings t.vars) ⟨by have := Hl1.out; omega, by have := Hl1.out; omega⟩ ?_)
  intro v' w1 hs1 hf1 hb1
  obtain ⟨xa, xc, rfl, _, _⟩ := hs1.shape
  try simp only [Nat.zero_add, List.nil_append] at hs1
  try simp only [Nat.zero_add]
  have hf1' : W.Fr w1 [] := by simpa [Value.blk] using hf1
  have hb1' : ∀ k, k ∈ (Value.slice xa t.vars.length xc).blk → W.heap.size ≤ k := fun k hk => by
    rcases hb1 k hk with h | h
    · simp [Value.blk] at h
    · omega
  have q1 := hf1'.heap Q1.out (by simp); have q2 := hf1'.heap Q2.out (by simp); have q3 := hf1'.heap Q3.out (by simp); have qf := Qf.out.trans hf1' (by simp)
  have hWs : w.heap.size + 2 < W.heap.size := lt_of_heap Q3.out
  clear x0 x1 xf z0 z1 zf hf1 hb1 Q1 Q2 Q3 Qf i0 hi hz0 hz1 hz2
  obtain ⟨z0, z1, zf⟩ := two q3
  go_upto_region 3 with (fail)
  have h1 := heap_set_other q1 ⟨w.heap.size + 2, 0, none⟩ (by show w.heap.size ≠ w.heap.size + 2; omega) (.slice xa t.vars.length xc)
  have h2 := heap_set_other q2 ⟨w.heap.size + 2, 0, none⟩ (by show w.heap.size + 1 ≠ w.heap.size + 2; omega) (.slice xa t.vars.length xc)
  have h3 := heap_set_same q3 0 (.slice xa t.vars.length xc)
  have hff : w.Fr (w1.setCell ⟨w.heap.size + 2, 0, none⟩ (.slice xa t.vars.length xc)) [] := qf.setCell (.inr (by show w.heap.size ≤ w.heap.size + 2; omega)) _
  have hsl := hs1.setCell (a := ⟨w.heap.size + 2, 0, none⟩) (fun hk => sl_box hs1 q3 (by decide) _ hk rfl) (.slice xa t.vars.length xc)
  clear z0 z1 zf q1 q2 q3 qf hs1 hf1'
  generalize hW5 : World.setCell w1 _ _ = W5 at *
  clear hW5
  have hw5 : w.heap.size ≤ W5.heap.size := hff.size
  have HR0 : Hid (RV W5 W5 (w.heap.size + 2) (.slice xa t.vars.length xc) (.slice none 0 0) [] []) := Lib.hid ⟨h3, World.Sl.nil _ _ _, rfl, by simp [Value.blk], by simp, World.Fr.refl _ _⟩
  have Q1 := Lib.hid h1; have Q2 := Lib.hid h2; have Qf := Lib.hid hff; have Hsl := Lib.hid hsl; have Hxa := Lib.hid hb1'; have Hw5 := Lib.hid hw5; have HWs := Lib.hid hWs
  clear h1 h2 h3 hff hsl hb1' hw5 hWs
  go_wp2
  go_loopw [4] (fun i wr => ∃ (j : Nat) (vb : Value) (hsn : List Value), i = .int .i64 j ∧ j ≤ t.rows.length ∧ Hid (RV W5 wr (w.heap.size + 2) (.slice xa t.vars.length xc) vb hsn (t.rows.take j))) (fun i _ => (t.rows.length - intOf i).toNat)
  case atStart => exact ⟨0, _, [], rfl, Nat.zero_le _, HR0⟩
  case round =>
    obtain ⟨j, vb, hsn, rfl, hj, HR⟩ := hrel
    obtain ⟨xb, xcb, rfl, _, _⟩ := HR.out.sl.shape
    have hfr : w.Fr wr [] := Qf.out.trans HR.out.fr (fun k hk => .inr (by simp at hk; omega))
    have q1 := HR.out.fr.heap Q1.out (by simp)
    obtain ⟨x0, x1, xf⟩ := two q1
    have Hfr := Lib.hid hfr
    clear hfr
    by_cases hlt : j < t.rows.length
    · obtain ⟨x, hx⟩ : ∃ x, t.rows[j]? = some x := ⟨t.rows[j], List.getElem?_eq_getElem (by omega)⟩
      have hxm := List.mem_of_getElem? hx
      have hxl := Hl3.out x hxm
      obtain ⟨g, off, c, ax, mx, hv, hg, kx, hrow⟩ := (Hr.out.still Hfr.out).at hx
      cases hv
      have hjI : (j : Int) < (t.rows.length : Int) := by omega
      have hw1 : IntKind.i64.wrap ((j : Int) + 1) = (j : Int) + 1 := IntWalk.i64_in _ (by have := Hl2.out; omega)
      have hrlen : hsn.length = j := by have := HR.out.len; simp at this; omega
      have Hrow := Lib.hid hrow; have Hx := Lib.hid hx; have Hxl := Lib.hid hxl; have Hrlen := Lib.hid hrlen; have Q1' := Lib.hid q1
      clear hrow hx hxl hrlen hxm q1
      obtain ⟨iv, hiv, hv0, hv1, hv2⟩ := info_parts infoV
      go_wp2_with (at_builtin; refine wpList_append_src _ rfl (.tmp 19) (.tmp 24) 32 rfl 60 iv (.agg #[.int .i64 0, .int .i64 0, .int .i64 0, .string .empty]) 4 40 Tryz.underlying32 hiv hv0 hv1 hv2 rfl (.slice none 0 0) 0 [] rfl (World.Sl.nil _ _ _) (.slice ax x.length mx) x.length (x.flatMap V.enc) rfl Hrow.out.rd (one_row x) ⟨by have := Hxl.out; omega, by have := Hxl.out; omega⟩ ?_)
      intro v' w6 hs6 hf6 hb6
      obtain ⟨ya, yc, rfl, _, _⟩ := hs6.shape
      try simp only [Nat.zero_add, List.nil_append] at hs6
      try simp only [Nat.zero_add]
      have hown : OwnRow wr w6 (.slice ya x.length yc) x := by
        refine ⟨hs6, fun k hk => ?_, by simpa [Value.blk] using hf6⟩
        rcases hb6 k hk with h | h
        · simp [Value.blk] at h
        · omega
      have hbx := hO_box HR.out hown
      have hslb := HR.out.sl.fr hown.fr (by simp)
      rw [Hrlen.out] at hslb hbx
      obtain ⟨b0, b1, bf⟩ := two hbx
      have hb6 : w.heap.size + 2 < w6.heap.size := lt_of_heap hbx
      have hb7 : w.heap.size + 2 < w6.heap.size + 1 := by omega
      have Hown := Lib.hid hown; have Hbx := Lib.hid hbx; have Hslb := Lib.hid hslb
      clear hown hbx hslb hs6 hf6 kx x0 x1 xf iv hiv hv0 hv1 hv2
      obtain ⟨ih, hih, hh0, hh1, hh2⟩ := info_parts infoH
      have hroom : j < 5864062014634 := by have := Hl2.out; omega
      go_wp2_with (at_builtin; refine wpList_append_one _ rfl (.tmp 27) (.tmp 29) 23 rfl 32 ih (.slice none 0 0) 1 24 Tryz.underlying23 hih hh0 hh1 hh2 rfl (.slice xb j xcb) j hsn rfl (Hslb.out.alloc _) w6.heap.size 1 [.slice ya x.length yc] 32 rfl (heap_alloc_at _ _ _ rfl) rfl rfl ⟨by omega, by omega⟩ ?_)
      intro g3 off3 c3 w7 hsl7 hfr7 hat hlt7
      have hown7 := Hown.out.still ((World.Fr.refl w6 []).alloc (.cells #[.slice ya x.length yc] 32))
      have hpush := HR.out.push hown7 (g := g3) (off := off3) (c := c3) (by rw [Hrlen.out]; exact hsl7) (by rw [Hrlen.out]; exact hfr7) (by rw [Hrlen.out]; rcases hat with h | h; exact .inl h; exact .inr (by simp at h ⊢; omega))
      rw [Hrlen.out] at hpush
      have hsnr : t.rows.take (j + 1) = t.rows.take j ++ [x] := by
        rw [List.take_succ_eq_append_getElem hlt, (List.getElem?_eq_some_iff.1 Hx.out).2]
      rw [← hsnr] at hpush
      have hb7x := hfr7.heap (heap_alloc_some Hbx.out (.cells #[.slice ya x.length yc] 32)) (fun hk => sl_box Hslb.out Hbx.out (by decide) _ hk rfl)
      have Hpush := Lib.hid hpush
      clear hpush hsnr hsl7 hfr7 hat hown7 b0 b1 bf
      obtain ⟨b0, b1, bf⟩ := two hb7x
      go_wp2
      go_roundw
      case rel => exact ⟨j + 1, _, _, by go_num, by omega, Hpush⟩
      case measure => simp [intOf]; omega
    · have hd : decide ((j : Int) < (t.rows.length : Int)) = false := decide_eq_false (by omega)
      have hd2 : decide (j < t.rows.length) = false := decide_eq_false hlt
      obtain rfl : j = t.rows.length := by omega
      have hR := HR.out
      rw [List.take_of_length_le (Nat.le_refl _)] at hR
      have hon : OwnTab w wr (.agg #[.slice xa t.vars.length xc, .slice xb hsn.length xcb]) t := by
        refine ⟨⟨_, _, hsn, rfl, Hsl.out.fr hR.fr (fun k hk => by have := Hxa.out k hk; have := HWs.out; simp; omega), hR.sl, hR.len, fun k hk => by have := Hxa.out k hk; have := HWs.out; omega, fun k hk => by have := hR.new k hk; have := Hw5.out; omega, fun i hv r ha hb => ⟨(hR.row i hv r ha hb).1, fun k hk => by have := (hR.row i hv r ha hb).2 k hk; have := Hw5.out; omega⟩⟩, Hwf.out, Hfr.out⟩
      have hq2 := hR.fr.heap Q2.out (by simp)
      have hput := hon.put hq2 (by omega)
      obtain ⟨b0, b1, bf⟩ := two hR.box
      obtain ⟨y0, y1, yf⟩ := two hq2
      obtain ⟨f0, f1, _⟩ := two hput.2
      have Hfin := Lib.hid hput.1
      clear hput hon hR HR hlt hj
      go_wp2
      refine bodyPost_ret (v := .agg #[.slice xa t.vars.length xc, .slice xb hsn.length xcb]) (by simp [results, Tryz.results14, go_sem, f0, f1]) rfl ⟨_, rfl, Hfin.out⟩
end Go.Proofs.YtikodapgceokhaaGreat
