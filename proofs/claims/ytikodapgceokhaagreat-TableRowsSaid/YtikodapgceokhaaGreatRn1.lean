/-
  The document's Rename.
-/
import Derived.Test.YtikodapgceokhaaGreatRcA
import Derived.Test.YtikodapgceokhaaGreatRvs
import Derived.Test.YtikodapgceokhaaGreatRen
namespace Go.Proofs.YtikodapgceokhaaGreat
open Go.RowKit

theorem rmade77m {cf : V → V → Int} (hC : RCmpOk V.wf cf) (hO : OrdOk (fun v => V.wf v ∧ vcheck v = 0) cf) {w : World} {v1 v2 : Value} {l : List BA} {rs : List Row} {hs0 : List Value} (h1 : RdStr w v1 l) (h2 : RdRows w v2 rs hs0)
    (hl : l.length ≤ 3518437208780) (hr : rs.length ≤ 5864062014634) (hn : l.Nodup) (hw : ∀ r, r ∈ rs → r.length = l.length ∧ ∀ x, x ∈ r → vcheck x = 0) (hwf : ∀ r, r ∈ rs → ∀ x, x ∈ r → V.wf x) :
    Calls Tryz.prog 77 #[v1, v2] w fun e w' => ∃ u, e = .returned u ∧ OwnTab w w' u (madeT cf l rs) := by
  refine (rmade77 hC h1 h2 hl hr (fun r h => (hw r h).1) (fun r h y hy => ⟨hwf r h y hy, hwf r h y hy⟩)).mono ?_
  rintro e w' ⟨u, hs, he, hl', ho⟩
  rw [rmadeT_eq hO hn hl' (fun r h => (hw r h).1) (fun r h y hy => ⟨hwf r h y hy, (hw r h).2 y hy⟩)] at ho
  exact ⟨u, he, ho⟩

open Classical in
set_option maxRecDepth 100000 in
set_option maxHeartbeats 4000000 in
theorem rrename29 {cf : V → V → Int} (hRK : RChkOk V.wf) (hRC : RCmpOk V.wf cf) (hO : OrdOk (fun v => V.wf v ∧ vcheck v = 0) cf) {w : World} {v1 v2 v3 : Value} {t : Tb} {fs ts : List BA} (h1 : RdTab w v1 t) (h2 : RdStr w v2 fs) (h3 : RdStr w v3 ts) (ht : Fits V.wf t) (hl : fs.length ≤ 8796093021952) :
    Calls Tryz.prog 29 #[v1, v2, v3] w fun e w' => ∃ v, e = .returned (.tuple #[v, .int .i64 (renameT cf t fs ts).1]) ∧ OwnTab w w' v (renameT cf t fs ts).2 := by
  have hchk := fun w' (hf : w.Fr w' []) => rcheck16 hRK hRC (h1.still hf) ht.ok ht.small.vars ht.small.rows ht.small.row
  obtain ⟨x1, y1, hs1, rfl, hv1, hr1⟩ := h1.ex
  obtain ⟨a1, c1, rfl, _, _⟩ := hv1.rd.shape
  obtain ⟨a2, c2, rfl, _, _⟩ := h2.rd.shape
  obtain ⟨a5, c5, rfl, _, _⟩ := h3.rd.shape
  obtain ⟨a3, c3, rfl, _, _⟩ := hr1.rd.shape
  have hlen := hr1.len
  generalize hR : renameT cf t fs ts = R
  rw [hlen] at hr1 hchk ⊢
  clear hlen h1
  have Hv1 := Lib.hid hv1; have H2 := Lib.hid h2; have H3 := Lib.hid h3; have Hr1 := Lib.hid hr1; have Hl := Lib.hid hl; have Ht := Lib.hid ht; have HRC := Lib.hid hRC; have HO := Lib.hid hO; have Hchk := Lib.hid hchk; have HR := Lib.hid hR; clear h2 h3 hv1 hr1 hl ht hRK hRC hO hchk hR
  go_enter Tryz.func29, Tryz.ntmps29
  go_upto_region 1 with (fail)
  generalize hW : World.alloc (World.alloc w _) _ = W
  have q1 : W.heap[w.heap.size]? = some (.cells #[.slice a1 t.vars.length c1, .slice a3 t.rows.length c3] 25 (0, 0)) := by rw [← hW]; exact heap_alloc_some (heap_alloc_at _ _ _ rfl) _
  have q2 : W.heap[w.heap.size + 1]? = some (.cells #[.slice none 0 0, .slice none 0 0] 25 (0, 0)) := by rw [← hW]; exact heap_alloc_at _ _ _ (by simp)
  have q3 : w.Fr W [] := by rw [← hW]; exact ((World.Fr.refl w []).alloc _).alloc _
  clear hW
  generalize hb1 : w.heap.size = b1 at *
  have Hb1 := Lib.hid hb1; clear hb1
  obtain ⟨p0, p1, pf⟩ := two q1
  have Q1 := Lib.hid q1; have Q2 := Lib.hid q2; have Q3 := Lib.hid q3; clear q1 q2 q3
  go_wp2_with fail
  (with_reducible refine (Hchk.out _ Q3.out).mono ?_)
  rintro e w1 ⟨rfl, hf1⟩
  have q1 := hf1.heap Q1.out (by simp)
  have q2 := hf1.heap Q2.out (by simp)
  have q3 := Q3.out.trans hf1 (by simp)
  clear p0 p1 pf Q1 Q2 Q3 hf1
  obtain ⟨p0, p1, pf⟩ := two q1
  obtain ⟨r0, r1, rf⟩ := two q2
  have hlb := lt_of_heap q1
  have hlb2 := lt_of_heap q2
  have Q1 := Lib.hid q1; have Q2 := Lib.hid q2; have Q3 := Lib.hid q3; clear q1 q2 q3
  have hbad : ∀ (W : World) (z : Int), w.Fr W [] → W.heap[b1 + 1]? = some (.cells #[.slice none 0 0, .slice none 0 0] 25 (0, 0)) → OwnTab w ((W.setCell ⟨b1 + 1, 0, none⟩ (.slice none 0 0)).setCell ⟨b1 + 1, 1, none⟩ (.slice none 0 0)) (.agg #[.slice none 0 0, .slice none 0 0]) tNone ∧
      ((W.setCell ⟨b1 + 1, 0, none⟩ (.slice none 0 0)).setCell ⟨b1 + 1, 1, none⟩ (.slice none 0 0)).heap[b1 + 1]? = some (.cells #[.slice none 0 0, .slice none 0 0] 25 (0, 0)) := fun W z hf hb => (OwnTab.empty (w := w) hf).put hb (by have := Hb1.out; omega)
  have Hbad := Lib.hid hbad; clear hbad
  by_cases h0 : tcheck cf t = 0
  · rw [h0]
    obtain ⟨k1, k2, k3, k4⟩ := tcheck_zero h0
    have K1 := Lib.hid k1; have K2 := Lib.hid k2; have K3 := Lib.hid k3; clear k1 k2 k3 k4
    by_cases hft : fs.length = ts.length
    · have hres : R = if ¬ fs.Nodup ∨ ¬ (∀ x, x ∈ fs → x ∈ t.vars) then (30, tNone) else if ¬ (renL t.vars t.vars fs ts).Nodup then (30, tNone) else (0, madeT cf (renL t.vars t.vars fs ts) t.rows) := by
        rw [← HR.out]; unfold renameT; rw [if_neg (by simp [h0]), if_neg (by simp [hft])]
      have hbb : ((fs.length : Int) == (ts.length : Int)) = true := by simp [hft]
      have hbc : ((fs.length : Int) != (ts.length : Int)) = false := by simp [hft]
      have hun := runlike80 (H2.out.fr Q3.out (by simp)) (by have := Hl.out; omega)
      have HR2 := Lib.hid hres; have Hft := Lib.hid hft; have Hun := Lib.hid hun
      clear hres h0 hft HR hun
      go_wp2_with fail
      (with_reducible refine Hun.out.mono ?_)
      rintro e w2 ⟨rfl, hf2⟩
      have q1 := hf2.heap Q1.out (by simp)
      have q2 := hf2.heap Q2.out (by simp)
      have q3 := Q3.out.trans hf2 (by simp)
      clear p0 p1 pf r0 r1 rf Q1 Q2 Q3 hf2 Hun hlb hlb2 hbb hbc
      obtain ⟨p0, p1, pf⟩ := two q1
      obtain ⟨r0, r1, rf⟩ := two q2
      have hlb := lt_of_heap q1
      have hlb2 := lt_of_heap q2
      have Q1 := Lib.hid q1; have Q2 := Lib.hid q2; have Q3 := Lib.hid q3; clear q1 q2 q3
      by_cases hnd : fs.Nodup
      · rw [decide_eq_true hnd]
        have Hnd := Lib.hid hnd; clear hnd
        obtain ⟨i0, hi0, hz0, hz1, hz2⟩ := info_parts infoS
        go_wp2_with (at_builtin; refine wpList_append_src _ rfl (.tmp 31) (.tmp 33) 22 rfl 9 i0 (.string .empty) 1 16 Tryz.underlying22 hi0 hz0 hz1 hz2 rfl (.slice none 0 0) 0 [] rfl (World.Sl.nil _ _ _) (.slice a1 t.vars.length c1) t.vars.length (t.vars.map Value.string) rfl (Hv1.out.fr Q3.out (by simp)).rd (one_strings t.vars) ⟨by have := K1.out; omega, by have := K1.out; omega⟩ ?_)
        intro v' w5 hs5 hf5 hb5
        obtain ⟨a6, c6, rfl, _, _⟩ := hs5.shape
        try simp only [Nat.zero_add, List.nil_append] at hs5
        try simp only [Nat.zero_add]
        have hf5' : w2.Fr w5 [] := by simpa [Value.blk] using hf5
        have hb5' : ∀ k, k ∈ (Value.slice a6 t.vars.length c6).blk → w2.heap.size ≤ k := fun k hk => by
          rcases hb5 k hk with h | h
          · simp [Value.blk] at h
          · omega
        have q1 := hf5'.heap Q1.out (by simp)
        have q2 := hf5'.heap Q2.out (by simp)
        have q3 := Q3.out.trans hf5' (by simp)
        have hnew : ∀ k, k ∈ (Value.slice a6 t.vars.length c6).blk → w.heap.size ≤ k ∧ k ≠ b1 ∧ k ≠ b1 + 1 := fun k hk => by
          have := hb5' k hk
          have := Q3.out.size
          refine ⟨by omega, by omega, by omega⟩
        have Hnew := Lib.hid hnew; have Hos := Lib.hid hs5
        clear p0 p1 pf r0 r1 rf Q1 Q2 Q3 hlb hlb2 hnew hs5 hf5 hb5 hf5' hb5' i0 hi0 hz0 hz1 hz2
        have Q1 := Lib.hid q1; have Q2 := Lib.hid q2; have Q3 := Lib.hid q3; clear q1 q2 q3
        go_wp2
        go_loopw [11] (fun i wr => ∃ (j : Nat) (acc : List BA), i = .int .i64 j ∧ j ≤ fs.length ∧ Hid (renL t.vars acc (fs.drop j) (ts.drop j) = renL t.vars t.vars fs ts ∧ acc.length = t.vars.length ∧ ∀ s, s ∈ acc → s.size ≤ 9223372036854775807) ∧ Hid (∀ x, x ∈ fs.take j → x ∈ t.vars) ∧ Hid (wr.Sl 9 1 (.slice a6 t.vars.length c6) t.vars.length (acc.map Value.string)) ∧ Hid (w5.Fr wr (Value.slice a6 t.vars.length c6).blk)) (fun i _ => (fs.length - intOf i).toNat)
        case atStart => exact ⟨0, t.vars, rfl, Nat.zero_le _, Lib.hid ⟨rfl, rfl, Hv1.out.wf⟩, Lib.hid (by simp), Hos, Lib.hid (World.Fr.refl _ _)⟩
        case round =>
          obtain ⟨j, acc, rfl, hj, HA, HI, HS, HF⟩ := hrel
          have hfw := Q3.out.trans HF.out (fun k hk => .inr (Hnew.out k hk).1)
          have q1 := HF.out.heap Q1.out (fun hk => (Hnew.out _ hk).2.1 rfl)
          have q2 := HF.out.heap Q2.out (fun hk => (Hnew.out _ hk).2.2 rfl)
          obtain ⟨p0, p1, pf⟩ := two q1
          obtain ⟨r0, r1, rf⟩ := two q2
          have hlb := lt_of_heap q1
          have hlb2 := lt_of_heap q2
          have Q1b := Lib.hid q1; have Q2b := Lib.hid q2; have Hfw := Lib.hid hfw
          clear q1 q2 hfw
          by_cases hlt : j < fs.length
          · obtain ⟨f, hf⟩ : ∃ f, fs[j]? = some f := ⟨fs[j], List.getElem?_eq_getElem hlt⟩
            obtain ⟨z, hz⟩ : ∃ z, ts[j]? = some z := ⟨ts[j]'(by have := Hft.out; omega), List.getElem?_eq_getElem (by have := Hft.out; omega)⟩
            obtain ⟨g, off, c, hv, hg, kx⟩ := (H2.out.fr Hfw.out (by simp)).at hf
            cases hv
            have hjI : (j : Int) < (fs.length : Int) := by omega
            have hjT : (j : Int) < (ts.length : Int) := by have := Hft.out; omega
            have hw1 : IntKind.i64.wrap ((j : Int) + 1) = (j : Int) + 1 := IntWalk.i64_in _ (by have := Hl.out; omega)
            have hnn : (0 : Int) ≤ (j : Int) := by omega
            have hc := fun w' (hf : wr.Fr w' []) => rfind81 (w := w') f ((Hv1.out.fr Hfw.out (by simp)).fr hf (by simp)) (by have := K1.out; omega)
            have him := idx_mem (l := t.vars) (x := f)
            have hpr := idx_range t.vars f
            have hst := renL_step (l := t.vars) (acc := acc) hf hz
            have hsn : fs.take (j + 1) = fs.take j ++ [f] := by
              rw [List.take_succ_eq_append_getElem hlt, (List.getElem?_eq_some_iff.1 hf).2]
            have hfm := List.mem_of_getElem? hf
            generalize hix : idx t.vars f = ix at *
            have Hc := Lib.hid hc; have Him := Lib.hid him; have Hsn := Lib.hid hsn; have Hfm := Lib.hid hfm; have Hst := Lib.hid hst; have Hpr := Lib.hid hpr; have Hz := Lib.hid hz; clear hc him hix hf hsn hfm hst hpr hz
            have hq : ∀ n, Calls Tryz.prog 81 #[.slice a1 t.vars.length c1, .string f] (wr.drewN n) fun e w' => e = .returned (.int .i64 ix) ∧ w' = wr.drewN n := fun n => (Hc.out (wr.drewN n) ((World.Fr.refl wr []).of_drewN n)).mono fun e w' ⟨h1, h2⟩ => ⟨h1, h2.symm⟩
            by_cases hi : ix < 0
            · have hd : decide (ix < (0 : Int)) = true := decide_eq_true hi
              have hres : R = (30, tNone) := by
                rw [HR2.out, if_pos (.inr fun h => by have := Him.out.2 (h f Hfm.out); omega)]
              clear HR2 Him hi
              subst hres
              go_wp2
              go_quiet (first | (go_at_call 81; with_reducible exact Calls.quiet_of_same (hq _)))
              generalize hN : World.drewN wr _ = wd at *
              have hfd : wr.Fr wd [] := by rw [← hN]; exact (World.Fr.refl wr []).of_drewN _
              clear hN hq Hc
              have q2 := hfd.heap Q2b.out (by simp)
              have q3 := Hfw.out.trans hfd (by simp)
              clear p0 p1 pf r0 r1 rf hlb hlb2 hfd kx
              obtain ⟨r0, r1, rf⟩ := two q2
              have hlb2 := lt_of_heap q2
              have hfin := Hbad.out _ 30 q3 q2
              obtain ⟨f0, f1, _⟩ := two hfin.2
              have Hfin := Lib.hid hfin.1
              clear hfin q2 q3
              go_wp2
              refine bodyPost_ret (v := .tuple #[.agg #[.slice none 0 0, .slice none 0 0], .int .i64 30]) (by simp [results, Tryz.results29, go_sem, f0, f1]) rfl ⟨_, rfl, Hfin.out⟩
            · have hd : decide (ix < (0 : Int)) = false := decide_eq_false hi
              have hA2 : ∀ y, y ∈ fs.take (j + 1) → y ∈ t.vars := by
                rw [Hsn.out]
                intro y hy
                rcases List.mem_append.1 hy with h | h
                · exact HI.out y h
                · simp at h; subst h; exact Him.out.1 (by omega)
              obtain ⟨p, rfl⟩ : ∃ p : Nat, ix = p := ⟨ix.toNat, by omega⟩
              have hpN : p < t.vars.length := by have := Hpr.out; omega
              have hpI : (p : Int) < (t.vars.length : Int) := by omega
              have HA2 := Lib.hid hA2
              have Hq := Lib.hid hq
              clear hA2 hi hq
              have hq := Hq.out
              go_wp2
              go_quiet (first | (go_at_call 81; with_reducible exact Calls.quiet_of_same (hq _)))
              generalize hN : World.drewN wr _ = wd at *
              have hfd : wr.Fr wd [] := by rw [← hN]; exact (World.Fr.refl wr []).of_drewN _
              clear hN hq Hc Hq
              clear p0 p1 pf r0 r1 rf hlb hlb2 kx
              obtain ⟨g7, off7, c7, hv7, hg7, kz⟩ := ((H3.out.fr Hfw.out (by simp)).fr hfd (by simp)).at Hz.out
              cases hv7
              have hSd := HS.out.fr hfd (by simp)
              have hFd := HF.out.trans hfd (by simp)
              obtain ⟨g6, off6, c6', hv6, _, _, hg6, ecs, efz⟩ := hSd.form (by omega)
              cases hv6
              have hset := hSd.set p hpN (.string z)
              have hmap : (acc.map Value.string).set p (.string z) = (acc.set p z).map Value.string := by rw [List.map_set]
              rw [hmap] at hset
              have hst : renL t.vars (acc.set p z) (fs.drop (j + 1)) (ts.drop (j + 1)) = renL t.vars t.vars fs ts := by
                have := Hst.out
                rw [← HA.out.1, this]
                rfl
              have hwf : ∀ s, s ∈ acc.set p z → s.size ≤ 9223372036854775807 := fun s hs => by
                rcases List.mem_or_eq_of_mem_set hs with h | h
                · exact HA.out.2.2 s h
                · rw [h]; exact H3.out.wf z (List.mem_of_getElem? Hz.out)
              obtain ⟨y0, hy0⟩ : ∃ y, wd.cell? ⟨g6, off6 + p, none⟩ = some y := by
                have := ecs p (by omega)
                rw [List.getElem?_eq_getElem (by rw [List.length_map, HA.out.2.1]; exact hpN)] at this
                exact ⟨_, this⟩
              have hfz := efz (off6 + p)
              have Hset := Lib.hid hset; have Hst2 := Lib.hid hst; have Hwf := Lib.hid hwf; have HFd := Lib.hid hFd
              have Hal := Lib.hid (show (acc.set p z).length = t.vars.length by rw [List.length_set]; exact HA.out.2.1)
              clear hset hst hwf hmap ecs efz hSd hFd hfd
              go_wp2
              go_roundw
              case rel => exact ⟨j + 1, acc.set p z, by go_num, by omega, Lib.hid ⟨Hst2.out, Hal.out, Hwf.out⟩, HA2, Lib.hid Hset.out.1, Lib.hid (HFd.out.trans Hset.out.2 (fun k hk => .inl (by simpa [Value.blk] using hk)))⟩
              case measure => simp [intOf]; omega
          · have hd : decide ((j : Int) < (fs.length : Int)) = false := decide_eq_false (by omega)
            have hd2 : decide (j < fs.length) = false := decide_eq_false hlt
            obtain rfl : j = fs.length := by omega
            have hA := HA.out.1
            rw [List.drop_of_length_le (Nat.le_refl _)] at hA
            have hacc : acc = renL t.vars t.vars fs ts := by rw [← hA]; cases ts.drop fs.length <;> rfl
            have hal : acc.length = t.vars.length := HA.out.2.1
            have hin := HI.out
            rw [List.take_of_length_le (Nat.le_refl _)] at hin
            have hrd : RdStr wr (.slice a6 t.vars.length c6) acc := ⟨by have := HS.out.rd; rw [hal]; exact this, HA.out.2.2⟩
            have hres : R = if ¬ acc.Nodup then (30, tNone) else (0, madeT cf acc t.rows) := by
              rw [HR2.out, if_neg (fun h => h.elim (fun h => h Hnd.out) (fun h => h hin)), hacc]
            have hun := runlike80 hrd (by have := K1.out; omega)
            have Hun := Lib.hid hun; have Hrd := Lib.hid hrd; have Hal := Lib.hid hal; have HR3 := Lib.hid hres
            clear hun hrd hacc hA hal HA HI hin hlt hj hres HR2 p0 p1 pf r0 r1 rf hlb hlb2
            obtain ⟨p0, p1, pf⟩ := two Q1b.out
            go_wp2_with fail
            (with_reducible refine Hun.out.mono ?_)
            rintro e w6 ⟨rfl, hf6⟩
            have q1 := hf6.heap Q1b.out (by simp)
            have q2 := hf6.heap Q2b.out (by simp)
            have hfw := Hfw.out.trans hf6 (by simp)
            have hrd := Hrd.out.fr hf6 (by simp)
            clear p0 p1 pf Q1b Q2b Hun Hfw Hrd hf6
            obtain ⟨p0, p1, pf⟩ := two q1
            obtain ⟨r0, r1, rf⟩ := two q2
            have hlb := lt_of_heap q1
            have hlb2 := lt_of_heap q2
            have Q1b := Lib.hid q1; have Q2b := Lib.hid q2; have Hfw := Lib.hid hfw; have Hrd := Lib.hid hrd; clear q1 q2 hfw hrd
            by_cases hu : acc.Nodup
            · rw [decide_eq_true hu]
              have hres : R = (0, madeT cf acc t.rows) := by rw [HR3.out, if_neg (fun h => h hu)]
              subst hres
              have hc := rmade77m HRC.out HO.out Hrd.out (Hr1.out.still Hfw.out) (by rw [Hal.out]; have := K1.out; omega) Ht.out.rows hu (fun r hr => by rw [Hal.out]; exact K3.out r hr) Ht.out.ok
              have Hc := Lib.hid hc
              clear hc HR3 hu
              go_wp2_with fail
              (with_reducible refine Hc.out.mono ?_)
              rintro e w7 ⟨v, rfl, ho⟩
              obtain ⟨x1, y1, x2, y2, rfl⟩ := ho.shape
              have hbx := ho.fr.heap Q2b.out (by simp)
              have ho2 := (ho.since Hfw.out).put hbx (by have := Hb1.out; omega)
              clear p0 p1 pf r0 r1 rf hlb hlb2
              obtain ⟨p0, p1, pf⟩ := two hbx
              have hbW := lt_of_heap hbx
              obtain ⟨f0, f1, _⟩ := two ho2.2
              have Hfin := Lib.hid ho2.1
              clear ho2 ho hbx
              go_wp2
              refine bodyPost_ret (v := .tuple #[.agg #[.slice x1 _ y1, .slice x2 _ y2], .int .i64 0]) (by simp [results, Tryz.results29, go_sem, f0, f1]) rfl ⟨_, rfl, Hfin.out⟩
            · rw [decide_eq_false hu]
              have hres : R = (30, tNone) := by rw [HR3.out, if_pos hu]
              subst hres
              clear HR3 hu
              have hfin := Hbad.out _ 30 Hfw.out Q2b.out
              obtain ⟨f0, f1, _⟩ := two hfin.2
              have Hfin := Lib.hid hfin.1
              clear hfin p0 p1 pf
              go_wp2
              refine bodyPost_ret (v := .tuple #[.agg #[.slice none 0 0, .slice none 0 0], .int .i64 30]) (by simp [results, Tryz.results29, go_sem, f0, f1]) rfl ⟨_, rfl, Hfin.out⟩
      · rw [decide_eq_false hnd]
        have hres : R = (30, tNone) := by rw [HR2.out, if_pos (.inl hnd)]
        subst hres
        clear HR2 hnd
        have hfin := Hbad.out _ 30 Q3.out Q2.out
        obtain ⟨f0, f1, _⟩ := two hfin.2
        have Hfin := Lib.hid hfin.1
        clear hfin p0 p1 pf
        go_wp2
        refine bodyPost_ret (v := .tuple #[.agg #[.slice none 0 0, .slice none 0 0], .int .i64 30]) (by simp [results, Tryz.results29, go_sem, f0, f1]) rfl ⟨_, rfl, Hfin.out⟩
    · have hres : R = (1, tNone) := by rw [← HR.out]; unfold renameT; rw [if_neg (by simp [h0]), if_pos hft]
      have hbb : ((fs.length : Int) == (ts.length : Int)) = false := beq_eq_false_iff_ne.2 (by omega)
      have hbc : ((fs.length : Int) != (ts.length : Int)) = true := by simp; omega
      clear h0 HR hft
      subst hres
      have hfin := Hbad.out _ 1 Q3.out Q2.out
      obtain ⟨f0, f1, _⟩ := two hfin.2
      have Hfin := Lib.hid hfin.1
      clear hfin p0 p1 pf
      go_wp2
      refine bodyPost_ret (v := .tuple #[.agg #[.slice none 0 0, .slice none 0 0], .int .i64 1]) (by simp [results, Tryz.results29, go_sem, f0, f1]) rfl ⟨_, rfl, Hfin.out⟩
  · have hres : R = (tcheck cf t, tNone) := by rw [← HR.out]; unfold renameT; rw [if_pos h0]
    have h0b : (tcheck cf t == 0) = false := beq_eq_false_iff_ne.2 h0
    have h0c : (tcheck cf t != 0) = true := by simp [h0]
    clear h0 HR
    generalize tcheck cf t = z at *
    subst hres
    have hfin := Hbad.out _ z Q3.out Q2.out
    obtain ⟨f0, f1, _⟩ := two hfin.2
    have Hfin := Lib.hid hfin.1
    clear hfin p0 p1 pf
    go_wp2
    refine bodyPost_ret (v := .tuple #[.agg #[.slice none 0 0, .slice none 0 0], .int .i64 z]) (by simp [results, Tryz.results29, go_sem, f0, f1]) rfl ⟨_, rfl, Hfin.out⟩
end Go.Proofs.YtikodapgceokhaaGreat
