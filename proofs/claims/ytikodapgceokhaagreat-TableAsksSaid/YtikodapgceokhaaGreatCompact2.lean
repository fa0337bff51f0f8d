/-
  The walk of slices.CompactFunc of a table's rows.
-/
import Derived.Test.YtikodapgceokhaaGreatCompact
namespace Go.Proofs.YtikodapgceokhaaGreat
open Go.RowKit

structure Hr (w : World) (B : List Nat) (p : HR) : Prop where
  rd : RdRow w p.1 p.2
  off : ∀ k, k ∈ p.1.rblk → k ∉ B
  short : p.2.length ≤ 8000000000000000000

theorem cells_step (A B : List Value) (y : Value) (h : A.length < B.length) : (A ++ B.drop A.length).set A.length y = (A ++ [y]) ++ B.drop (A.length + 1) := by
  rw [List.set_append_right _ _ (Nat.le_refl _), Nat.sub_self, List.drop_eq_getElem_cons h, List.append_assoc]
  rfl
theorem cells_at (A B : List Value) (i : Nat) (h : A.length ≤ i) : (A ++ B.drop A.length)[i]? = B[i]? := by
  rw [List.getElem?_append_right h, List.getElem?_drop]
  congr 1; omega
/-- how far the compacting has come -/
structure Packed (w wr : World) (v : Value) (g : Nat) (ps : List HR) (m : Nat) (C : List HR) : Prop where
  is : C = compactP (ps.take m)
  sl : wr.Sl 32 1 v ps.length (C.map (·.1) ++ (ps.map (·.1)).drop C.length)
  fr : w.Fr wr [g]

set_option maxRecDepth 100000 in
set_option maxHeartbeats 4000000 in
theorem compact102 {w : World} {v : Value} (ps : List HR) (h : w.Sl 32 1 v ps.length (ps.map (·.1))) (hp : ∀ p, p ∈ ps → Hr w v.blk p) (hl : ps.length ≤ 8796093021952) :
    Calls Tryz.prog 102 #[v, .func (.func 103) #[] #[]] w fun e w' => ∃ v', e = .returned v' ∧ w'.Sl 32 1 v' (compactP ps).length ((compactP ps).map (·.1)) ∧ (∀ k, k ∈ v'.blk → k ∈ v.blk) ∧ w.Fr w' v.blk := by
  by_cases h2 : ps.length < 2
  · have hk := compact_small ps h2
    obtain ⟨a, c, rfl, _, _⟩ := h.shape
    have hd : decide ((ps.length : Int) < 2) = true := decide_eq_true (by omega)
    have hd2 : (ps.length : Int) < 2 := by omega
    have H := Lib.hid h; have Hk := Lib.hid hk; clear h hk hp hl h2
    go_enter Tryz.func102, Tryz.ntmps102
    go_wp2
    go_ret
    exact ⟨_, rfl, by rw [Hk.out]; exact H.out, fun k hk => hk, World.Fr.refl _ _⟩
  · obtain ⟨g, off, c, rfl, hcap, hmax, hg, hcs, hfree⟩ := h.form (by omega)
    have hblk : (Value.slice (some ⟨g, off, none⟩) ps.length c).blk = [g] := rfl
    rw [hblk] at hp ⊢
    have hd : decide ((ps.length : Int) < 2) = false := decide_eq_false (by omega)
    have hn0 : ¬ ((ps.length : Int) < 2) := by omega
    have hcell : ∀ (W : World) (xs : List Value), W.Sl 32 1 (.slice (some ⟨g, off, none⟩) ps.length c) ps.length xs → ∀ (i : Nat) (x : Value), i < ps.length → xs[i]? = some x → W.cell? ⟨g, off + i, none⟩ = some x := fun W xs hs i x hi hx => by
      rw [hs.cells rfl i (by omega), hx]
    have hcm : c ≤ 9223372036854775807 := by unfold maxLen at hmax; omega
    have H := Lib.hid h; have Hp := Lib.hid hp; have Hl := Lib.hid hl; have H2 := Lib.hid h2; have Hcap := Lib.hid hcap; have Hcell := Lib.hid hcell; have Hcm := Lib.hid hcm; clear h hp hl h2 hcap hmax hfree hcell hcm hblk hcs
    go_enter Tryz.func102, Tryz.ntmps102
    go_wp2
    go_loopw [5] (fun i wr => ∃ k : Nat, i = .int .i64 k ∧ 1 ≤ k ∧ k ≤ ps.length ∧ Hid (compactP (ps.take k) = ps.take k) ∧ Hid (w.Fr wr [])) (fun i _ => (ps.length - intOf i).toNat)
    case atStart => exact ⟨1, rfl, Nat.le_refl _, by have := H2.out; omega, Lib.hid (compact_one ps (by have := H2.out; omega)), Lib.hid (World.Fr.refl w [])⟩
    case round =>
      obtain ⟨k, rfl, hk1, hm, HC, HF⟩ := hrel
      by_cases hlt : k < ps.length
      · have hltI : (k : Int) < (ps.length : Int) := by omega
        obtain ⟨m, hkm⟩ : ∃ m, k = m + 1 := ⟨k - 1, by omega⟩
        have hmI : (m : Int) < (ps.length : Int) := by omega
        obtain ⟨x, hx⟩ : ∃ x, ps[m]? = some x := ⟨ps[m], List.getElem?_eq_getElem (by omega)⟩
        obtain ⟨y, hy⟩ : ∃ y, ps[k]? = some y := ⟨ps[k], List.getElem?_eq_getElem (by omega)⟩
        have hrx := Hp.out x (List.mem_of_getElem? hx)
        have hry := Hp.out y (List.mem_of_getElem? hy)
        have kx := Hcell.out wr _ (H.out.fr HF.out (by simp)) m x.1 (by omega) (by rw [List.getElem?_map, hx]; rfl)
        have ky := Hcell.out wr _ (H.out.fr HF.out (by simp)) k y.1 hlt (by rw [List.getElem?_map, hy]; rfl)
        obtain ⟨xv, xr⟩ := x
        obtain ⟨yv, yr⟩ := y
        simp only at kx ky
        obtain ⟨ax, cx, hxe, _, _⟩ := hrx.rd.rd.shape
        obtain ⟨ay, cy, hye, _, _⟩ := hry.rd.rd.shape
        simp only at hxe hye
        subst hxe hye
        have hc := same103 (hry.rd.fr HF.out.drew (by simp)) (hrx.rd.fr HF.out.drew (by simp)) hry.short
        have hs1 : IntKind.i64.wrap ((k : Int) - 1) = (m : Int) := by rw [IntWalk.i64_in _ (by have := Hl.out; omega)]; omega
        have hw1 : IntKind.i64.wrap ((k : Int) + 1) = (k : Int) + 1 := IntWalk.i64_in _ (by have := Hl.out; omega)
        have Hc := Lib.hid hc; have Hx := Lib.hid hx; have Hy := Lib.hid hy; have Hkm := Lib.hid hkm; clear hc hx hy hrx hry hkm
        go_wp2
        go_still_tail 10, (by kernel_rfl)
        change wpList _ _ _ _ _ wr.drew
        go_wp2_with fail
        refine Hc.out.mono ?_
        rintro e w2 ⟨rfl, hf2⟩
        have HF2 := Lib.hid (HF.out.drew.trans hf2 (by simp)); clear hf2 kx ky Hc
        by_cases hxy : yr = xr
        · rw [eqB_true hxy]
          have heq := compact_take_eq ps m Hx.out (by have := Hy.out; rw [Hkm.out] at this; exact this) hxy.symm
          have hC1 : compactP (ps.take (k + 1)) = ps.take k := by
            have e1 : k + 1 = m + 2 := by have := Hkm.out; omega
            have e2 := HC.out
            rw [Hkm.out] at e2 ⊢
            rw [show m + 1 + 1 = m + 2 from rfl, heq, e2]
          have HC1 := Lib.hid hC1
          have hkc : decide ((k : Int) < (c : Int)) = true := decide_eq_true (by have := Hcap.out; omega)
          have hkc2 : (k : Int) < (c : Int) := by have := Hcap.out; omega
          have hkc3 : (k : Int) ≤ (c : Int) := by omega
          have hcm := Hcm.out
          clear hxy heq hC1
          go_upto_region 8 with (fail)
          have hP0 : Packed w w2 (.slice (some ⟨g, off, none⟩) ps.length c) g ps (k + 1) (ps.take k) := by
            refine ⟨HC1.out.symm, ?_, HF2.out.mono (by simp)⟩
            have e1 : (ps.take k).length = k := by simp; omega
            have e2 : (ps.take k).map (·.1) ++ (ps.map (·.1)).drop (ps.take k).length = ps.map (·.1) := by
              rw [e1, List.map_take, List.take_append_drop]
            rw [e2]
            exact H.out.fr HF2.out (by simp)
          have HP0 := Lib.hid hP0; clear hP0 hkc hkc2 hkc3 HC1 HC HF HF2 Hx Hy hs1 hw1 hmI
          generalize hD : ps.length - k = D at *
          generalize hE : c - k = E at *
          have HD := Lib.hid hD; clear hD hE
          go_wp2
          go_loopw [7, 5] (fun i q wr => ∃ (j : Nat) (C : List HR), i = .int .i64 j ∧ q = .int .i64 C.length ∧ 1 ≤ j ∧ j ≤ D ∧ C.length ≤ m + j ∧ Hid (Packed w wr (.slice (some ⟨g, off, none⟩) ps.length c) g ps (k + j) C)) (fun i _ _ => (D - intOf i).toNat)
          case atStart => exact ⟨1, ps.take k, rfl, by
            have e1 : (ps.take k).length = k := by simp; omega
            rw [e1], Nat.le_refl _, by have := HD.out; omega, by have := Hkm.out; simp; omega, HP0⟩
          case round =>
            obtain ⟨j, C, rfl, rfl, hj1, hj, hCl, HP⟩ := hrel
            by_cases hjl : j < D
            · obtain ⟨i, hij⟩ : ∃ i, j = i + 1 := ⟨j - 1, by omega⟩
              have hn : k + j < ps.length := by have := HD.out; omega
              have hjI : (j : Int) < (D : Int) := by omega
              have hiI : (i : Int) < (D : Int) := by omega
              obtain ⟨x2, hx2⟩ : ∃ x, ps[k + i]? = some x := ⟨ps[k + i], List.getElem?_eq_getElem (by omega)⟩
              obtain ⟨y2, hy2⟩ : ∃ y, ps[k + j]? = some y := ⟨ps[k + j], List.getElem?_eq_getElem (by omega)⟩
              have hrx := Hp.out x2 (List.mem_of_getElem? hx2)
              have hry := Hp.out y2 (List.mem_of_getElem? hy2)
              have hCm : (C.map (·.1)).length = C.length := by simp
              have kx := Hcell.out wr _ HP.out.sl (k + i) x2.1 (by omega) (by
                have := cells_at (C.map (·.1)) (ps.map (·.1)) (k + i) (by rw [hCm]; have := Hkm.out; omega)
                rw [hCm] at this
                rw [this, List.getElem?_map, hx2]; rfl)
              have ky := Hcell.out wr _ HP.out.sl (k + j) y2.1 (by omega) (by
                have := cells_at (C.map (·.1)) (ps.map (·.1)) (k + j) (by rw [hCm]; have := Hkm.out; omega)
                rw [hCm] at this
                rw [this, List.getElem?_map, hy2]; rfl)
              rw [← Nat.add_assoc] at kx ky
              obtain ⟨xv, xr2⟩ := x2
              obtain ⟨yv, yr2⟩ := y2
              simp only at kx ky
              obtain ⟨ax2, cx2, hxe, _, _⟩ := hrx.rd.rd.shape
              obtain ⟨ay2, cy2, hye, _, _⟩ := hry.rd.rd.shape
              simp only at hxe hye
              subst hxe hye
              have hc := same103 (hry.rd.fr HP.out.fr.drew hry.off) (hrx.rd.fr HP.out.fr.drew hrx.off) hry.short
              have hs2 : IntKind.i64.wrap ((j : Int) - 1) = (i : Int) := by rw [IntWalk.i64_in _ (by have := Hl.out; omega)]; omega
              have hw2 : IntKind.i64.wrap ((j : Int) + 1) = (j : Int) + 1 := IntWalk.i64_in _ (by have := Hl.out; omega)
              have Hc := Lib.hid hc; have Hx2 := Lib.hid hx2; have Hy2 := Lib.hid hy2; have Hij := Lib.hid hij; have Hn := Lib.hid hn; clear hc hx2 hy2 hrx hry hij hn hCm
              go_wp2
              go_still_tail 10, (by kernel_rfl)
              change wpList _ _ _ _ _ wr.drew
              go_wp2_with fail
              refine Hc.out.mono ?_
              rintro e w3 ⟨rfl, hf3⟩
              have hf3w := (World.Fr.refl wr []).drew.trans hf3 (by simp)
              have HP3 : Hid (Packed w w3 (.slice (some ⟨g, off, none⟩) ps.length c) g ps (k + j) C) := Lib.hid ⟨HP.out.is, HP.out.sl.fr hf3w (by simp), HP.out.fr.drew.trans hf3 (by simp)⟩
              have ky3 : w3.cell? ⟨g, off + k + j, none⟩ = some (.slice ay2 yr2.length cy2) := by
                have hgw : g < wr.heap.size := by have := HP.out.fr.size; omega
                rw [← ky]
                exact World.cell?_of_block (a := ⟨g, off + k + j, none⟩) (hf3.block g hgw (by simp))
              clear hf3 hf3w kx ky Hc
              have hpr : ps[k + i]? = some (.slice ax2 xr2.length cx2, xr2) := Hx2.out
              by_cases hxy2 : yr2 = xr2
              · rw [eqB_true hxy2]
                have hnx := compact_take_eq ps (k + i) Hx2.out (by have := Hy2.out; rw [Hij.out] at this; exact this) hxy2.symm
                have Hnx := Lib.hid hnx; clear hnx hxy2 hpr
                go_wp2
                go_roundw
                case rel => exact ⟨j + 1, C, by go_num, rfl, by omega, by omega, by omega, Lib.hid ⟨by
                  rw [HP3.out.is, show k + (j + 1) = k + i + 2 by have := Hij.out; omega, Hnx.out, show k + j = k + i + 1 by have := Hij.out; omega], HP3.out.sl, HP3.out.fr⟩⟩
                case measure => simp [intOf]; omega
              · rw [eqB_false hxy2]
                have hnx := compact_take_ne ps (k + i) Hx2.out (by have := Hy2.out; rw [Hij.out] at this; exact this) (fun e => hxy2 e.symm)
                have Hnx := Lib.hid hnx; clear hnx hxy2 hpr
                have hq : C.length < ps.length := by have := Hn.out; have := Hkm.out; omega
                have hqI : (C.length : Int) < (ps.length : Int) := by omega
                have hw3 : IntKind.i64.wrap ((C.length : Int) + 1) = (C.length : Int) + 1 := IntWalk.i64_in _ (by have := Hl.out; omega)
                have hfree3 : ∀ z, w3.frozen? ⟨g, z, none⟩ = false := fun z => HP3.out.sl.free z
                obtain ⟨z0, z1, z2⟩ : ∃ y, w3.cell? ⟨g, off + C.length, none⟩ = some y ∧ True := by
                  have := HP3.out.sl.cells rfl C.length (by omega)
                  rw [List.getElem?_append_right (by simp)] at this
                  simp only [List.length_map, Nat.sub_self, List.getElem?_drop, Nat.add_zero] at this
                  rw [List.getElem?_eq_getElem (by simpa using hq)] at this
                  exact ⟨_, this, trivial⟩
                clear z2
                have hset := HP3.out.sl.set C.length hq (.slice ay2 yr2.length cy2)
                have hcs := cells_step (C.map (·.1)) (ps.map (·.1)) (.slice ay2 yr2.length cy2) (by simpa using hq)
                simp only [List.length_map] at hcs
                rw [hcs] at hset
                have HPn : Hid (Packed w (w3.setCell ⟨g, off + C.length, none⟩ (.slice ay2 yr2.length cy2)) (.slice (some ⟨g, off, none⟩) ps.length c) g ps (k + (j + 1)) (C ++ [(.slice ay2 yr2.length cy2, yr2)])) := Lib.hid ⟨by
                  rw [show k + (j + 1) = k + i + 2 by have := Hij.out; omega, Hnx.out, HP3.out.is, show k + j = k + i + 1 by have := Hij.out; omega], by
                  have e1 : (C ++ [((.slice ay2 yr2.length cy2 : Value), yr2)]).length = C.length + 1 := by simp
                  rw [e1, List.map_append]
                  exact hset.1, HP3.out.fr.trans hset.2 (by simp)⟩
                clear hset hcs
                go_wp2
                go_roundw
                case rel => exact ⟨j + 1, _, by go_num, by simp, by omega, by omega, by simp; omega, HPn⟩
                case measure => simp [intOf]; omega
            · have hjD : j = D := by omega
              have hkn : k + j = ps.length := by have := HD.out; omega
              have hq : C.length < ps.length := by have := Hkm.out; omega
              have hCp : C = compactP ps := by have := HP.out.is; rw [hkn, List.take_length] at this; exact this
              have hdj : decide ((j : Int) < (D : Int)) = false := decide_eq_false (by omega)
              have hdj2 : decide (j < D) = false := decide_eq_false hjl
              obtain ⟨ys, hys, htk, hfr⟩ := HP.out.sl.sets (List.replicate (ps.length - C.length) (.slice none 0 0)) C.length (by simp; omega)
              have hfin := hys.take C.length (by omega)
              have htk2 : ys.take (C.length * 1) = (compactP ps).map (·.1) := by
                rw [Nat.mul_one, htk, List.take_append_of_le_length (by simp), List.take_of_length_le (by simp), hCp]
              rw [htk2] at hfin
              have hfr2 := HP.out.fr.trans hfr (fun j hj => .inl hj)
              have hclear : ∀ ty, (Builtin.clear_ #[23] ty #[.slice (some ⟨g, off + C.length, none⟩) (ps.length - C.length) (c - C.length)]).run Tryz.prog wr = .ok (.tuple #[]) (wr.setCells g (off + C.length) (List.replicate (ps.length - C.length) (.slice none 0 0))) := fun ty =>
                Lib.run_clear_slice wr 23 32 ty (.slice none 0 0) Tryz.underlying23 (fun w => by kernel_rfl) rfl rfl g (off + C.length) _ _ (by omega) (fun z hz => by
                  have := HP.out.sl.cells rfl (C.length + z) (by omega)
                  rw [Nat.add_assoc, this]
                  have hxl := HP.out.sl.len
                  rw [List.getElem?_eq_getElem (by rw [hxl]; omega)]
                  rfl) (fun z _ => HP.out.sl.free _)
              have hlenC : (compactP ps).length = C.length := by rw [hCp]
              have hqI : (C.length : Int) < (ps.length : Int) := by omega
              have hqc : (C.length : Int) < (c : Int) := by have := Hcap.out; omega
              have hqc2 : (C.length : Int) ≤ (c : Int) := by omega
              have hqn : (C.length : Int) ≤ (ps.length : Int) := by omega
              have hqd : decide ((C.length : Int) < (c : Int)) = true := decide_eq_true hqc
              have hcm2 := Hcm.out
              have Hfin := Lib.hid hfin; have Hfr2 := Lib.hid hfr2; have HlenC := Lib.hid hlenC; clear hfin hfr2 hlenC hys htk hfr htk2 hCp HP hjl hjD hkn
              generalize hq2 : C.length = q at *
              go_wp2
              go_ret
              exact ⟨_, rfl, by rw [HlenC.out]; exact Hfin.out, fun k hk => by simpa [Value.blk] using hk, Hfr2.out⟩
        · rw [eqB_false hxy]
          have hne := compact_take_ne ps m Hx.out (by have := Hy.out; rw [Hkm.out] at this; exact this) (fun e => hxy e.symm)
          have Hne := Lib.hid hne; clear hxy hne
          go_wp2
          go_roundw
          case rel => exact ⟨k + 1, by go_num, by omega, by omega, Lib.hid (by
            have e1 : k + 1 = m + 2 := by have := Hkm.out; omega
            have e2 := HC.out
            rw [Hkm.out] at e2
            have e3 := Hy.out
            rw [Hkm.out] at e3
            have e4 : m + 1 < ps.length := by have := Hkm.out; omega
            rw [e1, Hne.out, e2, List.take_succ_eq_append_getElem e4, (List.getElem?_eq_some_iff.1 e3).2]), HF2⟩
          case measure => simp [intOf]; omega
      · have hd3 : decide ((k : Int) < (ps.length : Int)) = false := decide_eq_false (by omega)
        have hd4 : decide (k < ps.length) = false := decide_eq_false hlt
        have hmz : k = ps.length := by omega
        have hk : compactP ps = ps := by have := HC.out; rw [hmz, List.take_length] at this; exact this
        have Hk := Lib.hid hk; clear hk hmz hlt HC hm hk1
        go_wp2
        go_ret
        exact ⟨_, rfl, by rw [Hk.out]; exact H.out.fr HF.out (by simp), fun k hk => hk, HF.out.mono (by simp)⟩
end Go.Proofs.YtikodapgceokhaaGreat
