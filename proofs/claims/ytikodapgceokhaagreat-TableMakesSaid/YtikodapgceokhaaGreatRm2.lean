/-
  The document's picked: a row's values for some variables.
-/
import Derived.Test.YtikodapgceokhaaGreatRm1
namespace Go.Proofs.YtikodapgceokhaaGreat
open Go.RowKit

set_option maxRecDepth 100000 in
set_option maxHeartbeats 2000000 in
theorem rpicked76 {w : World} {v1 v2 v3 : Value} {l want : List BA} {r : Row} (h1 : RdStr w v1 l) (h2 : RdRow w v2 r) (h3 : RdStr w v3 want) (hl : l.length ≤ 8000000000000000000) (hrl : r.length = l.length) (hin : ∀ x, x ∈ want → x ∈ l) (hwl : want.length ≤ 3518437208780) :
    Calls Tryz.prog 76 #[v1, v2, v3] w fun e w' => ∃ u, e = .returned u ∧ OwnRow w w' u (pick l r want) := by
  obtain ⟨a1, c1, rfl, _, _⟩ := h1.rd.shape
  obtain ⟨a2, c2, rfl, _, _⟩ := h2.rd.shape
  obtain ⟨a3, c3, rfl, _, _⟩ := h3.rd.shape
  have H1 := Lib.hid h1; have H2 := Lib.hid h2; have H3 := Lib.hid h3; have Hl := Lib.hid hl; have Hrl := Lib.hid hrl; have Hin := Lib.hid hin; have Hwl := Lib.hid hwl; clear h1 h2 h3 hl hrl hin hwl
  have HO0 : Hid (OwnRow w w (.slice none 0 0) (pick l r (want.take 0))) := Lib.hid ⟨World.Sl.nil _ _ _, by simp [Value.blk], World.Fr.refl _ _⟩
  go_enter Tryz.func76, Tryz.ntmps76
  go_wp2
  go_loopw [8, 7] (fun i v wr => ∃ (k : Nat), i = .int .i64 k ∧ k ≤ want.length ∧ Hid (OwnRow w wr v (pick l r (want.take k)))) (fun i _ _ => (want.length - intOf i).toNat)
  case atStart => exact ⟨0, rfl, Nat.zero_le _, HO0⟩
  case round =>
    obtain ⟨k, rfl, hk, HO⟩ := hrel
    have hkl : (pick l r (want.take k)).length = k := by rw [pick_len]; simp; omega
    obtain ⟨ya, yc, hyv, _, _⟩ := HO.out.sl.shape
    subst hyv
    have hO := HO.out
    rw [hkl] at hO ⊢
    clear HO HO0
    by_cases hkt : k < want.length
    · obtain ⟨x, hx⟩ : ∃ x, want[k]? = some x := ⟨want[k], List.getElem?_eq_getElem hkt⟩
      have hkI : (k : Int) < (want.length : Int) := by omega
      have hw2 : IntKind.i64.wrap ((k : Int) + 1) = (k : Int) + 1 := IntWalk.i64_in _ (by have := Hwl.out; omega)
      obtain ⟨p, hp⟩ : ∃ p : Nat, idx l x = p := ⟨(idx l x).toNat, by have := idx_mem.2 (Hin.out x (List.mem_of_getElem? hx)); omega⟩
      have hpr := idx_range l x
      rw [hp] at hpr
      have hsn : pick l r (want.take (k + 1)) = pick l r (want.take k) ++ [r.getD p default] := by
        rw [List.take_succ_eq_append_getElem hkt, (List.getElem?_eq_some_iff.1 hx).2]
        simp [pick, hp]
      have hry : r[p]? = some (r.getD p default) := by
        have : p < r.length := by have := Hrl.out; omega
        rw [List.getD_eq_getElem?_getD, List.getElem?_eq_getElem this]; rfl
      have hrow3 := H2.out.fr hO.fr (by simp)
      obtain ⟨g2, off2, c2', hv2, hg2, ky0, ky1, ky2, ky3⟩ := hrow3.at hry
      cases hv2
      obtain ⟨g4, off4, c4, hv4, hg4, kx⟩ := (H3.out.fr hO.fr (by simp)).at hx
      cases hv4
      have hf := rfind81 x (H1.out.fr hO.fr (by simp)) Hl.out
      rw [hp] at hf
      have Hf := Lib.hid hf; have Hsn := Lib.hid hsn; have Hkl := Lib.hid hkl; have HO2 := Lib.hid hO
      have hrlI : (p : Int) < (r.length : Int) := by rw [Hrl.out]; exact hpr.2
      clear hf hsn hkl hO hry hrow3 hx hp hpr
      generalize r.getD p default = y at *
      generalize pick l r (want.take k) = ys at *
      have hroom : k < 3518437208780 := by have := Hwl.out; omega
      have hsly := HO2.out.sl
      rw [Hkl.out] at hsly
      have hgl : g2 < wr.heap.size + 1 := by omega
      have Hsly := Lib.hid hsly; clear hsly
      go_wp2_with fail
      (with_reducible refine Hf.out.mono ?_)
      rintro e w9 ⟨rfl, rfl⟩
      obtain ⟨iv, hiv, hv0, hv1, hv2⟩ := info_parts infoV
      go_wp2_with (at_builtin; refine wpList_append_one _ rfl (.tmp 22) (.tmp 27) 32 rfl 60 iv (.agg #[.int .i64 0, .int .i64 0, .int .i64 0, .string .empty]) 4 40 Tryz.underlying32 hiv hv0 hv1 hv2 rfl (.slice ya k yc) k (ys.flatMap V.enc) rfl (Hsly.out.alloc _) wr.heap.size 1 (V.enc y) 60 rfl (heap_alloc_at _ _ _ rfl) rfl rfl ⟨by omega, by omega⟩ ?_)
      intro g3 off3 c3 w5 hsl hfr3 hat hlt3
      have hown := (HO2.out.still ((World.Fr.refl wr []).alloc (.cells (V.enc y).toArray 60))).appended (y := y) (g := g3) (off := off3) (c := c3) (by rw [Hkl.out]; exact hsl) hfr3 (by simpa using hat)
      rw [Hkl.out, ← Hsn.out] at hown
      have Hown := Lib.hid hown; clear hown hsl hfr3 hat ky0 ky1 ky2 ky3 kx hlt3
      go_wp2
      go_roundw
      case rel => exact ⟨k + 1, by go_num, by omega, Hown⟩
      case measure => simp [intOf]; omega
    · have hd : decide ((k : Int) < (want.length : Int)) = false := decide_eq_false (by omega)
      have hd2 : decide (k < want.length) = false := decide_eq_false hkt
      obtain rfl : k = want.length := by omega
      rw [List.take_of_length_le (Nat.le_refl _)] at hO hkl
      have HRn := Lib.hid hO
      clear hO hkt hk hkl
      go_wp2
      go_ret
      exact ⟨_, rfl, HRn.out⟩
end Go.Proofs.YtikodapgceokhaaGreat
