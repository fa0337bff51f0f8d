/-
  The walks of table.places, slices.Clone of names.
-/
import Derived.Test.YtikodapgceokhaaGreatNames
namespace Go.Proofs.YtikodapgceokhaaGreat
open Go.RowKit

/-- a slice of the call's own, of cells of one each: behind a call from w on -/
structure Own (w w' : World) (e : TypeId) (v : Value) (xs : List Value) : Prop where
  sl : w'.Sl e 1 v xs.length xs
  new : ∀ k, k ∈ v.blk → w.heap.size ≤ k
  fr : w.Fr w' []
theorem Own.nil (w : World) (e : TypeId) : Own w w e (.slice none 0 0) [] := ⟨World.Sl.nil _ _ _, by simp [Value.blk], World.Fr.refl w []⟩
theorem Own.still {w w1 w2 : World} {e : TypeId} {v : Value} {xs : List Value} (h : Own w w1 e v xs) (hf : w1.Fr w2 []) : Own w w2 e v xs := ⟨h.sl.fr hf (by simp), h.new, h.fr.trans hf (by simp)⟩
theorem Own.appended {w w1 w2 : World} {e : TypeId} {v : Value} {xs : List Value} (h : Own w w1 e v xs) {x : Value} {g off c : Nat} (hs : w2.Sl e 1 (.slice (some ⟨g, off, none⟩) (xs.length + 1) c) (xs.length + 1) (xs ++ [x])) (hf : w1.Fr w2 v.blk) (hg : g ∈ v.blk ∨ g = w1.heap.size) :
    Own w w2 e (.slice (some ⟨g, off, none⟩) (xs.length + 1) c) (xs ++ [x]) := by
  refine ⟨by simpa using hs, fun k hk => ?_, h.fr.trans hf (fun j hj => .inr (h.new j hj))⟩
  simp [Value.blk] at hk
  subst hk
  exact hg.elim (h.new _) (fun hg => by have := h.fr.size; omega)
theorem Own.shape {w w1 : World} {e : TypeId} {v : Value} {xs : List Value} (h : Own w w1 e v xs) : ∃ a c, v = .slice a xs.length c := by
  obtain ⟨a, c, he, _⟩ := h.sl.shape
  exact ⟨a, c, he⟩

theorem infoI : (Tryz.prog.info? 3).map (fun i => (i.zero, i.size, i.bytes)) = some (some (.int .i64 0), 1, 8) := by kernel_rfl
theorem infoS : (Tryz.prog.info? 9).map (fun i => (i.zero, i.size, i.bytes)) = some (some (.string .empty), 1, 16) := by kernel_rfl

abbrev pcells (l want : List BA) : List Value := want.map fun x => .int .i64 (idx l x)
set_option maxRecDepth 100000 in
set_option maxHeartbeats 1000000 in
theorem places70 {w : World} {v1 v2 : Value} {l want : List BA} (h1 : RdStr w v1 l) (h2 : RdStr w v2 want) (hl : l.length ≤ 8000000000000000000) (hm : want.length ≤ 10000000000000) :
    Calls Tryz.prog 70 #[v1, v2] w fun e w' => ∃ v, e = .returned v ∧ Own w w' 3 v (pcells l want) := by
  obtain ⟨a1, c1, rfl, _, _⟩ := h1.rd.shape
  obtain ⟨a2, c2, rfl, _, _⟩ := h2.rd.shape
  have H1 := Lib.hid h1; have H2 := Lib.hid h2; have Hl := Lib.hid hl; have Hm := Lib.hid hm; clear h1 h2 hl hm
  go_enter Tryz.func70, Tryz.ntmps70
  go_wp2
  go_loopw [10, 5] (fun i t wr => ∃ j : Nat, i = .int .i64 j ∧ j ≤ want.length ∧ Hid (Own w wr 3 t (pcells l (want.take j)))) (fun i _ _ => (want.length - intOf i).toNat)
  case atStart => exact ⟨0, rfl, Nat.zero_le _, Lib.hid (Own.nil w 3)⟩
  case round =>
    obtain ⟨j, rfl, hj, HO⟩ := hrel
    obtain ⟨ta, tc, rfl⟩ := HO.out.shape
    by_cases hlt : j < want.length
    · obtain ⟨y, hy⟩ : ∃ y, want[j]? = some y := ⟨want[j], List.getElem?_eq_getElem (by omega)⟩
      obtain ⟨g, off, c, hv, hg, kx⟩ := (H2.out.fr HO.out.fr (by simp)).at hy
      cases hv
      have hrI : (j : Int) < (want.length : Int) := by omega
      have hw1 : IntKind.i64.wrap ((j : Int) + 1) = (j : Int) + 1 := IntWalk.i64_in _ (by have := Hm.out; omega)
      have hc := index97 y (H1.out.fr HO.out.fr (by simp)) Hl.out
      have hsn : pcells l (want.take (j + 1)) = pcells l (want.take j) ++ [.int .i64 (idx l y)] := by
        rw [List.take_succ_eq_append_getElem hlt, (List.getElem?_eq_some_iff.1 hy).2]
        simp [pcells]
      have hpl : (pcells l (want.take j)).length = j := by simp; omega
      have Hc := Lib.hid hc; have Hsn := Lib.hid hsn; clear hc hy hsn
      rw [hpl] at HO ⊢
      generalize idx l y = z at *
      have Hpl := Lib.hid hpl; clear hpl
      generalize pcells l (want.take j) = xs at *
      obtain ⟨i0, hi, hz0, hz1, hz2⟩ := info_parts infoI
      have hroom : j < 10000000000000 := by have := Hm.out; omega
      go_wp2_with (first | (go_at_call 97; refine Hc.out.mono ?_; rintro e w2 ⟨rfl, rfl⟩) | (at_builtin; refine wpList_append_one _ rfl (.tmp 14) (.tmp 18) 74 rfl 3 i0 (.int .i64 0) 1 8 Tryz.underlying74 hi hz0 hz1 hz2 rfl (.slice ta j tc) j xs rfl ?qhb wr.heap.size 1 [.int .i64 z] 3 rfl ?qB rfl rfl ⟨?qc1, ?qc2⟩ ?_))
      case qhb =>
        have := HO.out.sl
        rw [Hpl.out] at this
        exact this.alloc _
      case qB => exact heap_alloc_at _ _ _ (by simp)
      case qc1 => omega
      case qc2 => omega
      intro g2 off2 cap2 w3 hsl hfr hat hlt3
      have hown := (HO.out.still ((World.Fr.refl wr []).alloc (.cells #[.int .i64 z] 3))).appended (x := .int .i64 z) (g := g2) (off := off2) (c := cap2) (by rw [Hpl.out]; exact hsl) hfr (by simpa using hat)
      rw [Hpl.out, ← Hsn.out] at hown
      have Hown := Lib.hid hown; clear hown hsl hfr hat kx
      go_wp2
      go_roundw
      case rel => exact ⟨j + 1, by go_num, by omega, Hown⟩
      case measure => simp [intOf]; omega
    · have hd : decide ((j : Int) < (want.length : Int)) = false := decide_eq_false (by omega)
      have hd2 : decide (j < want.length) = false := decide_eq_false hlt
      have hjz : want.take j = want := List.take_of_length_le (by omega)
      rw [hjz] at HO ⊢
      clear hlt hj hjz
      go_wp2
      go_ret
      exact ⟨_, rfl, HO.out⟩
end Go.Proofs.YtikodapgceokhaaGreat
