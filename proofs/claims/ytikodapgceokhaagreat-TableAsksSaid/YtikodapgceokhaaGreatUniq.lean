/-
  The walks of slices.Clone and slices.Sort of names, table.unlike.
-/
import Derived.Test.YtikodapgceokhaaGreatSrt
namespace Go.Proofs.YtikodapgceokhaaGreat
open Go.RowKit

theorem one_strings (l : List BA) : (l.map Value.string).all Value.oneCell' = true := by simp [List.all_eq_true, Value.oneCell']

set_option maxRecDepth 100000 in
set_option maxHeartbeats 1000000 in
theorem clone65 {w : World} {v : Value} {l : List BA} (h : RdStr w v l) (hl : l.length ≤ 8796093021952) :
    Calls Tryz.prog 65 #[v] w fun e w' => ∃ v', e = .returned v' ∧ Own w w' 9 v' (l.map Value.string) := by
  obtain ⟨a, c, rfl, _, _⟩ := h.rd.shape
  have H := Lib.hid h; have Hl := Lib.hid hl; clear h hl
  have q22 : ∀ (w : World) (a : Option Addr) (n c n' c' : Nat), (binOp .eql 22 (.slice a n c) (.slice none n' c')).run Tryz.prog w = .ok (.bool a.isNone) w := fun w a n c n' c' => Lib.run_eql_slice_nil w _ _ a n c n' c' Tryz.underlying22
  cases a with
  | none =>
    have hl0 : l = [] := by
      rcases H.out.rd.2 with ⟨h0, _⟩ | ⟨g, off, cap, he, _⟩
      · exact List.eq_nil_of_length_eq_zero h0
      · cases he
    subst hl0
    go_enter Tryz.func65, Tryz.ntmps65
    go_wp2
    go_ret
    exact ⟨_, rfl, Own.nil w 9⟩
  | some a =>
    obtain ⟨i0, hi, hz0, hz1, hz2⟩ := info_parts infoS
    have hroom : l.length ≤ 8796093021952 := Hl.out
    go_enter Tryz.func65, Tryz.ntmps65
    go_wp2_with (at_builtin; refine wpList_append_src _ rfl (.tmp 5) (.tmp 6) 22 rfl 9 i0 (.string .empty) 1 16 Tryz.underlying22 hi hz0 hz1 hz2 rfl (.slice (some ⟨w.heap.size, 0, none⟩) 0 0) 0 [] rfl ?qs0 (.slice (some a) l.length c) l.length (l.map Value.string) rfl ?qs1 (one_strings l) ⟨?qr1, ?qr2⟩ ?_)
    case qs0 => exact World.Sl.lit w 9 #[] 0 1 (by simp [maxLen]) rfl
    case qs1 => exact (H.out.fr ((World.Fr.refl w []).alloc _) (by simp)).rd
    case qr1 => omega
    case qr2 => omega
    intro v' w1 hs hf hb
    obtain ⟨a1, c1, rfl, _, _⟩ := hs.shape
    try simp only [Nat.zero_add, List.nil_append] at hs
    have hown : Own w w1 9 (.slice a1 l.length c1) (l.map Value.string) := by
      refine ⟨?_, fun k hk => ?_, ((World.Fr.refl w []).alloc _).trans hf (fun j hj => ?_)⟩
      · simpa using hs
      · rcases hb k hk with h | h
        · simp [Value.blk] at h; omega
        · omega
      · simp [Value.blk] at hj; exact .inr (by omega)
    have Hown := Lib.hid hown; clear hown hs hf hb
    go_wp2
    go_ret
    exact ⟨_, rfl, Hown.out⟩

/-- names, sorted -/
def sortS (l : List BA) : List BA := ((l.map (·.data.toList)).mergeSort fun x y => decide (x ≤ y)).map fun x => ⟨x.toArray⟩
theorem sortS_len (l : List BA) : (sortS l).length = l.length := by simp [sortS]

theorem sort106 {w : World} {v : Value} {l : List BA} (h : w.Sl 9 1 v l.length (l.map Value.string)) (hl : l.length ≤ 8796093021952) :
    Calls Tryz.prog 106 #[v] w fun e w' => e = .returned (.tuple #[]) ∧ w'.Sl 9 1 v (sortS l).length ((sortS l).map Value.string) ∧ w.Fr w' v.blk := by
  by_cases h0 : l.length = 0
  · obtain rfl := List.eq_nil_of_length_eq_zero h0
    obtain ⟨a, c, rfl, _, _⟩ := h.shape
    refine (Tryz.slices_Sort_string_none a c w).mono fun e w' ⟨he, hw⟩ => ⟨he, ?_, ?_⟩
    · subst hw; simpa [sortS] using h
    · subst hw; exact World.Fr.refl _ _
  · obtain ⟨g, off, c, rfl, _, _, hg, _, _⟩ := h.form (by omega)
    have hx : (l.map (·.data.toList)).map Go.Proofs.encStr = l.map Value.string := by
      rw [List.map_map]
      exact List.map_congr_left fun s _ => rfl
    have hlen : (l.map (·.data.toList)).length = l.length := by simp
    have h' : w.Sl 9 1 (.slice (some ⟨g, off, none⟩) (l.map (·.data.toList)).length c) (l.map (·.data.toList)).length ((l.map (·.data.toList)).map Go.Proofs.encStr) := by rw [hx, hlen]; exact h
    have hc := Tryz.slices_Sort_string g off c (l.map (·.data.toList)) w h'.holds hg (by rw [hlen]; omega)
    rw [hlen] at hc
    refine hc.mono fun e w' ⟨he, n, os, hw⟩ => ?_
    obtain ⟨h1, h2⟩ := h'.sorted (((l.map (·.data.toList)).mergeSort fun x y => decide (x ≤ y)).toArray) (by simp) n os
    have hw' : w' = Go.Proofs.sortWorld Go.Proofs.encStr w g off n (((l.map (·.data.toList)).mergeSort fun x y => decide (x ≤ y)).toArray) os := hw
    rw [← hw'] at h1 h2
    refine ⟨he, ?_, by simpa [Value.blk] using h2⟩
    have hy : (sortS l).map Value.string = ((l.map (·.data.toList)).mergeSort fun x y => decide (x ≤ y)).map Go.Proofs.encStr := by
      unfold sortS
      rw [List.map_map]
      exact List.map_congr_left fun s _ => rfl
    rw [sortS_len, hy]
    rw [hlen] at h1
    simpa using h1

theorem Own.rd {w w1 : World} {v : Value} {l : List BA} (h : Own w w1 9 v (l.map Value.string)) (hw : ∀ s, s ∈ l → s.size ≤ 9223372036854775807) : RdStr w1 v l := by
  have := h.sl.rd
  rw [List.length_map] at this
  exact ⟨this, hw⟩
theorem sortS_mem {l : List BA} {s : BA} (h : s ∈ sortS l) : s ∈ l := by
  unfold sortS at h
  obtain ⟨x, hx, rfl⟩ := List.mem_map.1 h
  obtain ⟨y, hy, rfl⟩ := List.mem_map.1 ((List.mergeSort_perm _ _).mem_iff.1 hx)
  exact hy

theorem unlike78 {w : World} {v : Value} {l : List BA} (h : RdStr w v l) (hl : l.length ≤ 8796093021952) :
    Calls Tryz.prog 78 #[v] w fun e w' => e = .returned (.bool (risesB (sortS l))) ∧ w.Fr w' [] := by
  have hc := clone65 h hl
  have hwf := h.wf
  obtain ⟨a, c, rfl, _, _⟩ := h.rd.shape
  have Hc := Lib.hid hc; have Hl := Lib.hid hl; have Hwf := Lib.hid hwf; clear hc hl h hwf
  go_enter Tryz.func78, Tryz.ntmps78
  go_wp2_with fail
  refine Hc.out.mono ?_
  rintro e w1 ⟨v1, rfl, ho⟩
  obtain ⟨a1, c1, rfl⟩ := ho.shape
  rw [List.length_map] at ho ⊢
  have hs := sort106 (l := l) (v := .slice a1 l.length c1) (by have := ho.sl; rw [List.length_map] at this; exact this) Hl.out
  have Hs := Lib.hid hs; have Ho := Lib.hid ho; clear hs ho
  go_wp2_with fail
  refine Hs.out.mono ?_
  rintro e w2 ⟨rfl, hs2, hf2⟩
  have hrd : RdStr w2 (.slice a1 l.length c1) (sortS l) := by
    refine ⟨?_, fun s hs => Hwf.out s (sortS_mem hs)⟩
    have := hs2.rd
    rw [sortS_len] at this ⊢
    exact this
  have hr := rises47 hrd (by rw [sortS_len]; have := Hl.out; omega)
  have Hr := Lib.hid hr; have Hf := Lib.hid (Ho.out.fr.trans hf2 (fun j hj => .inr (Ho.out.new j hj))); clear hr hrd hs2 hf2
  go_wp2_with fail
  refine Hr.out.mono ?_
  rintro e w3 ⟨rfl, hf3⟩
  have Hf3 := Lib.hid (Hf.out.trans hf3 (by simp)); clear hf3
  go_wp2
  go_ret
  exact ⟨rfl, Hf3.out⟩
end Go.Proofs.YtikodapgceokhaaGreat
