/-
  The walk of the statement TableNumbers.
-/
import Derived.Test.YtikodapgceokhaaGreatLive
namespace Go.Proofs.YtikodapgceokhaaGreat
open Go.RowKit

abbrev nm (x : UInt8) : BA := ⟨#[x]⟩
theorem nm_lt (x y : UInt8) : ltS (nm x) (nm y) = decide (x < y) := by simp [ltS, nm, ByteArray.toList_eq, Op.bytesLess]
def down8 : List BA := [nm 104, nm 103, nm 102, nm 101, nm 100, nm 99, nm 98, nm 97]
def up8 : List BA := [nm 97, nm 98, nm 99, nm 100, nm 101, nm 102, nm 103, nm 104]
theorem up8_pair : up8.Pairwise fun a b => ltS a b = true := by
  unfold up8
  simp [nm_lt]
theorem down8_rev : down8 = up8.reverse := rfl
theorem down8_nd : down8.Nodup := by rw [down8_rev]; exact (List.reverse_perm up8).nodup_iff.2 (nodup_of_pair up8_pair)
theorem sort8 : sortS down8 = up8 := names_one (sortS_pair down8_nd) up8_pair fun a => by rw [(sortS_perm down8).mem_iff, down8_rev, List.mem_reverse]
theorem of8 : ∃ T, ofT cfI down8 [] = (0, T) ∧ T.vars = up8 := by
  refine ⟨madeT cfI down8 [], ?_, sort8⟩
  unfold ofT
  rw [if_neg (by
    rintro (h | h)
    · simp [down8] at h
    · exact h down8_nd)]
  rfl
theorem nm_size (x : UInt8) : (nm x).size ≤ 9223372036854775807 := by simp [ByteArray.size]
theorem e31 (l : List BA) (hl : l.length ≤ 100) (hw : ∀ s, s ∈ l → ∃ x, s = nm x) (W : World) : Calls Tryz.prog 31 #[.slice (some ⟨W.heap.size, 0, none⟩) l.length l.length] (W.alloc (.cells (l.map Value.string).toArray 9)) fun e w' => ∃ a1 n1 c1 a2 n2 c2, e = .returned (.tuple #[.agg #[.slice a1 n1 c1, .slice a2 n2 c2], .int .i64 (ofT cfI l []).1]) ∧ Hid (OwnTab W w' (.agg #[.slice a1 n1 c1, .slice a2 n2 c2]) (ofT cfI l []).2) := by
  have hs := World.Sl.lit W 9 (l.map Value.string).toArray l.length 1 (by unfold maxLen; omega) (by simp)
  refine (empty31 ctxI (l := l) ⟨by simpa using hs.rd, fun s hs => by obtain ⟨x, rfl⟩ := hw s hs; exact nm_size x⟩ (by omega)).mono fun e w' ⟨v, he, ho⟩ => ?_
  obtain ⟨z1, u1, z2, u2, rfl⟩ := ho.shape
  exact ⟨z1, _, u1, z2, _, u2, he, Lib.hid (ho.since ((World.Fr.refl W []).alloc _))⟩
def names9 : List BA := [nm 97, nm 98, nm 99, nm 100, nm 101, nm 102, nm 103, nm 104, nm 105]

set_option maxRecDepth 100000 in
set_option maxHeartbeats 2000000 in
theorem numbers7 (w : World) : Calls Tryz.prog 7 #[] w fun e w' => e = .returned (.bool true) ∧ w.Fr w' [] := by
  have h9 := e31 names9 (by simp [names9]) (by simp only [names9, List.mem_cons, List.not_mem_nil, or_false]; rintro s (rfl | rfl | rfl | rfl | rfl | rfl | rfl | rfl | rfl) <;> exact ⟨_, rfl⟩) w
  have h30 : (ofT cfI names9 []).1 = 30 := by unfold ofT; rw [if_pos (.inl (by simp [names9]))]
  rw [h30] at h9
  have h9 : Calls Tryz.prog 31 #[.slice (some ⟨w.heap.size, 0, none⟩) 9 9] (w.alloc (.cells #[.string ⟨#[97]⟩, .string ⟨#[98]⟩, .string ⟨#[99]⟩, .string ⟨#[100]⟩, .string ⟨#[101]⟩, .string ⟨#[102]⟩, .string ⟨#[103]⟩, .string ⟨#[104]⟩, .string ⟨#[105]⟩] 9)) fun e w' => ∃ a1 n1 c1 a2 n2 c2, e = .returned (.tuple #[.agg #[.slice a1 n1 c1, .slice a2 n2 c2], .int .i64 30]) ∧ Hid (OwnTab w w' (.agg #[.slice a1 n1 c1, .slice a2 n2 c2]) (ofT cfI names9 []).2) := h9
  have h8 := fun W => e31 down8 (by simp [down8]) (by simp only [down8, List.mem_cons, List.not_mem_nil, or_false]; rintro s (rfl | rfl | rfl | rfl | rfl | rfl | rfl | rfl) <;> exact ⟨_, rfl⟩) W
  obtain ⟨T, hT, hv⟩ := of8
  rw [hT] at h8
  have h8 : ∀ W : World, Calls Tryz.prog 31 #[.slice (some ⟨W.heap.size, 0, none⟩) 8 8] (W.alloc (.cells #[.string ⟨#[104]⟩, .string ⟨#[103]⟩, .string ⟨#[102]⟩, .string ⟨#[101]⟩, .string ⟨#[100]⟩, .string ⟨#[99]⟩, .string ⟨#[98]⟩, .string ⟨#[97]⟩] 9)) fun e w' => ∃ a1 n1 c1 a2 n2 c2, e = .returned (.tuple #[.agg #[.slice a1 n1 c1, .slice a2 n2 c2], .int .i64 0]) ∧ Hid (OwnTab W w' (.agg #[.slice a1 n1 c1, .slice a2 n2 c2]) T) := h8
  have H9 := Lib.hid h9; have H8 := Lib.hid h8; have Hv := Lib.hid hv
  clear h9 h8 h30 hT hv
  go_enter Tryz.func7, Tryz.ntmps7
  go_wp2_with fail
  (with_reducible refine H9.out.mono ?_)
  rintro e w1 ⟨a1, n1, c1, a2, n2, c2, rfl, ho⟩
  have hf1 := ho.out.fr.alloc (.cells #[.slice a1 n1 c1, .slice a2 n2 c2] 25)
  have Hf1 := Lib.hid hf1; clear hf1 ho H9
  go_upto_region 2 with (fail)
  generalize hW2 : World.alloc w1 _ = W2 at *
  clear hW2
  generalize w1.heap.size = b1 at *
  go_wp2_with fail
  (with_reducible refine (H8.out _).mono ?_)
  rintro e w3 ⟨d1, m1, e1, d2, m2, e2, rfl, ho⟩
  obtain ⟨x, y, hs, hxy, hvs, _⟩ := ho.out.ex
  rw [Hv.out] at hvs
  cases hxy
  obtain ⟨xa, xc, hx, _, _⟩ := hvs.shape
  cases hx
  have hrd : RdStr w3 (.slice d1 up8.length e1) up8 := ⟨by have := hvs.rd; exact this, fun s hs => ho.out.wf.1 s (by rw [Hv.out]; exact hs)⟩
  have hf3 := (Hf1.out.trans ho.out.fr (by simp)).alloc (.cells #[.slice d1 up8.length e1, .slice d2 m2 e2] 25)
  have Hf3 := Lib.hid hf3; have Hrd := Lib.hid hrd
  clear hf3 ho H8 hrd hvs Hf1
  go_upto_region 3 with (fail)
  generalize hW4 : World.alloc w3 _ = W4 at *
  have q1 : W4.heap[w3.heap.size]? = some (.cells #[.slice d1 up8.length e1, .slice d2 m2 e2] 25 (0, 0)) := by rw [← hW4]; exact heap_alloc_at _ _ _ rfl
  have hrd4 : RdStr W4 (.slice d1 up8.length e1) up8 := by rw [← hW4]; exact Hrd.out.fr ((World.Fr.refl w3 []).alloc _) (by simp)
  clear hW4 Hrd
  generalize w3.heap.size = b3 at *
  have Q1 := Lib.hid q1; have Hrd4 := Lib.hid hrd4; clear q1 hrd4
  go_wp2_with fail
  (with_reducible refine (live18 _).mono ?_)
  rintro e w5 ⟨rfl, hf5⟩
  have q1 := hf5.heap Q1.out (by simp)
  have hrd5 := Hrd4.out.fr hf5 (by simp)
  obtain ⟨g, off, c, hv, hg, kx⟩ := hrd5.at (j := 0) (v := nm 97) rfl
  have hfin := Hf3.out.trans hf5 (by simp)
  have Hfin := Lib.hid hfin
  have h8 : up8.length = 8 := rfl
  rw [h8] at q1 hv ⊢
  cases hv
  rw [Nat.add_zero] at kx
  obtain ⟨p0, p1, pf⟩ := two q1
  clear q1 hrd5 hf5 Q1 Hrd4 hfin h8 Hf3
  go_wp2
  go_ret
  exact ⟨rfl, Hfin.out⟩
end Go.Proofs.YtikodapgceokhaaGreat
