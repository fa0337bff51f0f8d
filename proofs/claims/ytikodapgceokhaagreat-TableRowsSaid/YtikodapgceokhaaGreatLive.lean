/-
  The walk of the statements' live.
-/
import Derived.Test.YtikodapgceokhaaGreatLive0
namespace Go.Proofs.YtikodapgceokhaaGreat
open Go.RowKit

/-- the boxes so far, and the tables that they hold -/
structure LS (w W : World) (bs : List (Nat × Value × Value × Tb)) : Prop where
  fr : w.Fr W []
  box : ∀ p, p ∈ bs → W.heap[p.1]? = some (.cells #[p.2.1, p.2.2.1] 25 (0, 0)) ∧ RdTab W (.agg #[p.2.1, p.2.2.1]) p.2.2.2
theorem LS.still {w W W' : World} {bs : List (Nat × Value × Value × Tb)} (h : LS w W bs) (hf : W.Fr W' []) : LS w W' bs :=
  ⟨h.fr.trans hf (by simp), fun p hp => ⟨hf.heap (h.box p hp).1 (by simp), (h.box p hp).2.still hf⟩⟩
theorem LS.nil (w : World) : LS w w [] := ⟨World.Fr.refl w [], by simp⟩
theorem LS.push {w W W' : World} {bs : List (Nat × Value × Value × Tb)} {x y : Value} {t : Tb} (h : LS w W bs) (ho : OwnTab W W' (.agg #[x, y]) t) : LS w (W'.alloc (.cells #[x, y] 25)) (bs ++ [(W'.heap.size, x, y, t)]) := by
  have hf : W.Fr (W'.alloc (.cells #[x, y] 25)) [] := ho.fr.alloc _
  refine ⟨h.fr.trans hf (by simp), fun p hp => ?_⟩
  rcases List.mem_append.1 hp with hp | hp
  · exact (h.still hf).box p hp
  · simp at hp
    subst hp
    exact ⟨heap_alloc_at _ _ _ rfl, ho.rd.still ((World.Fr.refl W' []).alloc _)⟩
theorem xy_lit (l : List Int) (n : Nat) (hl : l.length = 2 * n) (hn : n ≤ 100) (hi : ∀ x, x ∈ l → inI64 x) (W : World) : Calls Tryz.prog 54 #[.slice (some ⟨W.heap.size, 0, none⟩) (2 * n) (2 * n)] (W.alloc (.cells (icells l).toArray 2)) fun e w' => ∃ x1 m1 y1 x2 m2 y2, e = .returned (.agg #[.slice x1 m1 y1, .slice x2 m2 y2]) ∧ Hid (OwnTab W w' (.agg #[.slice x1 m1 y1, .slice x2 m2 y2]) ⟨[nmX, nmY], pairsI l⟩) := by
  have hs := World.Sl.lit W 2 (icells l).toArray (2 * n) 1 (by simp [maxLen]; omega) (by simp [hl])
  have hr := hs.rd
  rw [← hl] at hr ⊢
  refine (xy54 n (by simpa using hr) hl hn hi).mono fun e w' ⟨v, he, ho⟩ => ?_
  obtain ⟨x1, y1, x2, y2, rfl⟩ := ho.shape
  exact ⟨x1, _, y1, x2, _, y2, he, Lib.hid (ho.since ((World.Fr.refl W []).alloc _))⟩
theorem xy_at (l : List Int) (n : Nat) (hl : l.length = 2 * n) (hn : n ≤ 100) (hi : ∀ x, x ∈ l → inI64 x) {W : World} {B : Nat} (hB : W.heap[B]? = some (.cells (icells l).toArray 2 (0, 0))) : Calls Tryz.prog 54 #[.slice (some ⟨B, 0, none⟩) (2 * n) (2 * n)] W fun e w' => ∃ x1 m1 y1 x2 m2 y2, e = .returned (.agg #[.slice x1 m1 y1, .slice x2 m2 y2]) ∧ Hid (OwnTab W w' (.agg #[.slice x1 m1 y1, .slice x2 m2 y2]) ⟨[nmX, nmY], pairsI l⟩) := by
  have hs : W.Sl 2 1 (.slice (some ⟨B, 0, none⟩) (2 * n) (2 * n)) (2 * n) (icells l) := ⟨by simp [hl], .inr ⟨B, 0, 2 * n, _, rfl, hB, Nat.le_refl _, by simp [maxLen]; omega, by simp [hl], by simp [hl, List.take_of_length_le]⟩⟩
  have hr := hs.rd
  rw [← hl] at hr ⊢
  refine (xy54 n hr hl hn hi).mono fun e w' ⟨v, he, ho⟩ => ?_
  obtain ⟨x1, y1, x2, y2, rfl⟩ := ho.shape
  exact ⟨x1, _, y1, x2, _, y2, he, Lib.hid ho⟩
theorem frcell {W w1 : World} (hb : W.Fr w1 []) : (∀ b o, b < W.heap.size → w1.cell? ⟨b, o, none⟩ = W.cell? ⟨b, o, none⟩) ∧ (∀ b o, b < W.heap.size → w1.frozen? ⟨b, o, none⟩ = W.frozen? ⟨b, o, none⟩) ∧ W.heap.size ≤ w1.heap.size :=
  ⟨fun b o h => World.cell?_of_block (a := ⟨b, o, none⟩) (hb.block b h (by simp)), fun b o h => World.frozen?_of_block (a := ⟨b, o, none⟩) (hb.block b h (by simp)), hb.size⟩
theorem undrew {w w' : World} {L : List Nat} (h : w.Fr w'.drew L) : w.Fr w' L := ⟨h.os, h.tape, h.output, h.size, h.block⟩
theorem nm_wf {l : List BA} (h : ∀ s, s ∈ l → s = nmX ∨ s = nmY ∨ s = nmZ) : ∀ s, s ∈ l → s.size ≤ 9223372036854775807 := fun s hs => by
  rcases h s hs with rfl | rfl | rfl <;> simp [nmX, nmY, nmZ, ByteArray.size]
theorem fitsI {t : Tb} (hv : t.vars.length ≤ 8) (hr : t.rows.length ≤ 8) (h : ∀ r, r ∈ t.rows → r.length ≤ 8 ∧ ∀ x, x ∈ r → okI x) : Fits okI t :=
  ⟨⟨by omega, by omega, fun r hr => by have := (h r hr).1; omega⟩, by omega, fun r hr => (h r hr).2⟩
theorem fitsA : Fits okI tA := fitsI (by simp [tA]) (by simp [tA]) (by simp only [tA, List.mem_cons, List.not_mem_nil, or_false]; rintro r (rfl | rfl | rfl) <;> exact ⟨by simp, ok_r2 _ _⟩)
theorem fitsB : Fits okI tB := fitsI (by simp [tB]) (by simp [tB]) (by simp only [tB, List.mem_cons, List.not_mem_nil, or_false]; rintro r (rfl | rfl | rfl) <;> exact ⟨by simp, ok_r2 _ _⟩)
theorem fitsC : Fits okI tC := fitsI (by simp [tC]) (by simp [tC]) (by simp only [tC, List.mem_cons, List.not_mem_nil, or_false]; rintro r rfl; exact ⟨by simp, ok_r2 _ _⟩)
theorem fitsD : Fits okI tD := fitsI (by simp [tD]) (by simp [tD]) (by simp only [tD, List.mem_cons, List.not_mem_nil, or_false]; rintro r (rfl | rfl) <;> exact ⟨by simp, ok_r2 _ _⟩)
theorem fitsE : Fits okI tE := fitsI (by simp [tE]) (by simp [tE]) (by simp only [tE, List.mem_cons, List.not_mem_nil, or_false]; rintro r (rfl | rfl) <;> exact ⟨by simp, ok_r2 _ _⟩)

set_option maxRecDepth 100000 in
set_option maxHeartbeats 8000000 in
theorem live18 (w : World) : Calls Tryz.prog 18 #[] w fun e w' => e = .returned (.bool true) ∧ w.Fr w' [] := by
  have hx1 := xy_lit [1, 1, 1, 2, 2, 1] 3 rfl (by omega) (by unfold inI64; simp) w
  have Hx1 := Lib.hid hx1; clear hx1
  go_enter Tryz.func18, Tryz.ntmps18
  go_wp2_with fail
  refine Hx1.out.mono ?_
  rintro e w1 ⟨x1, m1, y1, x2, m2, y2, rfl, ho⟩
  have hL := (LS.nil w).push ho.out
  change LS w _ [(_, _, _, tA)] at hL
  clear Hx1 ho
  go_upto_region 2 with (fail)
  generalize hW2 : World.alloc w1 _ = W2 at *
  clear hW2
  generalize w1.heap.size = b1 at *
  obtain ⟨q1, hT1⟩ := hL.box (b1, .slice x1 m1 y1, .slice x2 m2 y2, tA) (by simp)
  obtain ⟨p0, p1, pf⟩ := two q1
  have hlb := lt_of_heap q1
  -- Rename
  have hren : Calls Tryz.prog 28 #[.agg #[.slice x1 m1 y1, .slice x2 m2 y2], .slice (some ⟨W2.heap.size, 0, none⟩) 2 2, .slice (some ⟨W2.heap.size + 1, 0, none⟩) 2 2] ((W2.alloc (.cells #[.string ⟨#[120]⟩, .string ⟨#[121]⟩] 9)).alloc (.cells #[.string ⟨#[121]⟩, .string ⟨#[122]⟩] 9)) fun e w' => ∃ z1 n1 u1 z2 n2 u2, e = .returned (.tuple #[.agg #[.slice z1 n1 u1, .slice z2 n2 u2], .int .i64 0]) ∧ Hid (OwnTab W2 w' (.agg #[.slice z1 n1 u1, .slice z2 n2 u2]) tB) := by
    have f1 := (World.Fr.refl W2 []).alloc (.cells #[.string ⟨#[120]⟩, .string ⟨#[121]⟩] 9)
    have f2 := f1.alloc (.cells #[.string ⟨#[121]⟩, .string ⟨#[122]⟩] 9)
    have l1 := (World.Sl.lit W2 9 #[.string ⟨#[120]⟩, .string ⟨#[121]⟩] 2 1 (by simp [maxLen]) rfl).alloc (.cells #[.string ⟨#[121]⟩, .string ⟨#[122]⟩] 9)
    have l2 := World.Sl.lit (W2.alloc (.cells #[.string ⟨#[120]⟩, .string ⟨#[121]⟩] 9)) 9 #[.string ⟨#[121]⟩, .string ⟨#[122]⟩] 2 1 (by simp [maxLen]) rfl
    rw [show (W2.alloc (.cells #[.string ⟨#[120]⟩, .string ⟨#[121]⟩] 9)).heap.size = W2.heap.size + 1 by simp] at l2
    have hc := rename28 ctxI (hT1.still f2) (fs := [nmX, nmY]) (ts := [nmY, nmZ]) ⟨l1.rd, nm_wf (by simp)⟩ ⟨l2.rd, nm_wf (by simp)⟩ fitsA (by simp)
    rw [rename_ab] at hc
    refine hc.mono fun e w' ⟨v, he, ho⟩ => ?_
    obtain ⟨z1, u1, z2, u2, rfl⟩ := ho.shape
    exact ⟨z1, _, u1, z2, _, u2, he, Lib.hid (ho.since f2)⟩
  have HL := Lib.hid hL; have Hren := Lib.hid hren
  clear hren hT1 q1 hL
  go_wp2_with fail
  refine Hren.out.mono ?_
  rintro e w3 ⟨z1, n1, u1, z2, n2, u2, rfl, ho⟩
  have hL := HL.out.push ho.out
  clear Hren ho HL p0 p1 pf hlb
  go_upto_region 3 with (fail)
  generalize hW4 : World.alloc w3 _ = W4 at *
  clear hW4
  generalize w3.heap.size = b2 at *
  change LS w W4 [(b1, .slice x1 m1 y1, .slice x2 m2 y2, tA), (b2, .slice z1 n1 u1, .slice z2 n2 u2, tB)] at hL
  obtain ⟨q1, hT1⟩ := hL.box (b1, .slice x1 m1 y1, .slice x2 m2 y2, tA) (by simp)
  obtain ⟨q2, hT2⟩ := hL.box (b2, .slice z1 n1 u1, .slice z2 n2 u2, tB) (by simp)
  obtain ⟨p0, p1, pf⟩ := two q1
  obtain ⟨r0, r1, rf⟩ := two q2
  have hlb := lt_of_heap q1
  -- Join
  have hjoin : Calls Tryz.prog 24 #[.agg #[.slice x1 m1 y1, .slice x2 m2 y2], .agg #[.slice z1 n1 u1, .slice z2 n2 u2]] W4 fun e w' => ∃ j1 k1 l1 j2 k2 l2 T, e = .returned (.tuple #[.agg #[.slice j1 k1 l1, .slice j2 k2 l2], .int .i64 0]) ∧ Hid (OwnTab W4 w' (.agg #[.slice j1 k1 l1, .slice j2 k2 l2]) T ∧ k1 = 3 ∧ k2 = 5) := by
    have hc := join24 ctxI hT1 hT2 fitsA fitsB (by simp [tA, tB])
    obtain ⟨T, hT, hT5, hT3⟩ := join_ab
    rw [hT] at hc
    refine hc.mono fun e w' ⟨v, he, ho⟩ => ?_
    obtain ⟨z1, u1, z2, u2, rfl⟩ := ho.shape
    exact ⟨z1, _, u1, z2, _, u2, T, he, Lib.hid ⟨ho, hT3, hT5⟩⟩
  have HL := Lib.hid hL; have Hjoin := Lib.hid hjoin
  clear hjoin hT1 hT2 q1 q2 hL
  go_wp2_with fail
  refine Hjoin.out.mono ?_
  rintro e w5 ⟨j1, k1, l1, j2, k2, l2, TJ, rfl, ho⟩
  have hL := HL.out.push ho.out.1
  obtain ⟨_, rfl, rfl⟩ := ho.out
  clear Hjoin ho HL p0 p1 pf r0 r1 rf hlb
  go_upto_region 5 with (fail)
  generalize hW6 : World.alloc w5 _ = W6 at *
  clear hW6
  generalize w5.heap.size = b4 at *
  change LS w W6 [(b1, .slice x1 m1 y1, .slice x2 m2 y2, tA), (b2, .slice z1 n1 u1, .slice z2 n2 u2, tB), (b4, .slice j1 3 l1, .slice j2 5 l2, TJ)] at hL
  obtain ⟨q1, hT1⟩ := hL.box (b1, .slice x1 m1 y1, .slice x2 m2 y2, tA) (by simp)
  obtain ⟨p0, p1, pf⟩ := two q1
  have hlb := lt_of_heap q1
  -- Anti
  have hanti : ∀ W' xx, W6.Fr W' [] → RdTab W' xx tC → Calls Tryz.prog 26 #[.agg #[.slice x1 m1 y1, .slice x2 m2 y2], xx] W' fun e w' => ∃ j1 k1 l1 j2 k2 l2, e = .returned (.tuple #[.agg #[.slice j1 k1 l1, .slice j2 k2 l2], .int .i64 0]) ∧ Hid (OwnTab W6 w' (.agg #[.slice j1 k1 l1, .slice j2 k2 l2]) tD ∧ W'.Fr w' []) := fun W' xx hf hr => by
    have hc := anti26 ctxI (hT1.still hf) hr fitsA fitsC
    rw [anti_ac] at hc
    refine hc.mono fun e w' ⟨v, he, ho⟩ => ?_
    obtain ⟨z1, u1, z2, u2, rfl⟩ := ho.shape
    exact ⟨z1, _, u1, z2, _, u2, he, Lib.hid ⟨ho.since hf, ho.fr⟩⟩
  have HL := Lib.hid hL; have Hanti := Lib.hid hanti; have Q1 := Lib.hid q1
  clear hanti hT1 q1 hL
  have hlb2 : b1 < W6.heap.size + 1 := Nat.lt_succ_of_lt hlb
  go_cut [6, 7] (fun s6 s7 wx => s7 = .int .i64 0 ∧ ∃ b6 j1 k1 l1 j2 k2 l2, s6 = .pointer (some ⟨b6, 0, none⟩) ∧ Hid (W6.Fr wx [] ∧ wx.heap[b6]? = some (.cells #[.slice j1 k1 l1, .slice j2 k2 l2] 25) ∧ RdTab wx (.agg #[.slice j1 k1 l1, .slice j2 k2 l2]) tD))
  case first =>
    go_region_with (first | (go_at_call 54; (with_reducible refine (xy_at [1, 2] 1 rfl (by omega) (by unfold inI64; simp) (W := (W6.alloc (.cells #[.int .i64 1, .int .i64 2] 2)).drew) (heap_alloc_at W6 _ _ rfl)).mono ?_); rintro e w7 ⟨c1, d1, e1, c2, d2, e2, rfl, hc⟩; have hq7 := hc.out.fr.heap (heap_alloc_some Q1.out (.cells #[.int .i64 1, .int .i64 2] 2)) (by simp); obtain ⟨g0, g1, gf⟩ := two hq7; have l7 := lt_of_heap hq7; clear hq7; have hcr : RdTab w7 _ tC := hc.out.rd; have hcf : W6.Fr w7 [] := ((World.Fr.refl W6 []).alloc (.cells #[.int .i64 1, .int .i64 2] 2)).drew.trans hc.out.fr (by simp)) | (go_at_call 54; (with_reducible refine (xy_at [1, 2] 1 rfl (by omega) (by unfold inI64; simp) (W := ((W6.alloc (.cells #[.slice none 0 0, .slice none 0 0] 25)).alloc (.cells #[.int .i64 1, .int .i64 2] 2)).drew) (heap_alloc_at (W6.alloc (.cells #[.slice none 0 0, .slice none 0 0] 25)) _ _ (by simp))).mono ?_); rintro e w7 ⟨c1, d1, e1, c2, d2, e2, rfl, hc⟩; have hq7 := hc.out.fr.heap (heap_alloc_some (heap_alloc_some Q1.out (.cells #[.slice none 0 0, .slice none 0 0] 25)) (.cells #[.int .i64 1, .int .i64 2] 2)) (by simp); obtain ⟨g0, g1, gf⟩ := two hq7; have l7 := lt_of_heap hq7; clear hq7; have hcr : RdTab w7 _ tC := hc.out.rd; have hcf : W6.Fr w7 [] := (((World.Fr.refl W6 []).alloc (.cells #[.slice none 0 0, .slice none 0 0] 25)).alloc (.cells #[.int .i64 1, .int .i64 2] 2)).drew.trans hc.out.fr (by simp); have hb6 := hc.out.fr.heap (heap_alloc_some (heap_alloc_at W6 (.cells #[.slice none 0 0, .slice none 0 0] 25) _ rfl) (.cells #[.int .i64 1, .int .i64 2] 2)) (by simp); have hb6g : W6.heap.size ≤ W6.heap.size := Nat.le_refl _; obtain ⟨v0, v1, vf⟩ := two hb6; have hl6 := lt_of_heap hb6; have Hb6 := Lib.hid hb6; clear hb6) | (go_at_call 54; (with_reducible refine (xy_at [1, 2] 1 rfl (by omega) (by unfold inI64; simp) (W := ((W6.alloc (.cells #[.int .i64 1, .int .i64 2] 2)).alloc (.cells #[.slice none 0 0, .slice none 0 0] 25)).drew) (heap_alloc_some (heap_alloc_at W6 (.cells #[.int .i64 1, .int .i64 2] 2) _ rfl) (.cells #[.slice none 0 0, .slice none 0 0] 25))).mono ?_); rintro e w7 ⟨c1, d1, e1, c2, d2, e2, rfl, hc⟩; have hq7 := hc.out.fr.heap (heap_alloc_some (heap_alloc_some Q1.out (.cells #[.int .i64 1, .int .i64 2] 2)) (.cells #[.slice none 0 0, .slice none 0 0] 25)) (by simp); obtain ⟨g0, g1, gf⟩ := two hq7; have l7 := lt_of_heap hq7; clear hq7; have hcr : RdTab w7 _ tC := hc.out.rd; have hcf : W6.Fr w7 [] := (((World.Fr.refl W6 []).alloc (.cells #[.int .i64 1, .int .i64 2] 2)).alloc (.cells #[.slice none 0 0, .slice none 0 0] 25)).drew.trans hc.out.fr (by simp); have hb6 := hc.out.fr.heap (heap_alloc_at (W6.alloc (.cells #[.int .i64 1, .int .i64 2] 2)) (.cells #[.slice none 0 0, .slice none 0 0] 25) (W6.heap.size + 1) (by simp)) (by simp); have hb6g : W6.heap.size ≤ W6.heap.size + 1 := Nat.le_succ _; obtain ⟨v0, v1, vf⟩ := two hb6; have hl6 := lt_of_heap hb6; have Hb6 := Lib.hid hb6; clear hb6) | (go_at_call 26; (with_reducible refine (Hanti.out w7 _ hcf hcr).mono ?_); rintro e w8 ⟨i1, f1, h1, i2, f2, h2, rfl, hd⟩; have hb8 := hd.out.2.heap Hb6.out (by simp); obtain ⟨s0, s1, sf⟩ := two hb8; have hl8 := lt_of_heap hb8; have Hb8 := Lib.hid hb8; have Hg8 := Lib.hid hb6g; clear hb8) | (go_at_call 26; (with_reducible refine (Hanti.out (w7.alloc (.cells #[.slice none 0 0, .slice none 0 0] 25)) _ (hcf.alloc _) (hcr.still ((World.Fr.refl w7 []).alloc _))).mono ?_); rintro e w8 ⟨i1, f1, h1, i2, f2, h2, rfl, hd⟩; have hb8 := hd.out.2.heap (heap_alloc_at w7 (.cells #[.slice none 0 0, .slice none 0 0] 25) _ rfl) (by simp); obtain ⟨s0, s1, sf⟩ := two hb8; have hl8 := lt_of_heap hb8; have Hb8 := Lib.hid hb8; have Hg8 := Lib.hid hcf.size; clear hb8) | (go_at_call 26; (with_reducible refine (Hanti.out w7 _ hcf hcr).mono ?_); rintro e w8 ⟨i1, f1, h1, i2, f2, h2, rfl, hd⟩))
    all_goals
      go_wp2_with fail
      go_meet
      case rel => first | exact ⟨rfl, _, i1, f1, h1, i2, f2, h2, rfl, Lib.hid ⟨(hd.out.1.put Hb8.out Hg8.out).1.fr, (hd.out.1.put Hb8.out Hg8.out).2, (hd.out.1.put Hb8.out Hg8.out).1.rd⟩⟩ | exact ⟨rfl, _, i1, f1, h1, i2, f2, h2, rfl, Lib.hid ⟨hd.out.1.fr.alloc _, heap_alloc_at _ _ _ rfl, hd.out.1.rd.still ((World.Fr.refl w8 []).alloc _)⟩⟩
  case rest =>
    obtain ⟨rfl, b6, i1, f1, h1, i2, f2, h2, rfl, hcc⟩ := hcut
    obtain ⟨k1, k2, k3⟩ := hcc.out
    have hL0 := HL.out.still k1
    have hL : LS w wc [(b1, .slice x1 m1 y1, .slice x2 m2 y2, tA), (b4, .slice j1 3 l1, .slice j2 5 l2, TJ), (b6, .slice i1 f1 h1, .slice i2 f2 h2, tD)] := by
      refine ⟨hL0.fr, fun p hp => ?_⟩
      simp only [List.mem_cons, List.not_mem_nil, or_false] at hp
      rcases hp with rfl | rfl | rfl
      · exact hL0.box _ (by simp)
      · exact hL0.box _ (by simp)
      · exact ⟨k2, k3⟩
    clear hcc k1 k2 k3 hL0 p0 p1 pf hlb hlb2 HL Hanti Q1
    obtain ⟨q1, hT1⟩ := hL.box (b1, .slice x1 m1 y1, .slice x2 m2 y2, tA) (by simp)
    obtain ⟨p0, p1, pf⟩ := two q1
    have hlb := lt_of_heap q1
    have hproj : Calls Tryz.prog 35 #[.agg #[.slice x1 m1 y1, .slice x2 m2 y2], .slice none 0 0] wc fun e w' => ∃ j1 k1 l1 j2 k2 l2, e = .returned (.tuple #[.agg #[.slice j1 k1 l1, .slice j2 k2 l2], .int .i64 0]) ∧ Hid (OwnTab wc w' (.agg #[.slice j1 k1 l1, .slice j2 k2 l2]) tTrue) := by
      have hc := project35 (want := []) ctxI hT1 (v2 := .slice none 0 0) ⟨rdNil _ _, by simp⟩ fitsA (by simp)
      rw [project_none] at hc
      refine hc.mono fun e w' ⟨v, he, ho⟩ => ?_
      obtain ⟨z1, u1, z2, u2, rfl⟩ := ho.shape
      exact ⟨z1, _, u1, z2, _, u2, he, Lib.hid ho⟩
    have HL := Lib.hid hL; have Hproj := Lib.hid hproj
    clear hproj hT1 q1 hL
    go_wp2_with fail
    refine Hproj.out.mono ?_
    rintro e w7 ⟨t1, t2, t3, t4, t5, t6, rfl, ho⟩
    have hL := HL.out.push ho.out
    clear Hproj ho HL p0 p1 pf hlb
    go_upto_region 8 with (fail)
    generalize hW8 : World.alloc w7 _ = W8 at *
    clear hW8
    generalize w7.heap.size = b8 at *
    change LS w W8 [(b1, .slice x1 m1 y1, .slice x2 m2 y2, tA), (b4, .slice j1 3 l1, .slice j2 5 l2, TJ), (b6, .slice i1 f1 h1, .slice i2 f2 h2, tD), (b8, .slice t1 t2 t3, .slice t4 t5 t6, tTrue)] at hL
    have hof : Calls Tryz.prog 32 #[.slice (some ⟨W8.heap.size, 0, none⟩) 2 2, .slice none 0 0] (W8.alloc (.cells #[.string ⟨#[120]⟩, .string ⟨#[120]⟩] 9)) fun e w' => ∃ j1 k1 l1 j2 k2 l2, e = .returned (.tuple #[.agg #[.slice j1 k1 l1, .slice j2 k2 l2], .int .i64 30]) ∧ Hid (W8.Fr w' []) := by
      have f1 := (World.Fr.refl W8 []).alloc (.cells #[.string ⟨#[120]⟩, .string ⟨#[120]⟩] 9)
      have l1 := World.Sl.lit W8 9 #[.string ⟨#[120]⟩, .string ⟨#[120]⟩] 2 1 (by simp [maxLen]) rfl
      have hc := of32 ctxI (l := [nmX, nmX]) (rs := []) (hs := []) (v2 := .slice none 0 0) ⟨l1.rd, nm_wf (by simp)⟩ ⟨rdNil _ _, rfl, by simp⟩ (by simp) (by simp) (by simp [Short]) (by simp)
      rw [of_xx] at hc
      refine hc.mono fun e w' ⟨v, he, ho⟩ => ?_
      obtain ⟨z1, u1, z2, u2, rfl⟩ := ho.shape
      exact ⟨z1, _, u1, z2, _, u2, he, Lib.hid (f1.trans ho.fr (by simp))⟩
    have HL := Lib.hid hL; have Hof := Lib.hid hof
    clear hof hL
    go_wp2_with fail
    (with_reducible refine Hof.out.mono ?_)
    rintro e w9 ⟨a1, a2, a3, a4, a5, a6, rfl, hof⟩
    have hL := HL.out.still (hof.out.alloc (.cells #[.slice a1 a2 a3, .slice a4 a5 a6] 25))
    clear Hof hof HL
    go_upto_region 9 with (fail)
    generalize hW10 : World.alloc w9 _ = WA at *
    clear hW10
    generalize w9.heap.size = b10 at *
    obtain ⟨q1, hT1⟩ := hL.box (b1, .slice x1 m1 y1, .slice x2 m2 y2, tA) (by simp)
    obtain ⟨q4, _⟩ := hL.box (b4, .slice j1 3 l1, .slice j2 5 l2, TJ) (by simp)
    obtain ⟨q6, hT6⟩ := hL.box (b6, .slice i1 f1 h1, .slice i2 f2 h2, tD) (by simp)
    obtain ⟨q8, hT8⟩ := hL.box (b8, .slice t1 t2 t3, .slice t4 t5 t6, tTrue) (by simp)
    obtain ⟨p0, p1, pf⟩ := two q1
    obtain ⟨r0, r1, rf⟩ := two q4
    obtain ⟨s0, s1, sf⟩ := two q6
    obtain ⟨v0, v1, vf⟩ := two q8
    have hmk : ∀ w', WA.Fr w' [] → (w'.cell? ⟨b4, 1, none⟩ = some (.slice j2 5 l2) ∧ w'.cell? ⟨b4, 0, none⟩ = some (.slice j1 3 l1) ∧ w'.cell? ⟨b6, 0, none⟩ = some (.slice i1 f1 h1) ∧ w'.cell? ⟨b6, 1, none⟩ = some (.slice i2 f2 h2) ∧ w'.cell? ⟨b8, 0, none⟩ = some (.slice t1 t2 t3) ∧ w'.cell? ⟨b8, 1, none⟩ = some (.slice t4 t5 t6) ∧ w'.cell? ⟨b1, 0, none⟩ = some (.slice x1 m1 y1) ∧ w'.cell? ⟨b1, 1, none⟩ = some (.slice x2 m2 y2) ∧ WA.Fr w' []) := fun w' hf => ⟨cellFr hf r1 (by simp), cellFr hf r0 (by simp), cellFr hf s0 (by simp), cellFr hf s1 (by simp), cellFr hf v0 (by simp), cellFr hf v1 (by simp), cellFr hf p0 (by simp), cellFr hf p1 (by simp), hf⟩
    have hs1 : ∀ W v, WA.Fr W [] → RdTab W v tD → Calls Tryz.prog 20 #[.agg #[.slice i1 f1 h1, .slice i2 f2 h2], v] W fun e w' => e = .returned (.bool true) ∧ W.Fr w' [] := fun W v hf hv => by
      have hc := same20 (hT6.still hf) hv fitsD.small
      rw [show sameB tD tD = true by simp [sameB, eqB_true]] at hc
      exact hc
    have hs2 : ∀ W v, WA.Fr W [] → RdTab W v tTrue → Calls Tryz.prog 20 #[.agg #[.slice t1 t2 t3, .slice t4 t5 t6], v] W fun e w' => e = .returned (.bool true) ∧ W.Fr w' [] := fun W v hf hv => by
      have hc := same20 (hT8.still hf) hv ⟨by simp [tTrue], by simp [tTrue], by simp [tTrue, Short]⟩
      rw [show sameB tTrue tTrue = true by simp [sameB, eqB_true]] at hc
      exact hc
    have hchk : ∀ W v, RdTab W v tE → Calls Tryz.prog 15 #[v] W fun e w' => e = .returned (.int .i64 1) ∧ W.Fr w' [] := fun W v hv => by
      have hc := check15' knownI hv fitsE.ok fitsE.small
      rw [tE_chk] at hc
      exact hc
    have hhas : ∀ W B, WA.Fr W [] → W.heap[B]? = some (.cells #[.int .i64 (vI 2).k, .int .i64 (vI 2).n, .int .i64 (vI 2).d, .string (vI 2).s, .int .i64 (vI 1).k, .int .i64 (vI 1).n, .int .i64 (vI 1).d, .string (vI 1).s] 60 (0, 0)) → Calls Tryz.prog 21 #[.agg #[.slice x1 m1 y1, .slice x2 m2 y2], .slice (some ⟨B, 0, none⟩) 2 2] W fun e w' => e = .returned (.bool true) ∧ W.Fr w' [] := fun W B hf hb => by
      have hs : W.Sl 60 4 (.slice (some ⟨B, 0, none⟩) 2 2) 2 ((r2 2 1).flatMap V.enc) := ⟨by simp, .inr ⟨B, 0, 2, _, rfl, hb, Nat.le_refl _, by simp [maxLen], by simp, by simp [List.take_of_length_le]⟩⟩
      have hc := has21 (s := r2 2 1) (hT1.still hf) ⟨hs.rd, by
        simp only [List.mem_cons, List.not_mem_nil, or_false]
        rintro v (rfl | rfl) <;> exact vI_wf (by unfold inI64; omega)⟩ fitsA.small
      rw [has_a] at hc
      exact hc
    have hxa : ∀ W : World, Calls Tryz.prog 54 #[.slice (some ⟨W.heap.size, 0, none⟩) 4 4] (W.alloc (.cells #[.int .i64 1, .int .i64 1, .int .i64 2, .int .i64 1] 2)).drew fun e w' => ∃ x1 m1 y1 x2 m2 y2, e = .returned (.agg #[.slice x1 m1 y1, .slice x2 m2 y2]) ∧ Hid (RdTab w' (.agg #[.slice x1 m1 y1, .slice x2 m2 y2]) tD) ∧ W.Fr w' [] := fun W => (xy_at [1, 1, 2, 1] 2 rfl (by omega) (by unfold inI64; simp) (W := (W.alloc (.cells #[.int .i64 1, .int .i64 1, .int .i64 2, .int .i64 1] 2)).drew) (heap_alloc_at W _ _ rfl)).mono fun e w' ⟨x1, m1, y1, x2, m2, y2, he, ho⟩ => ⟨x1, m1, y1, x2, m2, y2, he, Lib.hid ho.out.rd, (((World.Fr.refl W []).alloc _).drew).trans ho.out.fr (by simp)⟩
    have hxb : ∀ W : World, Calls Tryz.prog 54 #[.slice (some ⟨W.heap.size, 0, none⟩) 4 4] (W.alloc (.cells #[.int .i64 2, .int .i64 1, .int .i64 1, .int .i64 1] 2)) fun e w' => ∃ x1 m1 y1 x2 m2 y2, e = .returned (.agg #[.slice x1 m1 y1, .slice x2 m2 y2]) ∧ Hid (RdTab w' (.agg #[.slice x1 m1 y1, .slice x2 m2 y2]) tE) ∧ W.Fr w' [] := fun W => (xy_at [2, 1, 1, 1] 2 rfl (by omega) (by unfold inI64; simp) (heap_alloc_at W _ _ rfl)).mono fun e w' ⟨x1, m1, y1, x2, m2, y2, he, ho⟩ => ⟨x1, m1, y1, x2, m2, y2, he, Lib.hid ho.out.rd, ((World.Fr.refl W []).alloc _).trans ho.out.fr (by simp)⟩
    have hhas2 : ∀ W : World, WA.Fr W [] → Calls Tryz.prog 21 #[.agg #[.slice x1 m1 y1, .slice x2 m2 y2], .slice (some ⟨W.heap.size, 0, none⟩) 2 2] (W.alloc (.cells #[.int .i64 (vI 2).k, .int .i64 (vI 2).n, .int .i64 (vI 2).d, .string (vI 2).s, .int .i64 (vI 1).k, .int .i64 (vI 1).n, .int .i64 (vI 1).d, .string (vI 1).s] 60)) fun e w' => e = .returned (.bool true) ∧ W.Fr w' [] := fun W hf => (hhas (W.alloc _) W.heap.size (hf.alloc _) (heap_alloc_at W _ _ rfl)).mono fun e w' ⟨he, hw⟩ => ⟨he, ((World.Fr.refl W []).alloc _).trans hw (by simp)⟩
    have Hxa := Lib.hid hxa; have Hxb := Lib.hid hxb; have Hhas2 := Lib.hid hhas2; clear hxa hxb hhas2
    have hFx : WA.Fr WA.drew [] := (World.Fr.refl WA []).drew
    have Hmk := Lib.hid hmk; have Hs1 := Lib.hid hs1; have Hs2 := Lib.hid hs2; have Hchk := Lib.hid hchk; have Hhas := Lib.hid hhas; have Hfw := Lib.hid hL.fr
    clear hmk hs1 hs2 hchk hhas hT1 hT6 hT8 q1 q4 q6 q8 hL p0 p1 pf r0 r1 rf s0 s1 sf v0 v1 vf
    go_region_held3 (fun w' => w'.cell? ⟨b4, 1, none⟩ = some (.slice j2 5 l2) ∧ w'.cell? ⟨b4, 0, none⟩ = some (.slice j1 3 l1) ∧ w'.cell? ⟨b6, 0, none⟩ = some (.slice i1 f1 h1) ∧ w'.cell? ⟨b6, 1, none⟩ = some (.slice i2 f2 h2) ∧ w'.cell? ⟨b8, 0, none⟩ = some (.slice t1 t2 t3) ∧ w'.cell? ⟨b8, 1, none⟩ = some (.slice t4 t5 t6) ∧ w'.cell? ⟨b1, 0, none⟩ = some (.slice x1 m1 y1) ∧ w'.cell? ⟨b1, 1, none⟩ = some (.slice x2 m2 y2) ∧ WA.Fr w' [])
      (first | exact Hmk.out _ hFx | exact Hmk.out _ (World.Fr.refl WA []) | exact Hmk.out _ (World.Fr.alloc hFx _) | exact Hmk.out _ (World.Fr.drew (World.Fr.alloc (undrew hFx) _)))
      (first | (go_at_call 54; (with_reducible refine (Hxa.out _).mono ?_); rintro e w2 ⟨c1, d1, e1, c2, d2, e2, rfl, hXr, hc⟩; have hFx := World.Fr.trans (L := []) (undrew hFx) hc (fun _ h => nomatch h)) | (go_at_call 54; (with_reducible refine (Hxb.out _).mono ?_); rintro e w2 ⟨c1, d1, e1, c2, d2, e2, rfl, hYr, hc⟩; have hFx := World.Fr.trans (L := []) hFx hc (fun _ h => nomatch h)) | (go_at_call 41; (with_reducible refine (true41 _).mono ?_); rintro e w2 ⟨v, rfl, hc0⟩; obtain ⟨c1, e1, c2, e2, rfl⟩ := hc0.shape; have hc := hc0.fr; have hFx := World.Fr.trans (L := []) hFx hc (fun _ h => nomatch h); have hZr := Lib.hid hc0.rd) | (go_at_call 20; (with_reducible refine (Hs1.out _ _ hFx hXr.out).mono ?_); rintro e w2 ⟨rfl, hc⟩; have hFx := World.Fr.trans (L := []) hFx hc (fun _ h => nomatch h)) | (go_at_call 20; (with_reducible refine (Hs2.out _ _ hFx hZr.out).mono ?_); rintro e w2 ⟨rfl, hc⟩; have hFx := World.Fr.trans (L := []) hFx hc (fun _ h => nomatch h)) | (go_at_call 15; (with_reducible refine (Hchk.out _ _ hYr.out).mono ?_); rintro e w2 ⟨rfl, hc⟩; have hFx := World.Fr.trans (L := []) hFx hc (fun _ h => nomatch h)) | (go_at_call 55; (with_reducible refine (one55 _ _).mono ?_); rintro e w2 ⟨rfl, hc⟩; have hFx := World.Fr.trans (L := []) hFx hc (fun _ h => nomatch h)) | (go_at_call 21; (with_reducible refine (Hhas2.out _ hFx).mono ?_); rintro e w2 ⟨rfl, hc⟩; have hFx := World.Fr.trans (L := []) hFx hc (fun _ h => nomatch h)))
    go_wp2
    go_ret
    exact ⟨rfl, Hfw.out.trans hFx (by simp)⟩
end Go.Proofs.YtikodapgceokhaaGreat
