/-
  The walks of value.Compare (of what is no fraction), value.CompareRow.
-/
import Derived.Test.YtikodapgceokhaaGreatRise
import Derived.Test.YtikodapgceokhaaGreatShelf
namespace Go.Proofs.YtikodapgceokhaaGreat
open Go.RowKit

/-- Go's cmp.Compare of numbers of 64 bits -/
theorem cmp111 (x y : Int) (w : World) : Calls Tryz.prog 111 #[.int .i64 x, .int .i64 y] w fun e w' => e = .returned (.int .i64 (Lib.compareInt x y)) ∧ w = w' := by
  rcases Int.lt_trichotomy x y with h | h | h
  · have hv : Lib.compareInt x y = -1 := by simp [Lib.compareInt, h]
    have Hv := Lib.hid hv; clear hv
    go_enter Tryz.func111, Tryz.ntmps111
    go_wp2
    go_ret
    rw [Hv.out]; exact ⟨rfl, rfl⟩
  · subst h
    have hv : Lib.compareInt x x = 0 := by simp [Lib.compareInt]
    have Hv := Lib.hid hv; clear hv
    go_enter Tryz.func111, Tryz.ntmps111
    go_wp2
    go_ret
    rw [Hv.out]; exact ⟨rfl, rfl⟩
  · have h2 : ¬ x < y := by omega
    have hv : Lib.compareInt x y = 1 := by simp [Lib.compareInt, h, h2]
    have Hv := Lib.hid hv; clear hv
    go_enter Tryz.func111, Tryz.ntmps111
    go_wp2
    go_ret
    rw [Hv.out]; exact ⟨rfl, rfl⟩

open Classical in
/-- the order of values; of fractions: rc -/
noncomputable def vcmpBy (rc : V → V → Int) (a b : V) : Int :=
  if vcheck a ≠ 0 ∨ vcheck b ≠ 0 then 0 else if a.k ≠ b.k then Lib.compareInt a.k b.k else if a.k = 1 then Lib.compareInt a.n b.n else if a.k = 2 then rc a b else Lib.compareBytes a.s.data.toList b.s.data.toList

theorem four {w : World} {p : Nat} {t : TypeId} {a b c d : Value} (hh : w.heap[p]? = some (.cells #[a, b, c, d] t (0, 0))) :
    w.cell? ⟨p, 0, none⟩ = some a ∧ w.cell? ⟨p, 1, none⟩ = some b ∧ w.cell? ⟨p, 2, none⟩ = some c ∧ w.cell? ⟨p, 3, none⟩ = some d ∧ ∀ j, w.frozen? ⟨p, j, none⟩ = false := by
  refine ⟨?_, ?_, ?_, ?_, fun j => frozen_of_row w p j _ _ hh⟩ <;> simp [World.cell?, hh]

set_option maxHeartbeats 2000000 in
theorem compare89 (rc : V → V → Int) (a b : V) (ha : a.k ≠ 2) (hb : b.k ≠ 2) (w : World) : Calls Tryz.prog 89 #[vv a, vv b] w fun e w' => e = .returned (.int .i64 (vcmpBy rc a b)) ∧ w.Gr w' := by
  have hca := check88 a ha
  have hcb := check88 b hb
  obtain ⟨ak, an, ad, sa⟩ := a
  obtain ⟨bk, bn, bd, sb⟩ := b
  simp only at ha hb
  have h2a : (ak == 2) = false := beq_eq_false_iff_ne.2 ha
  have hres : vcmpBy rc ⟨ak, an, ad, sa⟩ ⟨bk, bn, bd, sb⟩ = if vcheck ⟨ak, an, ad, sa⟩ ≠ 0 ∨ vcheck ⟨bk, bn, bd, sb⟩ ≠ 0 then 0 else if ak ≠ bk then Lib.compareInt ak bk else if ak = 1 then Lib.compareInt an bn else Lib.compareBytes sa.data.toList sb.data.toList := by
    simp [vcmpBy, ha]
  rw [hres]
  generalize vcheck ⟨ak, an, ad, sa⟩ = ca at *
  generalize vcheck ⟨bk, bn, bd, sb⟩ = cb at *
  clear hres
  generalize hR : (if ca ≠ 0 ∨ cb ≠ 0 then (0 : Int) else if ak ≠ bk then Lib.compareInt ak bk else if ak = 1 then Lib.compareInt an bn else Lib.compareBytes sa.data.toList sb.data.toList) = R
  have Hca := Lib.hid hca; have Hcb := Lib.hid hcb; have HR := Lib.hid hR; clear hca hcb ha hb hR
  have hp1 : (w.alloc (.cells #[.int .i64 ak, .int .i64 an, .int .i64 ad, .string sa] 60)).heap[w.heap.size]? = some (.cells #[.int .i64 ak, .int .i64 an, .int .i64 ad, .string sa] 60) := heap_alloc_at _ _ _ rfl
  have q1 : ((w.alloc (.cells #[.int .i64 ak, .int .i64 an, .int .i64 ad, .string sa] 60)).alloc (.cells #[.int .i64 bk, .int .i64 bn, .int .i64 bd, .string sb] 60)).heap[w.heap.size]? = some (.cells #[.int .i64 ak, .int .i64 an, .int .i64 ad, .string sa] 60 (0, 0)) := heap_alloc_some hp1 _
  have q2 : ((w.alloc (.cells #[.int .i64 ak, .int .i64 an, .int .i64 ad, .string sa] 60)).alloc (.cells #[.int .i64 bk, .int .i64 bn, .int .i64 bd, .string sb] 60)).heap[w.heap.size + 1]? = some (.cells #[.int .i64 bk, .int .i64 bn, .int .i64 bd, .string sb] 60 (0, 0)) := heap_alloc_at _ _ _ (by simp)
  have q3 : w.Gr ((w.alloc (.cells #[.int .i64 ak, .int .i64 an, .int .i64 ad, .string sa] 60)).alloc (.cells #[.int .i64 bk, .int .i64 bn, .int .i64 bd, .string sb] 60)) := ((World.Gr.refl w).alloc _).alloc _
  clear hp1
  go_enter Tryz.func89, Tryz.ntmps89
  go_upto_region 1 with (fail)
  generalize hW : World.alloc (World.alloc w _) _ = W at *
  clear hW
  obtain ⟨a0, a1, a2, a3, af⟩ := four q1
  obtain ⟨b0, b1, b2, b3, bf⟩ := four q2
  have Q1 := Lib.hid q1; have Q2 := Lib.hid q2; have Q3 := Lib.hid q3; clear q1 q2 q3
  by_cases hA : ca = 0
  · subst hA
    go_wp2_with fail
    refine (Hca.out _).mono ?_
    rintro e w1 ⟨rfl, hf1⟩
    clear a0 a1 a2 a3 af b0 b1 b2 b3 bf
    have q1 := hf1.fr.heap Q1.out (by simp)
    have q2 := hf1.fr.heap Q2.out (by simp)
    have q3 := Q3.out.trans hf1
    clear Q1 Q2 Q3 hf1
    obtain ⟨a0, a1, a2, a3, af⟩ := four q1
    obtain ⟨b0, b1, b2, b3, bf⟩ := four q2
    have Q1 := Lib.hid q1; have Q2 := Lib.hid q2; have Q3 := Lib.hid q3; clear q1 q2 q3
    go_wp2_with fail
    refine (Hcb.out _).mono ?_
    rintro e w2 ⟨rfl, hf2⟩
    clear a0 a1 a2 a3 af b0 b1 b2 b3 bf
    have q1 := hf2.fr.heap Q1.out (by simp)
    have q2 := hf2.fr.heap Q2.out (by simp)
    have q3 := Q3.out.trans hf2
    clear Q1 Q2 Q3 hf2
    obtain ⟨a0, a1, a2, a3, af⟩ := four q1
    obtain ⟨b0, b1, b2, b3, bf⟩ := four q2
    have Q1 := Lib.hid q1; have Q2 := Lib.hid q2; have Q3 := Lib.hid q3; clear q1 q2 q3
    by_cases hB : cb = 0
    · subst hB
      by_cases hk : ak = bk
      · subst hk
        have hkb : (ak == ak) = true := by simp
        have hkc : (ak != ak) = false := by simp
        by_cases h1 : ak = 1
        · subst h1
          go_wp2_with fail
          refine (cmp111 _ _ _).mono ?_
          rintro e w3 ⟨rfl, rfl⟩
          go_wp2
          go_ret
          exact ⟨by rw [← HR.out]; simp, Q3.out⟩
        · have h1b : (ak == 1) = false := beq_eq_false_iff_ne.2 h1
          have H1 := Lib.hid h1; clear h1
          go_wp2_with fail
          refine (Tryz.strings_Compare _ _ _).mono ?_
          rintro e w3 ⟨rfl, rfl⟩
          go_wp2
          go_ret
          exact ⟨by rw [← HR.out]; simp [H1.out], Q3.out⟩
      · have hkb : (ak == bk) = false := beq_eq_false_iff_ne.2 hk
        have hkc : (ak != bk) = true := by simp [hk]
        have Hk := Lib.hid hk; clear hk
        go_wp2_with fail
        refine (Tryz.cmp_Compare_int _ _ _).mono ?_
        rintro e w3 ⟨rfl, rfl⟩
        go_wp2
        go_ret
        exact ⟨by rw [← HR.out]; simp [Hk.out], Q3.out⟩
    · have hBb : (cb == 0) = false := beq_eq_false_iff_ne.2 hB
      have HB := Lib.hid hB; clear hB
      go_wp2
      go_ret
      exact ⟨by rw [← HR.out]; simp [HB.out], Q3.out⟩
  · have hAb : (ca == 0) = false := beq_eq_false_iff_ne.2 hA
    have HA := Lib.hid hA; clear hA
    go_wp2_with fail
    refine (Hca.out _).mono ?_
    rintro e w1 ⟨rfl, hf1⟩
    have q3 := Q3.out.trans hf1
    have Q3' := Lib.hid q3; clear q3 hf1 a0 a1 a2 a3 af b0 b1 b2 b3 bf
    go_wp2
    go_ret
    exact ⟨by rw [← HR.out]; simp [HA.out], Q3'.out⟩
end Go.Proofs.YtikodapgceokhaaGreat
