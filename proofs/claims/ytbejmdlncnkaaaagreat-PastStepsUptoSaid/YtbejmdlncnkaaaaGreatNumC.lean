/-
  The document's fractions: Of, MayBe. The document's values: fraction, sizes, Check.
-/
import Derived.Test.YtbejmdlncnkaaaaGreatNumB
import Derived.Test.YtbejmdlncnkaaaaGreatFraB
set_option maxRecDepth 100000
set_option maxHeartbeats 16000000
set_option linter.unusedSimpArgs false
namespace Go.Proofs.YtbejmdlncnkaaaaGreat
section
open Go.RowKit
theorem madeR_ratOf {n d : Int} (hz : d ≠ 0) (M : Bool) (hM : M = true ↔ n ≠ 0 /\ (decide (n < 0) != decide (d < 0)) = true) : madeR M n.natAbs d.natAbs = ratOf n d := by
 unfold madeR ratOf
 rw [if_neg hz]
 simp only
 have h1 : n.natAbs / Nat.gcd n.natAbs d.natAbs <= n.natAbs := Nat.div_le_self _ _
 generalize n.natAbs / Nat.gcd n.natAbs d.natAbs = a at *
 generalize d.natAbs / Nat.gcd n.natAbs d.natAbs = b at *
 cases M with
 | true =>
  have h := hM.1 rfl
  rw [if_pos h, if_pos rfl]
  by_cases hb : 9223372036854775807 < b ∨ 9223372036854775808 < a
  ·rw [if_pos hb, if_pos (by omega)]
  ·rw [if_neg hb, if_neg (fun h => hb (by
    rcases h with h | h | h
    ·omega
    ·omega
    ·exact Bool.noConfusion h.2))]
 | false =>
  have h : ¬ (n ≠ 0 /\ (decide (n < 0) != decide (d < 0)) = true) := fun h => Bool.noConfusion (hM.2 h)
  rw [if_neg h, if_neg (show ¬ (false = true) by decide)]
  by_cases hb : 9223372036854775807 < b ∨ 9223372036854775808 <= a
  ·rw [if_pos hb, if_pos (by
    rcases hb with h | h
    ·exact .inl (by omega)
    ·by_cases e : a = 9223372036854775808
     ·exact .inr (.inr ⟨e, rfl⟩)
     ·exact .inr (.inl (by omega)))]
  ·rw [if_neg hb, if_neg (fun h => hb (by
    rcases h with h | h | h
    ·omega
    ·omega
    ·omega))]
theorem rof131 {n d : Int} (hn : inI64 n) (hd : inI64 d) (w : World) : Calls Tryz.prog 244 #[.int .i64 n, .int .i64 d] w fun e w' => e = .returned (.tuple #[.agg #[.int .i64 (ratOf n d).1, .int .i64 (ratOf n d).2.1], .int .i64 (ratOf n d).2.2]) /\ w.Gr w' := by
 have qc := heap_alloc_at w (.cells #[.int .i64 0, .int .i64 0] 227) _ rfl
 have q3 := (World.Gr.refl w).alloc (.cells #[.int .i64 0, .int .i64 0] 227)
 by_cases hz : d = 0
 ·subst hz
  have hr : ratOf n 0 = (0, 0, 11) := by rw [ratOf, if_pos rfl]
  rw [hr]
  go_enter Tryz.func244, Tryz.ntmps244
  go_upto_region 1 with (fail)
  generalize hW : World.alloc w _ = W at *
  clear hW
  obtain ⟨c0, c1, cf⟩ := two' qc
  go_wp2
  refine bodyPost_ret (results_cell_tmp_row (P := Tryz.prog) rfl _ _ w.heap.size 227 _ (0, 0) _ _ rfl rfl (two_set qc _ _) Tryz.underlying227 rfl (by kernel_rfl)) rfl ?_
  exact ⟨rfl, (World.Gr.set q3 (Nat.le_refl _) _).set (Nat.le_refl _) _⟩
 ·obtain ⟨M, hM⟩ : ∃ M : Bool, M = true ↔ n ≠ 0 /\ (decide (n < 0) != decide (d < 0)) = true := ⟨decide (n ≠ 0 /\ (decide (n < 0) != decide (d < 0)) = true), by simp⟩
  have hmd := madeR_ratOf hz M hM
  have m1 := fun w => rsize133 hn w
  have m2 := fun w => rsize133 hd w
  have m3 := fun w => rof166 (n := n.natAbs) (by have := hn.1; have := hn.2; omega) w
  have m4 := fun w => rof166 (n := d.natAbs) (by have := hd.1; have := hd.2; omega) w
  have m5 := fun w => rmade167 (below := M) (n := n.natAbs) (d := d.natAbs) (by have := hn.1; have := hn.2; omega) (by omega) (by have := hd.1; have := hd.2; omega) (fun h => by have := (hM.1 h).1; omega) w
  rw [hmd] at m5
  generalize ratOf n d = R at *
  obtain ⟨r1, r2, r3⟩ := R
  simp only at m5
  have hzb : (d == 0) = false := by simp [hz]
  have hmm : (n != 0) = false /\ M = false ∨ (n != 0) = true /\ (!(decide (n < 0) == decide (d < 0))) = M := by
   by_cases h : n = 0
   ·refine .inl ⟨by simp [h], ?_⟩
    cases M with
    | false => rfl
    | true => exact absurd h (hM.1 rfl).1
   ·refine .inr ⟨by simp [h], ?_⟩
    show (decide (n < 0) != decide (d < 0)) = M
    cases M with
    | true => exact (hM.1 rfl).2
    | false =>
     cases hx : (decide (n < 0) != decide (d < 0)) with
     | false => rfl
     | true => exact absurd (hM.2 ⟨h, hx⟩) (by decide)
  have M1 := Hz m1; have M2 := Hz m2; have M3 := Hz m3; have M4 := Hz m4; have M5 := Hz m5; have HM := Hz hmm
  clear m1 m2 m3 m4 m5 hmm hM hmd hz
  generalize n.natAbs = na at *
  generalize d.natAbs = da at *
  go_enter Tryz.func244, Tryz.ntmps244
  go_upto_region 1 with (fail)
  generalize hW : World.alloc w _ = W at *
  clear hW
  have Qc := Hz qc; have Q3 := Hz q3; clear qc q3
  go_wp2_with fail
  refine (M1.out _).mono ?_
  rintro e w1 ⟨rfl, rfl⟩
  go_wp2_with fail
  refine (M3.out _).mono ?_
  rintro e w2 ⟨rfl, g⟩
  have qc := g.fr.heap Qc.out (by simp); have q3 := Q3.out.trans g
  clear Qc Q3 g
  have s1 : w.heap.size < w2.heap.size := (Array.getElem?_eq_some_iff.1 qc).1
  have qa := heap_alloc_at w2 (.cells (bigC na) 279) _ rfl
  have qc := heap_alloc_some qc (.cells (bigC na) 279)
  have q3 := q3.alloc (.cells (bigC na) 279)
  go_upto_region 4 with (fail)
  generalize hW : World.alloc w2 _ = w3 at *
  clear hW
  generalize w2.heap.size = pa at *
  have Qa := Hz qa; have Qc := Hz qc; have Q3 := Hz q3; clear qa qc q3
  go_wp2_with fail
  refine (M2.out _).mono ?_
  rintro e w4 ⟨rfl, rfl⟩
  go_wp2_with fail
  refine (M4.out _).mono ?_
  rintro e w5 ⟨rfl, g⟩
  have qa := g.fr.heap Qa.out (by simp); have qc := g.fr.heap Qc.out (by simp); have q3 := Q3.out.trans g
  clear Qa Qc Q3 g
  have s2 : w.heap.size < w5.heap.size := (Array.getElem?_eq_some_iff.1 qc).1
  have qb := heap_alloc_at w5 (.cells (bigC da) 279) _ rfl
  have qa := heap_alloc_some qa (.cells (bigC da) 279)
  have qc := heap_alloc_some qc (.cells (bigC da) 279)
  have q3 := q3.alloc (.cells (bigC da) 279)
  go_upto_region 5 with (fail)
  generalize hW : World.alloc w5 _ = w6 at *
  clear hW
  generalize w5.heap.size = pb at *
  obtain ⟨a0, a1, a2, a3, af⟩ := four' qa
  obtain ⟨b0, b1, b2, b3, bf⟩ := four' qb
  have Qc := Hz qc; have Q3 := Hz q3; clear qa qb qc q3
  rcases HM.out with ⟨h1, rfl⟩ | ⟨h1, h2⟩
  ·go_wp2_with fail
   with_reducible refine (M5.out _).mono ?_
   rintro e w7 ⟨rfl, g⟩
   have qc := g.fr.heap Qc.out (by simp)
   have Q7 := Hz (Q3.out.trans g)
   clear Qc Q3 g a0 a1 a2 a3 af b0 b1 b2 b3 bf
   obtain ⟨c0, c1, cf⟩ := two' qc
   go_wp2
   refine bodyPost_ret (results_cell_tmp_row (P := Tryz.prog) rfl _ _ w.heap.size 227 _ (0, 0) _ _ rfl rfl (two_set qc _ _) Tryz.underlying227 rfl (by kernel_rfl)) rfl ?_
   exact ⟨rfl, (World.Gr.set Q7.out (Nat.le_refl _) _).set (Nat.le_refl _) _⟩
  ·subst h2
   go_wp2_with fail
   with_reducible refine (M5.out _).mono ?_
   rintro e w7 ⟨rfl, g⟩
   have qc := g.fr.heap Qc.out (by simp)
   have Q7 := Hz (Q3.out.trans g)
   clear Qc Q3 g a0 a1 a2 a3 af b0 b1 b2 b3 bf
   obtain ⟨c0, c1, cf⟩ := two' qc
   go_wp2
   refine bodyPost_ret (results_cell_tmp_row (P := Tryz.prog) rfl _ _ w.heap.size 227 _ (0, 0) _ _ rfl rfl (two_set qc _ _) Tryz.underlying227 rfl (by kernel_rfl)) rfl ?_
   exact ⟨rfl, (World.Gr.set Q7.out (Nat.le_refl _) _).set (Nat.le_refl _) _⟩
theorem rmay115 {n d : Int} (hn : inI64 n) (hd : inI64 d) (w : World) : Calls Tryz.prog 202 #[.agg #[.int .i64 n, .int .i64 d]] w fun e w' => e = .returned (.bool (mayB n d)) /\ w.Gr w' := by
 have qa := heap_alloc_at w (.cells #[.int .i64 n, .int .i64 d] 227) _ rfl
 have q3 := (World.Gr.refl w).alloc (.cells #[.int .i64 n, .int .i64 d] 227)
 have m1 := fun w => rof131 hn hd w
 have heq := ratOf_eq hn hd
 have hB : mayB n d = true ↔ 0 < d /\ Nat.gcd n.natAbs d.natAbs = 1 := by unfold mayB; rw [Bool.and_eq_true, decide_eq_true_eq, decide_eq_true_eq]
 rw [<- hB] at heq
 have hB0 : d <= 0 -> mayB n d = false := fun h => by unfold mayB; rw [decide_eq_false (by omega)]; rfl
 generalize mayB n d = B at *
 generalize ratOf n d = R at *
 obtain ⟨r1, r2, r3⟩ := R
 simp only at m1
 have M1 := Hz m1; have HE := Hz heq; have HB0 := Hz hB0
 clear m1 heq hB hB0
 go_enter Tryz.func202, Tryz.ntmps202
 go_upto_region 1 with (fail)
 generalize hW : World.alloc w _ = W at *
 clear hW
 obtain ⟨a0, a1, af⟩ := two' qa
 by_cases hp : d <= 0
 ·have hb : decide (d <= 0) = true := decide_eq_true hp
  have hr := HB0.out hp
  subst hr
  clear hp
  go_wp2
  go_ret
  exact ⟨rfl, q3⟩
 ·have hb : decide (d <= 0) = false := decide_eq_false hp
  clear hp
  go_wp2_with fail
  refine (M1.out _).mono ?_
  rintro e w1 ⟨rfl, g⟩
  have qa1 := g.fr.heap qa (by simp); have q31 := World.Gr.trans q3 g
  clear qa q3 g a0 a1 af
  have s2 : w.heap.size < w1.heap.size := (Array.getElem?_eq_some_iff.1 qa1).1
  have qb := heap_alloc_at w1 (.cells #[.int .i64 r1, .int .i64 r2] 227) _ rfl
  have qa := heap_alloc_some qa1 (.cells #[.int .i64 r1, .int .i64 r2] 227)
  have q3 := q31.alloc (.cells #[.int .i64 r1, .int .i64 r2] 227)
  clear qa1 q31
  go_upto_region 4 with (fail)
  generalize hW : World.alloc w1 _ = w2 at *
  clear hW
  generalize w1.heap.size = p at *
  obtain ⟨a0, a1, af⟩ := two' qa
  obtain ⟨b0, b1, bf⟩ := two' qb
  have hcase : (r3 == 0) = false /\ B = false ∨ (r3 == 0) = true /\ (r1 == n) = false /\ B = false ∨ (r3 == 0) = true /\ (r1 == n) = true /\ (r2 == d) = false /\ B = false ∨ (r3 == 0) = true /\ (r1 == n) = true /\ (r2 == d) = true /\ B = true := by
   have h := HE.out
   by_cases h3 : r3 = 0
   ·by_cases h1 : r1 = n
    ·by_cases h2 : r2 = d
     ·exact .inr (.inr (.inr ⟨by simp [h3], by simp [h1], by simp [h2], h.1 (by rw [h1, h2, h3])⟩))
     ·exact .inr (.inr (.inl ⟨by simp [h3], by simp [h1], by simp [h2], by
       cases B with
       | false => rfl
       | true => have := h.2 rfl; injection this with _ this; injection this with this _; exact absurd this h2⟩))
    ·exact .inr (.inl ⟨by simp [h3], by simp [h1], by
      cases B with
      | false => rfl
      | true => have := h.2 rfl; injection this with this _; exact absurd this h1⟩)
   ·exact .inl ⟨by simp [h3], by
     cases B with
     | false => rfl
     | true => have := h.2 rfl; injection this with _ this; injection this with _ this; exact absurd this h3⟩
  rcases hcase with ⟨k3, rfl⟩ | ⟨k3, k1, rfl⟩ | ⟨k3, k1, k2, rfl⟩ | ⟨k3, k1, k2, rfl⟩
  all_goals
   go_wp2
   go_ret
   exact ⟨rfl, q3⟩
end
section
open Go.RowKit
theorem rfraction116 (v : V) (w : World) : Calls Tryz.prog 203 #[vv v] w fun e w' => e = .returned (.agg #[.int .i64 v.n, .int .i64 v.d]) /\ w.Gr w' := by
 go_enter Tryz.func203, Tryz.ntmps203
 go_wp2
 refine bodyPost_ret (results_cell_row (P := Tryz.prog) rfl _ _ (w.heap.size + 1) 227 _ (0, 0) _ rfl (heap_alloc_at _ _ _ (by simp)) Tryz.underlying227 rfl (by kernel_rfl)) rfl ?_
 exact ⟨rfl, ((World.Gr.refl w).alloc _).alloc _⟩
theorem rsizes93 (x y : Int) (w : World) : Calls Tryz.prog 205 #[.int .i64 x, .int .i64 y] w fun e w' => e = .returned (.int .i64 (Lib.compareInt x y)) /\ w' = w := by
 rcases Int.lt_trichotomy x y with h | h | h
 ·have hv : Lib.compareInt x y = -1 := by simp [Lib.compareInt, h]
  have Hv := Hz hv; clear hv
  go_enter Tryz.func205, Tryz.ntmps205
  go_wp2
  go_ret
  rw [Hv.out]; exact ⟨rfl, rfl⟩
 ·subst h
  have hv : Lib.compareInt x x = 0 := by simp [Lib.compareInt]
  have Hv := Hz hv; clear hv
  go_enter Tryz.func205, Tryz.ntmps205
  go_wp2
  go_ret
  rw [Hv.out]; exact ⟨rfl, rfl⟩
 ·have h2 : ¬ x < y := by omega
  have hv : Lib.compareInt x y = 1 := by simp [Lib.compareInt, h, h2]
  have Hv := Hz hv; clear hv
  go_enter Tryz.func205, Tryz.ntmps205
  go_wp2
  go_ret
  rw [Hv.out]; exact ⟨rfl, rfl⟩
theorem rcheck91 (v : V) (hw : v.wf) (w : World) : Calls Tryz.prog 172 #[vv v] w fun e w' => e = .returned (.int .i64 (vcheck v)) /\ w.Gr w' := by
 have hfr := fun w => rfraction116 v w
 have hmy := fun w => rmay115 hw.n hw.d w
 obtain ⟨k, n, d, s⟩ := v
 simp only at hfr hmy
 by_cases h1 : k = 1
 ·subst h1
  clear hfr hmy hw
  go_enter Tryz.func172, Tryz.ntmps172
  go_wp2
  all_goals
   go_ret
   refine ⟨congrArg (fun x => Ending.returned (Value.int .i64 x)) ?_, (World.Gr.refl w).alloc _⟩
   simp_all [vcheck, isEmpty_size]
   done
 ·have h1b : (k == 1) = false := beq_eq_false_iff_ne.2 h1
  by_cases h2 : k = 2
  ·subst h2
   clear h1 h1b
   have hv : vcheck ⟨2, n, d, s⟩ = if s.size = 0 /\ mayB n d = true then 0 else 20 := by
    unfold vcheck
    rw [if_neg (show ¬ ((2 : Int) = 1) by decide), if_pos rfl]
    by_cases h : s.size = 0 /\ ratOk n d
    ·rw [if_pos h, if_pos ⟨h.1, (by unfold mayB; rw [Bool.and_eq_true, decide_eq_true_eq, decide_eq_true_eq]; exact h.2)⟩]
    ·rw [if_neg h, if_neg (fun q => h ⟨q.1, (by have := q.2; unfold mayB at this; rw [Bool.and_eq_true, decide_eq_true_eq, decide_eq_true_eq] at this; exact this)⟩)]
   generalize vcheck ⟨2, n, d, s⟩ = R at *
   generalize mayB n d = B at *
   simp only [vv] at hfr
   have qa := heap_alloc_at w (.cells #[.int .i64 2, .int .i64 n, .int .i64 d, .string s] 83) _ rfl
   have q3 := (World.Gr.refl w).alloc (.cells #[.int .i64 2, .int .i64 n, .int .i64 d, .string s] 83)
   have HV := Hz hv; have HM := Hz hmy; have HF := Hz hfr; clear hv hmy hfr hw
   go_enter Tryz.func172, Tryz.ntmps172
   go_upto_region 1 with (fail)
   generalize hW : World.alloc w _ = W at *
   clear hW
   have Qa := Hz qa; have Q3 := Hz q3; clear qa q3
   obtain ⟨x0, x1, x2, x3, xf⟩ := four' Qa.out
   go_wp2_with fail
   with_reducible refine (HF.out _).mono ?_
   rintro e w1 ⟨rfl, g1⟩
   have qa := g1.fr.heap Qa.out (by simp); have q3 := Q3.out.trans g1
   clear x0 x1 x2 x3 xf Qa Q3 g1
   have Qa := Hz qa; have Q3 := Hz q3; clear qa q3
   go_wp2_with fail
   with_reducible refine (HM.out _).mono ?_
   rintro e w2 ⟨rfl, g1⟩
   have qa := g1.fr.heap Qa.out (by simp); have q3 := Q3.out.trans g1
   clear Qa Q3 g1
   obtain ⟨x0, x1, x2, x3, xf⟩ := four' qa
   have Q3 := Hz q3; clear qa q3
   by_cases hs : s.size = 0
   ·have hsb : s.toList.isEmpty = true := by rw [isEmpty_size]; exact decide_eq_true hs
    cases B with
    | true =>
     have hR : R = 0 := by rw [HV.out, if_pos ⟨hs, rfl⟩]
     subst hR
     clear hs HV
     go_wp2
     go_ret
     exact ⟨rfl, Q3.out⟩
    | false =>
     have hR : R = 20 := by rw [HV.out, if_neg (fun h => Bool.noConfusion h.2)]
     subst hR
     clear hs HV
     go_wp2
     go_ret
     exact ⟨rfl, Q3.out⟩
   ·have hsb : s.toList.isEmpty = false := by rw [isEmpty_size]; exact decide_eq_false hs
    have hR : R = 20 := by rw [HV.out, if_neg (fun h => hs h.1)]
    subst hR
    clear hs HV
    go_wp2
    go_ret
    exact ⟨rfl, Q3.out⟩
  ·have h2b : (k == 2) = false := beq_eq_false_iff_ne.2 h2
   by_cases h3 : k = 3
   ·subst h3
    clear h1 h1b h2 h2b hfr hmy hw
    go_enter Tryz.func172, Tryz.ntmps172
    go_wp2
    all_goals
     go_ret
     refine ⟨congrArg (fun x => Ending.returned (Value.int .i64 x)) ?_, (World.Gr.refl w).alloc _⟩
     simp_all [vcheck]
     try omega
     done
   ·have h3b : (k == 3) = false := beq_eq_false_iff_ne.2 h3
    have hv : vcheck ⟨k, n, d, s⟩ = 20 := by simp [vcheck, h1, h2, h3]
    have Hv := Hz hv; clear hv h1 h2 h3 hfr hmy hw
    go_enter Tryz.func172, Tryz.ntmps172
    go_wp2
    go_ret
    rw [Hv.out]
    exact ⟨rfl, (World.Gr.refl w).alloc _⟩
theorem cb_pre : ∀ (j : Nat) (l m : List UInt8), (∀ k, k < j -> l[k]? = m[k]?) -> j <= l.length -> j <= m.length -> Lib.compareBytes l m = Lib.compareBytes (l.drop j) (m.drop j)
 | 0, _, _, _, _, _ => rfl
 | j + 1, [], _, _, h, _ => by simp at h
 | j + 1, _ :: _, [], _, _, h => by simp at h
 | j + 1, a :: l, b :: m, h, h1, h2 => by
  have h0 := h 0 (Nat.zero_lt_succ _)
  simp at h0
  subst h0
  rw [List.drop_succ_cons, List.drop_succ_cons, <- cb_pre j l m (fun k hk => by simpa using h (k + 1) (by omega)) (by simpa using h1) (by simpa using h2)]
  simp [Lib.compareBytes, UInt8.lt_irrefl]
theorem cb_end {l m : List UInt8} (h : l = [] ∨ m = []) : Lib.compareBytes l m = Lib.compareInt l.length m.length := by
 unfold Lib.compareInt
 cases l with
 | nil => cases m with
  | nil => rfl
  | cons b m => simp [Lib.compareBytes] <;> omega
 | cons a l => cases m with
  | nil => simp [Lib.compareBytes] <;> omega
  | cons b m => simp at h
theorem cmpInt_sub (a b j : Nat) (h1 : j <= a) (h2 : j <= b) : Lib.compareInt ((a - j : Nat) : Int) ((b - j : Nat) : Int) = Lib.compareInt a b := by
 unfold Lib.compareInt; (repeat' split) <;> omega
theorem byte_at {s : BA} {j : Nat} (h : j < s.size) : s.data.toList[j]? = some s[j] := by
 rw [List.getElem?_eq_getElem (by rw [Array.length_toList]; exact h), Array.getElem_toList]
 rfl
theorem byte_drop {s : BA} {j : Nat} (h : j < s.size) : s.data.toList.drop j = s[j] :: s.data.toList.drop (j + 1) := by
 rw [List.drop_eq_getElem_cons (by rw [Array.length_toList]; exact h), Array.getElem_toList]
 rfl
theorem rtexts118 {s t : BA} (hs : s.size <= 9223372036854775807) (w : World) : Calls Tryz.prog 246 #[.string s, .string t] w fun e w' => e = .returned (.int .i64 (Lib.compareBytes s.data.toList t.data.toList)) /\ w.Gr w' := by
 have hsz := fun w => rsizes93 (s.size : Int) (t.size : Int) w
 generalize hR : Lib.compareBytes s.data.toList t.data.toList = R
 have HR := Hz hR; have HZ := Hz hsz; clear hR hsz
 go_enter Tryz.func246, Tryz.ntmps246
 go_wp2
 go_loopw [5] (fun i wr => ∃ j : Nat, i = .int .i64 j /\ j <= s.size /\ j <= t.size /\ Hid (∀ k, k < j -> s.data.toList[k]? = t.data.toList[k]?) /\ Hid (w.Gr wr)) (fun i _ => (s.size - intOf i).toNat)
 case atStart => exact ⟨0, rfl, Nat.zero_le _, Nat.zero_le _, Hz (fun k h => absurd h (Nat.not_lt_zero _)), Hz (World.Gr.refl w)⟩
 case round =>
  obtain ⟨j, rfl, hj1, hj2, HE, HG⟩ := hrel
  have hpre := cb_pre j s.data.toList t.data.toList HE.out (by rw [Array.length_toList]; exact hj1) (by rw [Array.length_toList]; exact hj2)
  rw [HR.out] at hpre
  have hend : s.size = j ∨ t.size = j -> R = Lib.compareInt (s.size : Nat) (t.size : Nat) := by
   intro h
   rw [hpre, cb_end, List.length_drop, List.length_drop, Array.length_toList, Array.length_toList]
   ·exact cmpInt_sub _ _ _ hj1 hj2
   ·rcases h with h | h
    ·left; exact List.drop_of_length_le (by rw [Array.length_toList]; exact Nat.le_of_eq h)
    ·right; exact List.drop_of_length_le (by rw [Array.length_toList]; exact Nat.le_of_eq h)
  have HP := Hz hpre; have HN := Hz hend
  clear hpre hend
  by_cases h1 : j < s.size
  ·have d1 : decide ((j : Int) < (s.size : Int)) = true := decide_eq_true (by omega)
   by_cases h2 : j < t.size
   ·have d2 : decide ((j : Int) < (t.size : Int)) = true := decide_eq_true (by omega)
    have hp := HP.out
    rw [byte_drop h1, byte_drop h2] at hp
    have hb1 := byte_at h1
    have hb2 := byte_at h2
    rcases Nat.lt_trichotomy s[j].toNat t[j].toNat with h | h | h
    ·have d3 : decide (s[j].toNat < t[j].toNat) = true := decide_eq_true h
     have hr : R = -1 := by rw [hp]; simp only [Lib.compareBytes]; rw [if_pos (UInt8.lt_iff_toNat_lt.2 h)]
     subst hr
     clear h hp hb1 hb2
     go_wp2
     go_quiet (fail)
     go_wp2
     go_ret
     exact ⟨rfl, World.Gr.of_drewN HG.out nq⟩
    ·have d3 : decide (s[j].toNat < t[j].toNat) = false := decide_eq_false (by omega)
     have d4 : decide (t[j].toNat < s[j].toNat) = false := decide_eq_false (by omega)
     have hbe : s[j] = t[j] := UInt8.toNat_inj.1 h
     have HB := Hz (show s.data.toList[j]? = t.data.toList[j]? by rw [hb1, hb2, hbe])
     have hw1 : IntKind.i64.wrap ((j : Int) + 1) = (j : Int) + 1 := IntWalk.i64_in _ (by omega)
     clear h hp hb1 hb2 hbe
     go_wp2
     go_quiet (fail)
     generalize hW : wr.drewN nq = w1 at *
     have g1 : w.Gr w1 := hW ▸ World.Gr.of_drewN HG.out nq
     clear hW
     go_wp2
     go_quiet (fail)
     go_wp2
     go_roundw
     ·exact ⟨j + 1, rfl, by omega, by omega, Hz (fun k hk => by
       by_cases e : k = j
       ·rw [e]; exact HB.out
       ·exact HE.out k (by omega)), Hz (World.Gr.of_drewN g1 _)⟩
     ·simp only [intOf]; omega
    ·have d3 : decide (s[j].toNat < t[j].toNat) = false := decide_eq_false (by omega)
     have d4 : decide (t[j].toNat < s[j].toNat) = true := decide_eq_true h
     have hr : R = 1 := by rw [hp]; simp only [Lib.compareBytes]; rw [if_neg (fun q => by have := UInt8.lt_iff_toNat_lt.1 q; omega), if_pos (UInt8.lt_iff_toNat_lt.2 h)]
     subst hr
     clear h hp hb1 hb2
     go_wp2
     go_quiet (fail)
     generalize hW : wr.drewN nq = w1 at *
     have g1 : w.Gr w1 := hW ▸ World.Gr.of_drewN HG.out nq
     clear hW
     go_wp2
     go_quiet (fail)
     go_wp2
     go_ret
     exact ⟨rfl, World.Gr.of_drewN g1 _⟩
   ·have d2 : decide ((j : Int) < (t.size : Int)) = false := decide_eq_false (by omega)
    have hr := HN.out (.inr (by omega))
    go_wp2_with fail
    with_reducible refine (HZ.out _).mono ?_
    rintro e w9 ⟨rfl, rfl⟩
    go_wp2
    go_ret
    exact ⟨by rw [hr]; rfl, HG.out⟩
  ·have d1 : decide ((j : Int) < (s.size : Int)) = false := decide_eq_false (by omega)
   have hr := HN.out (.inl (by omega))
   go_wp2_with fail
   with_reducible refine (HZ.out _).mono ?_
   rintro e w9 ⟨rfl, rfl⟩
   go_wp2
   go_ret
   exact ⟨by rw [hr]; rfl, HG.out⟩
end
end Go.Proofs.YtbejmdlncnkaaaaGreat
