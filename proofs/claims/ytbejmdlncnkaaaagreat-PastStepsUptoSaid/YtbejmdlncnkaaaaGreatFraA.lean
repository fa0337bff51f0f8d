/-
  The program's fractions: size, gcd, a value's two numbers, may a fraction be; facts on small blocks. The program's fractions: n / d in its least form. The program's fractions: products and sums of 128 bits. The program's fractions: sums of 128 bits.
-/
import Derived.Test.YtbejmdlncnkaaaaGreatLow
import Derived.Laws.Bits64
import Derived.Laws.Rows
import Derived.Laws.ResultCell
import Derived.Shelf.Spec.BitsCarry
set_option maxRecDepth 100000
set_option maxHeartbeats 16000000
set_option linter.unusedSimpArgs false
namespace Go
theorem World.Gr.set {w W : World} (h : w.Gr W) {a : Addr} (ha : w.heap.size <= a.block) (v : Value) : w.Gr (W.setCell a v) := by
 obtain ⟨q, os, rfl⟩ := h
 refine ⟨q, os.modify (a.block - w.heap.size) (fun
   | .cells c elem frozen => .cells (if a.spot.isSome then c else c.setIfInBounds a.off v) elem frozen
   | o => o), ?_⟩
 simp only [World.setCell, Sort.grow, Sort.modify_append_right _ _ _ _ (show (w.drewN q).heap.size <= a.block from ha)]
 rfl
theorem results_cell_tmp_row {P : Program} {fn : Func} {p u : Tmp} {ty : TypeId} (h : fn.results = #[.cell p ty, .tmp u]) (tmps : Array Value) (w : World) (g : Nat) (t : TypeId) (cs : Array Value) (fr : Nat × Nat) (d : TypeDesc) (b : Value)
  (hp : tmps.getD p undef = .pointer (some ⟨g, 0, none⟩)) (hb : tmps.getD u undef = b) (hg : w.heap[g]? = some (.cells cs t fr))
  (hu : P.underlying ty = some d) (hd : (match d with | .struct _ | .array _ _ => true | _ => false) = true) (hi : (P.info? ty).map (·.size) = some cs.size) :
  (results fn tmps).run P w = .ok (.tuple #[.agg cs, b]) w := by
 rw [results_cell_tmp h, hp, hb]
 simp [asAddr, run_loadVar_row w g t ty cs fr d hg hu hd hi, Result.andThen]
end Go
namespace Go.Proofs.YtbejmdlncnkaaaaGreat
section
open Go.RowKit
theorem four' {w : World} {p : Nat} {t : TypeId} {a b c d : Value} (hh : w.heap[p]? = some (.cells #[a, b, c, d] t (0, 0))) :
  w.cell? ⟨p, 0, none⟩ = some a /\ w.cell? ⟨p, 1, none⟩ = some b /\ w.cell? ⟨p, 2, none⟩ = some c /\ w.cell? ⟨p, 3, none⟩ = some d /\ ∀ j, w.frozen? ⟨p, j, none⟩ = false := by
 refine ⟨?_, ?_, ?_, ?_, fun j => frozen_of_row w p j _ _ hh⟩ <;> simp [World.cell?, hh]
theorem two' {w : World} {p : Nat} {t : TypeId} {a b : Value} (hh : w.heap[p]? = some (.cells #[a, b] t (0, 0))) :
  w.cell? ⟨p, 0, none⟩ = some a /\ w.cell? ⟨p, 1, none⟩ = some b /\ ∀ j, w.frozen? ⟨p, j, none⟩ = false := by
 refine ⟨?_, ?_, fun j => frozen_of_row w p j _ _ hh⟩ <;> simp [World.cell?, hh]
theorem two_set {w : World} {p : Nat} {t : TypeId} {a b : Value} (hh : w.heap[p]? = some (.cells #[a, b] t (0, 0))) (x y : Value) :
  ((w.setCell ⟨p, 0, none⟩ x).setCell ⟨p, 1, none⟩ y).heap[p]? = some (.cells #[x, y] t (0, 0)) :=
 heap_set_same (heap_set_same hh 0 x) 1 y
theorem three' {w : World} {p : Nat} {t : TypeId} {a b c : Value} (hh : w.heap[p]? = some (.cells #[a, b, c] t (0, 0))) :
  w.cell? ⟨p, 0, none⟩ = some a /\ w.cell? ⟨p, 1, none⟩ = some b /\ w.cell? ⟨p, 2, none⟩ = some c /\ ∀ j, w.frozen? ⟨p, j, none⟩ = false := by
 refine ⟨?_, ?_, ?_, fun j => frozen_of_row w p j _ _ hh⟩ <;> simp [World.cell?, hh]
theorem three_set {w : World} {p : Nat} {t : TypeId} {a b c : Value} (hh : w.heap[p]? = some (.cells #[a, b, c] t (0, 0))) (x y z : Value) :
  (((w.setCell ⟨p, 0, none⟩ x).setCell ⟨p, 1, none⟩ y).setCell ⟨p, 2, none⟩ z).heap[p]? = some (.cells #[x, y, z] t (0, 0)) :=
 heap_set_same (heap_set_same (heap_set_same hh 0 x) 1 y) 2 z
theorem four_set {w : World} {p : Nat} {t : TypeId} {a b c d : Value} (hh : w.heap[p]? = some (.cells #[a, b, c, d] t (0, 0))) (x y z u : Value) :
  ((((w.setCell ⟨p, 0, none⟩ x).setCell ⟨p, 1, none⟩ y).setCell ⟨p, 2, none⟩ z).setCell ⟨p, 3, none⟩ u).heap[p]? = some (.cells #[x, y, z, u] t (0, 0)) :=
 heap_set_same (heap_set_same (heap_set_same (heap_set_same hh 0 x) 1 y) 2 z) 3 u
theorem size125 {n : Int} (hn : inI64 n) (w : World) : Calls Tryz.prog 249 #[.int .i64 n] w fun e w' => e = .returned (.int .u64 n.natAbs) /\ w' = w := by
 obtain ⟨h0, h1⟩ := hn
 by_cases hz : n < 0
 ·have c1 : IntKind.u64.wrap n = n + 18446744073709551616 := by rw [IntKind.wrap_u64]; omega
  have c2 : IntKind.u64.wrap (-(n + 18446744073709551616)) = (n.natAbs : Int) := by rw [IntKind.wrap_u64]; omega
  go_enter Tryz.func249, Tryz.ntmps249
  go_wp2
  go_ret
  exact ⟨rfl, rfl⟩
 ·have c1 : IntKind.u64.wrap n = (n.natAbs : Int) := by rw [IntKind.wrap_u64]; omega
  go_enter Tryz.func249, Tryz.ntmps249
  go_wp2
  go_ret
  exact ⟨rfl, rfl⟩
theorem gcd124 {a b : Nat} (ha : a <= 18446744073709551615) (hb : b <= 18446744073709551615) (w : World) : Calls Tryz.prog 248 #[.int .u64 a, .int .u64 b] w fun e w' => e = .returned (.int .u64 (Nat.gcd a b : Nat)) /\ ∃ q, w' = w.drewN q := by
 go_enter Tryz.func248, Tryz.ntmps248
 go_wp2
 go_loopw [0, 1] (fun x y wr => ∃ m n : Nat, x = .int .u64 m /\ y = .int .u64 n /\ m <= 18446744073709551615 /\ n <= 18446744073709551615 /\ Nat.gcd m n = Nat.gcd a b /\ ∃ q, wr = w.drewN q) (fun _ y _ => (intOf y).toNat)
 case atStart => exact ⟨a, b, rfl, rfl, ha, hb, rfl, 0, rfl⟩
 case round =>
  obtain ⟨m, n, rfl, rfl, hm, hn, hg, q, rfl⟩ := hrel
  by_cases hz : n = 0
  ·subst hz
   go_wp2
   go_ret
   exact ⟨by rw [<- hg, Nat.gcd_zero_right]; rfl, q, rfl⟩
  ·have hz' : ((n : Int) != 0) = true := by simp; omega
   have hz2 : (n : Int) ≠ 0 := by omega
   have hmod : IntKind.u64.wrap ((m : Int).tmod n) = ((m % n : Nat) : Int) := by
    rw [<- Int.ofNat_tmod, IntWalk.u64_in]
    have := Nat.mod_lt m (Nat.pos_of_ne_zero hz)
    omega
   have hlt : m % n < n := Nat.mod_lt m (Nat.pos_of_ne_zero hz)
   have hg2 : Nat.gcd n (m % n) = Nat.gcd a b := by rw [<- hg, Nat.gcd_comm m n, Nat.gcd_rec n m, Nat.gcd_comm]
   have hz3 : ((n : Int) == 0) = false := by simp; omega
   go_wp2
   go_quiet (fail)
   go_wp2
   go_roundw
   ·exact ⟨n, m % n, rfl, by first | rfl | (rw [<- hmod]; rfl), hn, by omega, hg2, q + nq, World.drewN_drewN _ _ _⟩
   ·simp [intOf]; omega
theorem fraction110 {v : V} (w : World) : Calls Tryz.prog 184 #[vv v] w fun e w' => e = .returned (.agg #[.int .i64 v.n, .int .i64 v.d]) /\ w.Gr w' := by
 go_enter Tryz.func184, Tryz.ntmps184
 go_wp2
 refine bodyPost_ret (results_cell_row (P := Tryz.prog) rfl _ _ (w.heap.size + 1) 207 _ (0, 0) _ rfl (heap_alloc_at _ _ _ (by simp)) Tryz.underlying207 rfl (by kernel_rfl)) rfl ?_
 exact ⟨rfl, ((World.Gr.refl w).alloc _).alloc _⟩
def mayB (n d : Int) : Bool := decide (0 < d) && decide (Nat.gcd n.natAbs d.natAbs = 1)
theorem may127 {n d : Int} (hn : inI64 n) (hd : inI64 d) (w : World) : Calls Tryz.prog 210 #[.agg #[.int .i64 n, .int .i64 d]] w fun e w' => e = .returned (.bool (mayB n d)) /\ w.Gr w' := by
 have q1 := heap_alloc_at w (.cells #[.int .i64 n, .int .i64 d] 207) _ rfl
 have q3 := (World.Gr.refl w).alloc (.cells #[.int .i64 n, .int .i64 d] 207)
 have hs := fun w => size125 hn w
 obtain ⟨n0, n1⟩ := hn
 obtain ⟨d0, d1⟩ := hd
 go_enter Tryz.func210, Tryz.ntmps210
 go_upto_region 1 with (fail)
 generalize hW : World.alloc w _ = W at *
 clear hW
 obtain ⟨p0, p1, pf⟩ := two' q1
 by_cases hp : 0 < d
 ·have hdd : decide ((0 : Int) < d) = true := decide_eq_true hp
  have hw : IntKind.u64.wrap d = ((d.natAbs : Nat) : Int) := by rw [IntKind.wrap_u64]; omega
  have hg := fun w => gcd124 (a := n.natAbs) (b := d.natAbs) (by omega) (by omega) w
  have hq : (((Nat.gcd n.natAbs d.natAbs : Nat) : Int) == 1) = decide (Nat.gcd n.natAbs d.natAbs = 1) := by
   rw [Bool.eq_iff_iff, beq_iff_eq, decide_eq_true_eq]; omega
  have hm : mayB n d = decide (Nat.gcd n.natAbs d.natAbs = 1) := by rw [mayB, hdd]; rfl
  have Hm := Hz hm; clear hm
  go_quiet (first | (go_at_call 249; exact Calls.quiet_of_same (hs _)) | (go_at_call 248; exact Calls.quiet_of (hg _)))
  go_wp2
  go_ret
  exact ⟨by rw [Hm.out]; rfl, World.Gr.of_drewN q3 _⟩
 ·have hdd : decide ((0 : Int) < d) = false := decide_eq_false hp
  have hm : mayB n d = false := by rw [mayB, hdd]; rfl
  have Hm := Hz hm; clear hm
  go_quiet (fail)
  go_wp2
  go_ret
  exact ⟨by rw [Hm.out]; rfl, World.Gr.of_drewN q3 _⟩
end
section
open Go.RowKit
def ratOf (n d : Int) : Int × Int × Int :=
 if d = 0 then (0, 0, 11) else
 let a := n.natAbs / Nat.gcd n.natAbs d.natAbs
 let b := d.natAbs / Nat.gcd n.natAbs d.natAbs
 if n ≠ 0 /\ (decide (n < 0) != decide (d < 0)) = true then
  if 9223372036854775807 < b ∨ 9223372036854775808 < a then (0, 0, 10) else (-(a : Int), b, 0)
 else if 9223372036854775807 < b ∨ 9223372036854775808 <= a then (0, 0, 10) else (a, b, 0)
theorem of109 {n d : Int} (hn : inI64 n) (hd : inI64 d) (w : World) : Calls Tryz.prog 208 #[.int .i64 n, .int .i64 d] w fun e w' => e = .returned (.tuple #[.agg #[.int .i64 (ratOf n d).1, .int .i64 (ratOf n d).2.1], .int .i64 (ratOf n d).2.2]) /\ w.Gr w' := by
 generalize hR : ratOf n d = R
 obtain ⟨r1, r2, r3⟩ := R
 have HR := Hz hR; clear hR
 have q1 := heap_alloc_at w (.cells #[.int .i64 0, .int .i64 0] 207) _ rfl
 have q3 := (World.Gr.refl w).alloc (.cells #[.int .i64 0, .int .i64 0] 207)
 have hs := fun w => size125 hn w
 have ht := fun w => size125 hd w
 obtain ⟨n0, n1⟩ := hn
 obtain ⟨d0, d1⟩ := hd
 go_enter Tryz.func208, Tryz.ntmps208
 go_upto_region 1 with (fail)
 generalize hW : World.alloc w _ = W at *
 clear hW
 obtain ⟨p0, p1, pf⟩ := two' q1
 by_cases hz : d = 0
 ·subst hz
  have hr : (r1, r2, r3) = ((0 : Int), (0 : Int), (11 : Int)) := by rw [<- HR.out, ratOf, if_pos rfl]
  injection hr with h1 h23
  injection h23 with h2 h3
  subst h1 h2 h3
  go_wp2
  refine bodyPost_ret (results_cell_tmp_row (P := Tryz.prog) rfl _ _ w.heap.size 207 _ (0, 0) _ _ rfl rfl (two_set q1 _ _) Tryz.underlying207 rfl (by kernel_rfl)) rfl ?_
  exact ⟨rfl, (q3.set (Nat.le_refl _) _).set (Nat.le_refl _) _⟩
 ·have hg0 : 0 < Nat.gcd n.natAbs d.natAbs := Nat.gcd_pos_of_pos_right _ (by omega)
  have hg := fun w => gcd124 (a := n.natAbs) (b := d.natAbs) (by omega) (by omega) w
  have hA : n.natAbs / Nat.gcd n.natAbs d.natAbs <= 9223372036854775808 := Nat.le_trans (Nat.div_le_self _ _) (by omega)
  have hB : d.natAbs / Nat.gcd n.natAbs d.natAbs <= 9223372036854775808 := Nat.le_trans (Nat.div_le_self _ _) (by omega)
  have hA0 : n ≠ 0 -> 0 < n.natAbs / Nat.gcd n.natAbs d.natAbs := fun h => Nat.div_pos (Nat.le_of_dvd (by omega) (Nat.gcd_dvd_left _ _)) hg0
  have HR' : ratOf n d = (let a := n.natAbs / Nat.gcd n.natAbs d.natAbs; let b := d.natAbs / Nat.gcd n.natAbs d.natAbs; if n ≠ 0 /\ (decide (n < 0) != decide (d < 0)) = true then if 9223372036854775807 < b ∨ 9223372036854775808 < a then (0, 0, 10) else (-(a : Int), (b : Int), 0) else if 9223372036854775807 < b ∨ 9223372036854775808 <= a then (0, 0, 10) else (a, b, 0)) := by rw [ratOf, if_neg hz]
  have eA : IntKind.u64.wrap ((n.natAbs : Int) / (Nat.gcd n.natAbs d.natAbs : Nat)) = ((n.natAbs / Nat.gcd n.natAbs d.natAbs : Nat) : Int) := by
   rw [<- Int.natCast_ediv]
   generalize n.natAbs / Nat.gcd n.natAbs d.natAbs = A at *
   exact IntWalk.u64_in _ (by omega)
  have eB : IntKind.u64.wrap ((d.natAbs : Int) / (Nat.gcd n.natAbs d.natAbs : Nat)) = ((d.natAbs / Nat.gcd n.natAbs d.natAbs : Nat) : Int) := by
   rw [<- Int.natCast_ediv]
   generalize d.natAbs / Nat.gcd n.natAbs d.natAbs = B at *
   exact IntWalk.u64_in _ (by omega)
  rw [HR.out] at HR'
  generalize Nat.gcd n.natAbs d.natAbs = g at *
  generalize n.natAbs / g = A at *
  generalize d.natAbs / g = B at *
  have hgn : (g : Int) ≠ 0 := by omega
  have hgb : ((g : Int) == 0) = false := by simp; omega
  have hzb : (d == 0) = false := by simp [hz]
  simp only at HR'
  have Q1 := Hz q1; have Q3 := Hz q3; have HA := Hz hA; have HB := Hz hB; have HA0 := Hz hA0; have HRR := Hz HR'; clear q1 q3 hA hB hA0 HR' HR
  go_wp2_with fail
  refine (hs _).mono ?_
  rintro e w1 ⟨rfl, rfl⟩
  go_wp2_with fail
  refine (ht _).mono ?_
  rintro e w1 ⟨rfl, rfl⟩
  go_wp2_with fail
  refine (hg _).mono ?_
  rintro e w2 ⟨rfl, hw2⟩
  obtain ⟨q, hw2⟩ := hw2
  have q1 : w2.heap[w.heap.size]? = some (.cells #[.int .i64 0, .int .i64 0] 207 (0, 0)) := (congrArg (fun x : World => x.heap[w.heap.size]?) hw2).trans Q1.out
  have q3 : w.Gr w2 := hw2 ▸ World.Gr.of_drewN Q3.out q
  clear hw2 p0 p1 pf Q1 Q3
  obtain ⟨p0, p1, pf⟩ := two' q1
  have Q1 := Hz q1; have Q3 := Hz q3; clear q1 q3
  go_wp2
  go_quiet (first | (go_at_call 249; with_reducible exact Calls.quiet_of_same (hs _)) | (go_at_call 249; with_reducible exact Calls.quiet_of_same (ht _)))
  have hq3 := World.Gr.of_drewN Q3.out nq
  generalize hW2 : w2.drewN nq = w3 at *
  have q1 : w3.heap[w.heap.size]? = some (.cells #[.int .i64 0, .int .i64 0] 207 (0, 0)) := (congrArg (fun x : World => x.heap[w.heap.size]?) hW2.symm).trans Q1.out
  clear p0 p1 pf Q1 Q3 hW2
  obtain ⟨p0, p1, pf⟩ := two' q1
  have Q1 := Hz q1; have Q3 := Hz hq3; clear q1 hq3 eA eB hs ht hg
  by_cases hn0 : n = 0
  ·have hnb : (n != 0) = false := by simp [hn0]
   by_cases hb : 9223372036854775807 < B
   ·have hbb : decide ((9223372036854775807 : Int) < (B : Int)) = true := decide_eq_true (by omega)
    have hr : (r1, r2, r3) = ((0 : Int), (0 : Int), (10 : Int)) := by rw [HRR.out]; rw [if_neg (fun h => h.1 hn0)]; rw [if_pos (.inl hb)]
    injection hr with h1 h23
    injection h23 with h2 h3
    subst h1 h2 h3
    clear HRR
    go_wp2
    refine bodyPost_ret (results_cell_tmp_row (P := Tryz.prog) rfl _ _ w.heap.size 207 _ (0, 0) _ _ rfl rfl (two_set Q1.out _ _) Tryz.underlying207 rfl (by kernel_rfl)) rfl ?_
    exact ⟨rfl, (World.Gr.set Q3.out (Nat.le_refl _) _).set (Nat.le_refl _) _⟩
   ·have hbb : decide ((9223372036854775807 : Int) < (B : Int)) = false := decide_eq_false (by omega)
    have cB : IntKind.i64.wrap (B : Int) = B := IntWalk.i64_in _ (by omega)
    have hab : decide ((9223372036854775808 : Int) < (A : Int)) = false := decide_eq_false (by have := HA.out; omega)
    have hna := HA.out
    by_cases ha : A = 9223372036854775808
    ·have hac : ((A : Int) == 9223372036854775808) = true := by simp; omega
     have hr : (r1, r2, r3) = ((0 : Int), (0 : Int), (10 : Int)) := by rw [HRR.out]; rw [if_neg (fun h => h.1 hn0)]; rw [if_pos (.inr (by omega))]
     injection hr with h1 h23
     injection h23 with h2 h3
     subst h1 h2 h3
     clear HRR
     go_wp2
     refine bodyPost_ret (results_cell_tmp_row (P := Tryz.prog) rfl _ _ w.heap.size 207 _ (0, 0) _ _ rfl rfl (two_set Q1.out _ _) Tryz.underlying207 rfl (by kernel_rfl)) rfl ?_
     exact ⟨rfl, (World.Gr.set Q3.out (Nat.le_refl _) _).set (Nat.le_refl _) _⟩
    ·have hac : ((A : Int) == 9223372036854775808) = false := by simp; omega
     have cA : IntKind.i64.wrap (A : Int) = A := IntWalk.i64_in _ (by omega)
     have hr : (r1, r2, r3) = ((A : Int), (B : Int), (0 : Int)) := by rw [HRR.out]; rw [if_neg (fun h => h.1 hn0)]; rw [if_neg (by rintro (h | h) <;> omega)]
     injection hr with h1 h23
     injection h23 with h2 h3
     subst h1 h2 h3
     clear HRR
     go_wp2
     refine bodyPost_ret (results_cell_tmp_row (P := Tryz.prog) rfl _ _ w.heap.size 207 _ (0, 0) _ _ rfl rfl (two_set Q1.out _ _) Tryz.underlying207 rfl (by kernel_rfl)) rfl ?_
     exact ⟨rfl, (World.Gr.set Q3.out (Nat.le_refl _) _).set (Nat.le_refl _) _⟩
  ·have hnb : (n != 0) = true := by simp [hn0]
   have HN := Hz hn0
   cases hM : (decide (n < 0) != decide (d < 0)) with
   | false =>
    have hM2 : (!(decide (n < 0) == decide (d < 0))) = false := hM
    have hM3 : (decide (n < 0) == decide (d < 0)) = true := by rw [Bool.not_eq_false'] at hM2; exact hM2
    by_cases hb : 9223372036854775807 < B
    ·have hbb : decide ((9223372036854775807 : Int) < (B : Int)) = true := decide_eq_true (by omega)
     have hr : (r1, r2, r3) = ((0 : Int), (0 : Int), (10 : Int)) := by rw [HRR.out]; rw [if_neg (fun h => by rw [hM] at h; exact Bool.noConfusion h.2)]; rw [if_pos (.inl hb)]
     injection hr with h1 h23
     injection h23 with h2 h3
     subst h1 h2 h3
     clear HRR
     go_wp2
     refine bodyPost_ret (results_cell_tmp_row (P := Tryz.prog) rfl _ _ w.heap.size 207 _ (0, 0) _ _ rfl rfl (two_set Q1.out _ _) Tryz.underlying207 rfl (by kernel_rfl)) rfl ?_
     exact ⟨rfl, (World.Gr.set Q3.out (Nat.le_refl _) _).set (Nat.le_refl _) _⟩
    ·have hbb : decide ((9223372036854775807 : Int) < (B : Int)) = false := decide_eq_false (by omega)
     have cB : IntKind.i64.wrap (B : Int) = B := IntWalk.i64_in _ (by omega)
     have hab : decide ((9223372036854775808 : Int) < (A : Int)) = false := decide_eq_false (by have := HA.out; omega)
     have hna := HA.out
     by_cases ha : A = 9223372036854775808
     ·have hac : ((A : Int) == 9223372036854775808) = true := by simp; omega
      have hr : (r1, r2, r3) = ((0 : Int), (0 : Int), (10 : Int)) := by rw [HRR.out]; rw [if_neg (fun h => by rw [hM] at h; exact Bool.noConfusion h.2)]; rw [if_pos (.inr (by omega))]
      injection hr with h1 h23
      injection h23 with h2 h3
      subst h1 h2 h3
      clear HRR
      go_wp2
      refine bodyPost_ret (results_cell_tmp_row (P := Tryz.prog) rfl _ _ w.heap.size 207 _ (0, 0) _ _ rfl rfl (two_set Q1.out _ _) Tryz.underlying207 rfl (by kernel_rfl)) rfl ?_
      exact ⟨rfl, (World.Gr.set Q3.out (Nat.le_refl _) _).set (Nat.le_refl _) _⟩
     ·have hac : ((A : Int) == 9223372036854775808) = false := by simp; omega
      have cA : IntKind.i64.wrap (A : Int) = A := IntWalk.i64_in _ (by omega)
      have hr : (r1, r2, r3) = ((A : Int), (B : Int), (0 : Int)) := by rw [HRR.out]; rw [if_neg (fun h => by rw [hM] at h; exact Bool.noConfusion h.2)]; rw [if_neg (by rintro (h | h) <;> omega)]
      injection hr with h1 h23
      injection h23 with h2 h3
      subst h1 h2 h3
      clear HRR
      go_wp2
      refine bodyPost_ret (results_cell_tmp_row (P := Tryz.prog) rfl _ _ w.heap.size 207 _ (0, 0) _ _ rfl rfl (two_set Q1.out _ _) Tryz.underlying207 rfl (by kernel_rfl)) rfl ?_
      exact ⟨rfl, (World.Gr.set Q3.out (Nat.le_refl _) _).set (Nat.le_refl _) _⟩
   | true =>
    have hM2 : (!(decide (n < 0) == decide (d < 0))) = true := hM
    have hM3 : (decide (n < 0) == decide (d < 0)) = false := by rw [Bool.not_eq_true'] at hM2; exact hM2
    by_cases hb : 9223372036854775807 < B
    ·have hbb : decide ((9223372036854775807 : Int) < (B : Int)) = true := decide_eq_true (by omega)
     have hr : (r1, r2, r3) = ((0 : Int), (0 : Int), (10 : Int)) := by rw [HRR.out]; rw [if_pos ⟨HN.out, hM⟩]; rw [if_pos (.inl hb)]
     injection hr with h1 h23
     injection h23 with h2 h3
     subst h1 h2 h3
     clear HRR
     go_wp2
     refine bodyPost_ret (results_cell_tmp_row (P := Tryz.prog) rfl _ _ w.heap.size 207 _ (0, 0) _ _ rfl rfl (two_set Q1.out _ _) Tryz.underlying207 rfl (by kernel_rfl)) rfl ?_
     exact ⟨rfl, (World.Gr.set Q3.out (Nat.le_refl _) _).set (Nat.le_refl _) _⟩
    ·have hbb : decide ((9223372036854775807 : Int) < (B : Int)) = false := decide_eq_false (by omega)
     have cB : IntKind.i64.wrap (B : Int) = B := IntWalk.i64_in _ (by omega)
     have hab : decide ((9223372036854775808 : Int) < (A : Int)) = false := decide_eq_false (by have := HA.out; omega)
     have hna := HA.out
     by_cases ha : A = 9223372036854775808
     ·have hac : ((A : Int) == 9223372036854775808) = true := by simp; omega
      have hA1 := HA0.out HN.out
      have c1 : IntKind.u64.wrap ((A : Int) - 1) = (A : Int) - 1 := IntWalk.u64_in _ (by omega)
      have c2 : IntKind.i64.wrap ((A : Int) - 1) = (A : Int) - 1 := IntWalk.i64_in _ (by omega)
      have c3 : IntKind.i64.wrap (-((A : Int) - 1)) = -((A : Int) - 1) := IntWalk.i64_in _ (by omega)
      have c4 : IntKind.i64.wrap (-((A : Int) - 1) - 1) = -(A : Int) := by rw [IntWalk.i64_in _ (by omega)]; omega
      have hr : (r1, r2, r3) = (-(A : Int), (B : Int), (0 : Int)) := by rw [HRR.out]; rw [if_pos ⟨HN.out, hM⟩]; rw [if_neg (by rintro (h | h) <;> omega)]
      injection hr with h1 h23
      injection h23 with h2 h3
      subst h1 h2 h3
      clear HRR
      go_wp2
      refine bodyPost_ret (results_cell_tmp_row (P := Tryz.prog) rfl _ _ w.heap.size 207 _ (0, 0) _ _ rfl rfl (two_set Q1.out _ _) Tryz.underlying207 rfl (by kernel_rfl)) rfl ?_
      exact ⟨by rw [show (A : Int) = 9223372036854775808 by omega]; rfl, (World.Gr.set Q3.out (Nat.le_refl _) _).set (Nat.le_refl _) _⟩
     ·have hac : ((A : Int) == 9223372036854775808) = false := by simp; omega
      have hA1 := HA0.out HN.out
      have c1 : IntKind.u64.wrap ((A : Int) - 1) = (A : Int) - 1 := IntWalk.u64_in _ (by omega)
      have c2 : IntKind.i64.wrap ((A : Int) - 1) = (A : Int) - 1 := IntWalk.i64_in _ (by omega)
      have c3 : IntKind.i64.wrap (-((A : Int) - 1)) = -((A : Int) - 1) := IntWalk.i64_in _ (by omega)
      have c4 : IntKind.i64.wrap (-((A : Int) - 1) - 1) = -(A : Int) := by rw [IntWalk.i64_in _ (by omega)]; omega
      have hr : (r1, r2, r3) = (-(A : Int), (B : Int), (0 : Int)) := by rw [HRR.out]; rw [if_pos ⟨HN.out, hM⟩]; rw [if_neg (by rintro (h | h) <;> omega)]
      injection hr with h1 h23
      injection h23 with h2 h3
      subst h1 h2 h3
      clear HRR
      go_wp2
      refine bodyPost_ret (results_cell_tmp_row (P := Tryz.prog) rfl _ _ w.heap.size 207 _ (0, 0) _ _ rfl rfl (two_set Q1.out _ _) Tryz.underlying207 rfl (by kernel_rfl)) rfl ?_
      exact ⟨rfl, (World.Gr.set Q3.out (Nat.le_refl _) _).set (Nat.le_refl _) _⟩
end
section
open Go.RowKit
def MulOk : Prop := ∀ (x y : Nat) (w : World), x < 18446744073709551616 -> y < 18446744073709551616 ->
  Calls Tryz.prog 250 #[.int .u64 x, .int .u64 y] w fun e w' => e = .returned (.tuple #[.int .u64 ((x * y / 18446744073709551616 : Nat) : Int), .int .u64 ((x * y % 18446744073709551616 : Nat) : Int)]) /\ w' = w
structure Wd where
 h : Nat
 l : Nat
 m : Bool
structure Wd.ok (a : Wd) : Prop where
 h : a.h < 18446744073709551616
 l : a.l < 18446744073709551616
abbrev Wd.v (a : Wd) : Value := .agg #[.int .u64 a.h, .int .u64 a.l, .bool a.m]
def timesW (n d : Int) : Wd := ⟨n.natAbs * d.natAbs / 18446744073709551616, n.natAbs * d.natAbs % 18446744073709551616, decide (n < 0) != decide (d < 0)⟩
theorem timesW_ok {n d : Int} (hn : inI64 n) (hd : inI64 d) : (timesW n d).ok := by
 obtain ⟨n0, n1⟩ := hn
 obtain ⟨d0, d1⟩ := hd
 refine ⟨?_, Nat.mod_lt _ (by decide)⟩
 show n.natAbs * d.natAbs / 18446744073709551616 < 18446744073709551616
 have h1 : n.natAbs * d.natAbs <= 9223372036854775808 * 9223372036854775808 := Nat.mul_le_mul (by omega) (by omega)
 omega
theorem times128 (hM : MulOk) {n d : Int} (hn : inI64 n) (hd : inI64 d) (w : World) : Calls Tryz.prog 211 #[.int .i64 n, .int .i64 d] w fun e w' => e = .returned (timesW n d).v /\ w.Gr w' := by
 have q1 := heap_alloc_at w (.cells #[.int .u64 0, .int .u64 0, .bool false] 235) _ rfl
 have q3 := (World.Gr.refl w).alloc (.cells #[.int .u64 0, .int .u64 0, .bool false] 235)
 have hs := fun w => size125 hn w
 have ht := fun w => size125 hd w
 have hm := fun w => hM n.natAbs d.natAbs w (by have := hn.1; have := hn.2; omega) (by have := hd.1; have := hd.2; omega)
 obtain ⟨n0, n1⟩ := hn
 obtain ⟨d0, d1⟩ := hd
 generalize hR : timesW n d = R
 have HR := Hz hR; clear hR hM
 go_enter Tryz.func211, Tryz.ntmps211
 go_upto_region 1 with (fail)
 generalize hW : World.alloc w _ = W at *
 clear hW
 obtain ⟨p0, p1, p2, pf⟩ := three' q1
 go_wp2_with fail
 refine (hs _).mono ?_
 rintro e w1 ⟨rfl, rfl⟩
 go_wp2_with fail
 refine (ht _).mono ?_
 rintro e w1 ⟨rfl, rfl⟩
 go_wp2_with fail
 refine (hm _).mono ?_
 rintro e w1 ⟨rfl, rfl⟩
 go_wp2
 refine bodyPost_ret (results_cell_row (P := Tryz.prog) rfl _ _ w.heap.size 235 _ (0, 0) _ rfl (three_set q1 _ _ _) Tryz.underlying235 rfl (by kernel_rfl)) rfl ?_
 refine ⟨?_, ((World.Gr.set q3 (Nat.le_refl _) _).set (Nat.le_refl _) _).set (Nat.le_refl _) _⟩
 rw [<- HR.out]
 rfl
theorem add163 (x y c : Nat) (hc : c <= 1) (w : World) :
  (callFunc 251 #[.int .u64 x, .int .u64 y, .int .u64 c]).run Tryz.prog w =
   .ok (.value (.tuple #[.int .u64 (((x + y + c) % 18446744073709551616 : Nat) : Int), .int .u64 (((x + y + c) / 18446744073709551616 : Nat) : Int)])) w := by
 rw [run_callFunc_extern Tryz.func251 (by kernel_rfl) (by kernel_rfl) (by kernel_rfl) (e := add64Entry) (by kernel_rfl), run_add64 x y c (by omega) (by omega) (by omega) (by omega)]
 simp only [Result.andThen]
 congr 5 <;> omega
theorem sub164 (x y b : Nat) (hb : b <= 1) (w : World) :
  (callFunc 252 #[.int .u64 x, .int .u64 y, .int .u64 b]).run Tryz.prog w =
   .ok (.value (.tuple #[.int .u64 (((x + 18446744073709551616 - y - b) % 18446744073709551616 : Nat) : Int), .int .u64 ((if x < y + b then 1 else 0 : Nat) : Int)])) w := by
 rw [run_callFunc_extern Tryz.func252 (by kernel_rfl) (by kernel_rfl) (by kernel_rfl) (e := sub64Entry) (by kernel_rfl), run_sub64 x y b hb]
 rfl
end
section
open Go.RowKit
def lessW (a b : Wd) : Wd := ⟨(a.h + 18446744073709551616 - b.h - (if a.l < b.l then 1 else 0)) % 18446744073709551616, (a.l + 18446744073709551616 - b.l) % 18446744073709551616, a.m⟩
def plusW (a b : Wd) : Wd :=
 if a.m = b.m then ⟨(a.h + b.h + (a.l + b.l) / 18446744073709551616) % 18446744073709551616, (a.l + b.l) % 18446744073709551616, a.m⟩
 else if a.h < b.h ∨ a.h = b.h /\ a.l < b.l then lessW b a else lessW a b
def ratCmp (n d m e : Int) : Int :=
 if mayB n d = true /\ mayB m e = true then
  if n = m /\ d = e then 0 else if (plusW (timesW n e) ⟨(timesW m d).h, (timesW m d).l, !(timesW m d).m⟩).m = true then -1 else 1
 else 0
theorem plus129 (a b : Wd) (ha : a.ok) (hb : b.ok) (w : World) : Calls Tryz.prog 212 #[a.v, b.v] w fun e w' => e = .returned (plusW a b).v /\ w.Gr w' := by
 obtain ⟨ah, al, am⟩ := a
 obtain ⟨bh, bl, bm⟩ := b
 obtain ⟨a1, a2⟩ := ha
 obtain ⟨b1, b2⟩ := hb
 simp only at a1 a2 b1 b2
 generalize hR : plusW ⟨ah, al, am⟩ ⟨bh, bl, bm⟩ = R
 have HR := Hz hR; clear hR
 have qa := heap_alloc_at w (.cells #[.int .u64 ah, .int .u64 al, .bool am] 235) _ rfl
 have qb := heap_alloc_at (w.alloc (.cells #[.int .u64 ah, .int .u64 al, .bool am] 235)) (.cells #[.int .u64 bh, .int .u64 bl, .bool bm] 235) (w.heap.size + 1) (by simp)
 have qc := heap_alloc_at ((w.alloc (.cells #[.int .u64 ah, .int .u64 al, .bool am] 235)).alloc (.cells #[.int .u64 bh, .int .u64 bl, .bool bm] 235)) (.cells #[.int .u64 0, .int .u64 0, .bool false] 235) (w.heap.size + 2) (by simp)
 have qa := heap_alloc_some qa (.cells #[.int .u64 bh, .int .u64 bl, .bool bm] 235)
 have qa := heap_alloc_some qa (.cells #[.int .u64 0, .int .u64 0, .bool false] 235)
 have qb := heap_alloc_some qb (.cells #[.int .u64 0, .int .u64 0, .bool false] 235)
 have q3 := (((World.Gr.refl w).alloc (.cells #[.int .u64 ah, .int .u64 al, .bool am] 235)).alloc (.cells #[.int .u64 bh, .int .u64 bl, .bool bm] 235)).alloc (.cells #[.int .u64 0, .int .u64 0, .bool false] 235)
 go_enter Tryz.func212, Tryz.ntmps212
 go_upto_region 1 with (fail)
 generalize hW : World.alloc (World.alloc (World.alloc w _) _) _ = W at *
 clear hW
 have Qa := Hz qa; have Qb := Hz qb; have Qc := Hz qc; have Q3 := Hz q3; clear qa qb qc q3
 obtain ⟨x0, x1, x2, xf⟩ := three' Qa.out
 obtain ⟨y0, y1, y2, yf⟩ := three' Qb.out
 obtain ⟨z0, z1, z2, zf⟩ := three' Qc.out
 by_cases hm : am = bm
 ·have hmb : (am == bm) = true := by simp [hm]
  have l1 : ∀ w, (callFunc 251 #[.int .u64 al, .int .u64 bl, .int .u64 0]).run Tryz.prog w = .ok (.value (.tuple #[.int .u64 (((al + bl) % 18446744073709551616 : Nat) : Int), .int .u64 (((al + bl) / 18446744073709551616 : Nat) : Int)])) w := fun w => add163 al bl 0 (by omega) w
  have hC : (al + bl) / 18446744073709551616 <= 1 := by omega
  have l2 := fun w => add163 ah bh ((al + bl) / 18446744073709551616) hC w
  have hres : R = ⟨(ah + bh + (al + bl) / 18446744073709551616) % 18446744073709551616, (al + bl) % 18446744073709551616, am⟩ := by rw [<- HR.out, plusW, if_pos hm]
  generalize (ah + bh + (al + bl) / 18446744073709551616) % 18446744073709551616 = H at *
  generalize (ah + bh + (al + bl) / 18446744073709551616) / 18446744073709551616 = HC at *
  generalize (al + bl) % 18446744073709551616 = L at *
  generalize (al + bl) / 18446744073709551616 = C at *
  subst hres
  clear hm HR
  go_wp2
  refine bodyPost_ret (results_cell_row (P := Tryz.prog) rfl _ _ (w.heap.size + 2) 235 _ (0, 0) _ rfl (three_set Qc.out _ _ _) Tryz.underlying235 rfl (by kernel_rfl)) rfl ?_
  exact ⟨rfl, ((World.Gr.set Q3.out (by show w.heap.size <= w.heap.size + 1 + 1; omega) _).set (by show w.heap.size <= w.heap.size + 1 + 1; omega) _).set (by show w.heap.size <= w.heap.size + 1 + 1; omega) _⟩
 ·have hmb : (am == bm) = false := by simp [hm]
  by_cases hlt : ah < bh ∨ ah = bh /\ al < bl
  ·have hres : R = lessW ⟨bh, bl, bm⟩ ⟨ah, al, am⟩ := by rw [<- HR.out, plusW, if_neg hm, if_pos hlt]
   have l1 : ∀ w, (callFunc 252 #[.int .u64 bl, .int .u64 al, .int .u64 0]).run Tryz.prog w = .ok (.value (.tuple #[.int .u64 (((bl + 18446744073709551616 - al) % 18446744073709551616 : Nat) : Int), .int .u64 ((if bl < al then 1 else 0 : Nat) : Int)])) w := fun w => sub164 bl al 0 (by omega) w
   have hC : (if bl < al then 1 else 0 : Nat) <= 1 := by split <;> omega
   have l2 := fun w => sub164 bh ah (if bl < al then 1 else 0) hC w
   unfold lessW at hres
   simp only at hres
   generalize (if bl < al then 1 else 0 : Nat) = C at *
   generalize (bh + 18446744073709551616 - ah - C) % 18446744073709551616 = H at *
   generalize (if bh < ah + C then 1 else 0 : Nat) = HC at *
   generalize (bl + 18446744073709551616 - al) % 18446744073709551616 = L at *
   subst hres
   clear HR
   rcases Nat.lt_or_ge ah bh with h | h
   ·have d1 : decide (ah < bh) = true := decide_eq_true h
    have d1' : decide ((ah : Int) < bh) = true := decide_eq_true (by omega)
    clear hm hlt h
    go_wp2
    refine bodyPost_ret (results_cell_row (P := Tryz.prog) rfl _ _ (w.heap.size + 2) 235 _ (0, 0) _ rfl (three_set (heap_set_other (heap_set_other (heap_set_other (heap_set_other (heap_set_other (heap_set_other Qc.out _ (by simp; try omega) _) _ (by simp; try omega) _) _ (by simp; try omega) _) _ (by simp; try omega) _) _ (by simp; try omega) _) _ (by simp; try omega) _) _ _ _) Tryz.underlying235 rfl (by kernel_rfl)) rfl ?_
    exact ⟨rfl, ((World.Gr.set (World.Gr.set (World.Gr.set (World.Gr.set (World.Gr.set (World.Gr.set (World.Gr.set Q3.out (by first | exact Nat.le_refl _ | exact Nat.le_add_right _ _) _) (by first | exact Nat.le_refl _ | exact Nat.le_add_right _ _) _) (by first | exact Nat.le_refl _ | exact Nat.le_add_right _ _) _) (by first | exact Nat.le_refl _ | exact Nat.le_add_right _ _) _) (by first | exact Nat.le_refl _ | exact Nat.le_add_right _ _) _) (by first | exact Nat.le_refl _ | exact Nat.le_add_right _ _) _) (by show w.heap.size <= w.heap.size + 1 + 1; omega) _).set (by show w.heap.size <= w.heap.size + 1 + 1; omega) _).set (by show w.heap.size <= w.heap.size + 1 + 1; omega) _⟩
   ·have d1 : decide (ah < bh) = false := decide_eq_false (by omega)
    have d1' : decide ((ah : Int) < bh) = false := decide_eq_false (by omega)
    have d2 : (ah == bh) = true := by simp; omega
    have d2' : ((ah : Int) == bh) = true := by simp; omega
    have d3 : decide (al < bl) = true := decide_eq_true (by omega)
    have d3' : decide ((al : Int) < bl) = true := decide_eq_true (by omega)
    clear hm hlt h
    go_wp2
    refine bodyPost_ret (results_cell_row (P := Tryz.prog) rfl _ _ (w.heap.size + 2) 235 _ (0, 0) _ rfl (three_set (heap_set_other (heap_set_other (heap_set_other (heap_set_other (heap_set_other (heap_set_other Qc.out _ (by simp; try omega) _) _ (by simp; try omega) _) _ (by simp; try omega) _) _ (by simp; try omega) _) _ (by simp; try omega) _) _ (by simp; try omega) _) _ _ _) Tryz.underlying235 rfl (by kernel_rfl)) rfl ?_
    exact ⟨rfl, ((World.Gr.set (World.Gr.set (World.Gr.set (World.Gr.set (World.Gr.set (World.Gr.set (World.Gr.set Q3.out (by first | exact Nat.le_refl _ | exact Nat.le_add_right _ _) _) (by first | exact Nat.le_refl _ | exact Nat.le_add_right _ _) _) (by first | exact Nat.le_refl _ | exact Nat.le_add_right _ _) _) (by first | exact Nat.le_refl _ | exact Nat.le_add_right _ _) _) (by first | exact Nat.le_refl _ | exact Nat.le_add_right _ _) _) (by first | exact Nat.le_refl _ | exact Nat.le_add_right _ _) _) (by show w.heap.size <= w.heap.size + 1 + 1; omega) _).set (by show w.heap.size <= w.heap.size + 1 + 1; omega) _).set (by show w.heap.size <= w.heap.size + 1 + 1; omega) _⟩
  ·have hres : R = lessW ⟨ah, al, am⟩ ⟨bh, bl, bm⟩ := by rw [<- HR.out, plusW, if_neg hm, if_neg hlt]
   have l1 : ∀ w, (callFunc 252 #[.int .u64 al, .int .u64 bl, .int .u64 0]).run Tryz.prog w = .ok (.value (.tuple #[.int .u64 (((al + 18446744073709551616 - bl) % 18446744073709551616 : Nat) : Int), .int .u64 ((if al < bl then 1 else 0 : Nat) : Int)])) w := fun w => sub164 al bl 0 (by omega) w
   have hC : (if al < bl then 1 else 0 : Nat) <= 1 := by split <;> omega
   have l2 := fun w => sub164 ah bh (if al < bl then 1 else 0) hC w
   unfold lessW at hres
   simp only at hres
   generalize (if al < bl then 1 else 0 : Nat) = C at *
   generalize (ah + 18446744073709551616 - bh - C) % 18446744073709551616 = H at *
   generalize (if ah < bh + C then 1 else 0 : Nat) = HC at *
   generalize (al + 18446744073709551616 - bl) % 18446744073709551616 = L at *
   subst hres
   clear HR
   have d1 : decide (ah < bh) = false := decide_eq_false (by omega)
   have d1' : decide ((ah : Int) < bh) = false := decide_eq_false (by omega)
   by_cases h : ah = bh
   ·have d2 : (ah == bh) = true := by simp; omega
    have d2' : ((ah : Int) == bh) = true := by simp; omega
    have d3 : decide (al < bl) = false := decide_eq_false (by omega)
    have d3' : decide ((al : Int) < bl) = false := decide_eq_false (by omega)
    clear hm hlt h
    go_wp2
    refine bodyPost_ret (results_cell_row (P := Tryz.prog) rfl _ _ (w.heap.size + 2) 235 _ (0, 0) _ rfl (three_set Qc.out _ _ _) Tryz.underlying235 rfl (by kernel_rfl)) rfl ?_
    exact ⟨rfl, ((World.Gr.set Q3.out (by show w.heap.size <= w.heap.size + 1 + 1; omega) _).set (by show w.heap.size <= w.heap.size + 1 + 1; omega) _).set (by show w.heap.size <= w.heap.size + 1 + 1; omega) _⟩
   ·have d2 : (ah == bh) = false := by simp; omega
    have d2' : ((ah : Int) == bh) = false := by simp; omega
    clear hm hlt h
    go_wp2
    refine bodyPost_ret (results_cell_row (P := Tryz.prog) rfl _ _ (w.heap.size + 2) 235 _ (0, 0) _ rfl (three_set Qc.out _ _ _) Tryz.underlying235 rfl (by kernel_rfl)) rfl ?_
    exact ⟨rfl, ((World.Gr.set Q3.out (by show w.heap.size <= w.heap.size + 1 + 1; omega) _).set (by show w.heap.size <= w.heap.size + 1 + 1; omega) _).set (by show w.heap.size <= w.heap.size + 1 + 1; omega) _⟩
end
end Go.Proofs.YtbejmdlncnkaaaaGreat
