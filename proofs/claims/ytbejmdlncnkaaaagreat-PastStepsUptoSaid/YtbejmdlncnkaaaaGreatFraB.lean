/-
  Fractions, plainly: the least form, the order. The program's fractions: Compare. The walk of value.Check, of fractions. The walk of value.Compare, of any values that may be; value.Check and value.Compare are known of all values.
-/
import Derived.Test.YtbejmdlncnkaaaaGreatFraA
import Derived.Test.YtbejmdlncnkaaaaGreatTbs
import Derived.Test.YtbejmdlncnkaaaaGreatMad
set_option maxRecDepth 100000
set_option maxHeartbeats 16000000
set_option linter.unusedSimpArgs false
namespace Go.Proofs.YtbejmdlncnkaaaaGreat
section
open Go.RowKit
theorem ratOf_eq {n d : Int} (hn : inI64 n) (hd : inI64 d) : ratOf n d = (n, d, 0) ↔ (0 < d /\ Nat.gcd n.natAbs d.natAbs = 1) := by
 obtain ⟨n0, n1⟩ := hn
 obtain ⟨d0, d1⟩ := hd
 constructor
 ·intro h
  unfold ratOf at h
  by_cases hz : d = 0
  ·rw [if_pos hz] at h
   injection h with _ h; injection h with _ h; omega
  ·rw [if_neg hz] at h
   simp only at h
   have key : ((d.natAbs / Nat.gcd n.natAbs d.natAbs : Nat) : Int) = d := by
    split at h
    ·split at h
     ·injection h with _ h; injection h with _ h; omega
     ·injection h with _ h; injection h with h _
    ·split at h
     ·injection h with _ h; injection h with _ h; omega
     ·injection h with _ h; injection h with h _
   have hp : 0 < d := by generalize d.natAbs / Nat.gcd n.natAbs d.natAbs = q at key; omega
   refine ⟨hp, ?_⟩
   have h2 : d.natAbs / Nat.gcd n.natAbs d.natAbs = d.natAbs := by generalize d.natAbs / Nat.gcd n.natAbs d.natAbs = q at *; omega
   have h3 := Nat.div_mul_cancel (Nat.gcd_dvd_right n.natAbs d.natAbs)
   rw [h2] at h3
   exact Nat.eq_of_mul_eq_mul_left (show 0 < d.natAbs by omega) (by rw [h3, Nat.mul_one])
 ·rintro ⟨hp, hg⟩
  unfold ratOf
  rw [if_neg (by omega), hg]
  simp only [Nat.div_one]
  have hdd : decide (d < 0) = false := decide_eq_false (by omega)
  by_cases hn : n < 0
  ·rw [if_pos ⟨by omega, by rw [hdd, decide_eq_true hn]; rfl⟩, if_neg (by rintro (h | h) <;> omega)]
   rw [show -(n.natAbs : Int) = n by omega, show (d.natAbs : Int) = d by omega]
  ·rw [if_neg (fun h => by rw [hdd, decide_eq_false hn] at h; exact Bool.noConfusion h.2), if_neg (by rintro (h | h) <;> omega)]
   rw [show (n.natAbs : Int) = n by omega, show (d.natAbs : Int) = d by omega]
theorem plusW_neg (X Y : Nat) (s t : Bool) :
  (plusW ⟨X / 18446744073709551616, X % 18446744073709551616, s⟩ ⟨Y / 18446744073709551616, Y % 18446744073709551616, !t⟩).m = if s = t then (if X < Y then !t else s) else s := by
 unfold plusW
 simp only
 cases s <;> cases t <;> simp only [Bool.not_true, Bool.not_false, if_true, if_false, Bool.false_eq_true, reduceCtorEq]
 ·by_cases h : X < Y
  ·rw [if_pos (by omega), if_pos h]; rfl
  ·rw [if_neg (by omega), if_neg h]; rfl
 ·by_cases h : X < Y
  ·rw [if_pos (by omega), if_pos h]; rfl
  ·rw [if_neg (by omega), if_neg h]; rfl
theorem ratCmp_eq {n d m e : Int} (h1 : 0 < d /\ Nat.gcd n.natAbs d.natAbs = 1) (h2 : 0 < e /\ Nat.gcd m.natAbs e.natAbs = 1) :
  ratCmp n d m e = if n = m /\ d = e then 0 else if n * e < m * d then -1 else 1 := by
 unfold ratCmp
 rw [if_pos ⟨by rw [mayB, decide_eq_true h1.1, decide_eq_true h1.2]; rfl, by rw [mayB, decide_eq_true h2.1, decide_eq_true h2.2]; rfl⟩]
 by_cases hs : n = m /\ d = e
 ·rw [if_pos hs, if_pos hs]
 ·rw [if_neg hs, if_neg hs]
  have hne : n * e ≠ m * d := fun h => hs (frac_eq h1.1 h2.1 h1.2 h2.2 h)
  have hed : decide (e < 0) = false := decide_eq_false (by omega)
  have hdd : decide (d < 0) = false := decide_eq_false (by omega)
  have hpl := plusW_neg (n.natAbs * e.natAbs) (m.natAbs * d.natAbs) (decide (n < 0)) (decide (m < 0))
  have e1 : (timesW n e) = ⟨n.natAbs * e.natAbs / 18446744073709551616, n.natAbs * e.natAbs % 18446744073709551616, decide (n < 0)⟩ := by
   unfold timesW; rw [hed]; cases decide (n < 0) <;> rfl
  have e2 : (timesW m d) = ⟨m.natAbs * d.natAbs / 18446744073709551616, m.natAbs * d.natAbs % 18446744073709551616, decide (m < 0)⟩ := by
   unfold timesW; rw [hdd]; cases decide (m < 0) <;> rfl
  rw [e1, e2]
  simp only
  rw [hpl]
  have z1 : n * e = if n < 0 then -((n.natAbs * e.natAbs : Nat) : Int) else ((n.natAbs * e.natAbs : Nat) : Int) := by
   split
   ·rw [Int.natCast_mul, <- Int.neg_mul, show -(n.natAbs : Int) = n by omega, show (e.natAbs : Int) = e by omega]
   ·rw [Int.natCast_mul, show (n.natAbs : Int) = n by omega, show (e.natAbs : Int) = e by omega]
  have z2 : m * d = if m < 0 then -((m.natAbs * d.natAbs : Nat) : Int) else ((m.natAbs * d.natAbs : Nat) : Int) := by
   split
   ·rw [Int.natCast_mul, <- Int.neg_mul, show -(m.natAbs : Int) = m by omega, show (d.natAbs : Int) = d by omega]
   ·rw [Int.natCast_mul, show (m.natAbs : Int) = m by omega, show (d.natAbs : Int) = d by omega]
  have p1 : n < 0 -> 0 < n.natAbs * e.natAbs := fun h => Nat.mul_pos (by omega) (by omega)
  have p2 : m < 0 -> 0 < m.natAbs * d.natAbs := fun h => Nat.mul_pos (by omega) (by omega)
  generalize n.natAbs * e.natAbs = X at *
  generalize m.natAbs * d.natAbs = Y at *
  generalize n * e = NE at *
  generalize m * d = MD at *
  by_cases q1 : n < 0 <;> by_cases q2 : m < 0
  ·have := p1 q1
   rw [if_pos q1] at z1; rw [if_pos q2] at z2
   rw [decide_eq_true q1, decide_eq_true q2]
   by_cases hl : X < Y
   ·simp only [if_true, if_pos hl, Bool.not_true, Bool.false_eq_true, if_false]
    rw [if_neg (by omega)]
   ·simp only [if_true, if_neg hl]
    rw [if_pos (by omega)]
  ·have := p1 q1
   rw [if_pos q1] at z1; rw [if_neg q2] at z2
   rw [decide_eq_true q1, decide_eq_false q2]
   simp only [if_true, Bool.true_eq_false, if_false]
   rw [if_pos (by omega)]
  ·have := p2 q2
   rw [if_neg q1] at z1; rw [if_pos q2] at z2
   rw [decide_eq_false q1, decide_eq_true q2]
   simp only [Bool.false_eq_true, if_false]
   rw [if_neg (by omega)]
  ·rw [if_neg q1] at z1; rw [if_neg q2] at z2
   rw [decide_eq_false q1, decide_eq_false q2]
   by_cases hl : X < Y
   ·simp only [if_true, if_pos hl, Bool.not_false]
    rw [if_pos (by omega)]
   ·simp only [if_true, if_neg hl, Bool.false_eq_true, if_false]
    rw [if_neg (by omega)]
end
section
open Go.RowKit
theorem run_field128 (a b c : Value) (w : World) : (Instr.field 235 (.agg #[a, b, c]) 2).run Tryz.prog w = .ok c w := by
 simp [Instr.field, part, Sem.run_bind, run_underlying Tryz.underlying235, Tryz.isAgg4, Result.andThen, asAgg]
theorem compare112 (hM : MulOk) {n d m e : Int} (hn : inI64 n) (hd : inI64 d) (hm : inI64 m) (he : inI64 e) (w : World) : Calls Tryz.prog 183 #[.agg #[.int .i64 n, .int .i64 d], .agg #[.int .i64 m, .int .i64 e]] w fun x w' => x = .returned (.int .i64 (ratCmp n d m e)) /\ w.Gr w' := by
 have m1 := fun w => may127 hn hd w
 have m2 := fun w => may127 hm he w
 have t1 := fun w => times128 hM hm hd w
 have t2 := fun w => times128 hM hn he w
 have o1 := timesW_ok hm hd
 have o2 := timesW_ok hn he
 have pl := fun w => plus129 (timesW n e) ⟨(timesW m d).h, (timesW m d).l, !(timesW m d).m⟩ o2 ⟨o1.h, o1.l⟩ w
 have hR' : ratCmp n d m e = if mayB n d = true /\ mayB m e = true then if n = m /\ d = e then 0 else if (plusW (timesW n e) ⟨(timesW m d).h, (timesW m d).l, !(timesW m d).m⟩).m = true then -1 else 1 else 0 := rfl
 generalize ratCmp n d m e = R at *
 have HR := Hz hR'; clear hR' hM hn hd hm he o1 o2
 generalize timesW m d = T1 at *
 generalize timesW n e = T2 at *
 obtain ⟨h1, l1, b1⟩ := T1
 obtain ⟨h2, l2, b2⟩ := T2
 simp only at *
 generalize plusW ⟨h2, l2, b2⟩ ⟨h1, l1, !b1⟩ = T3 at *
 obtain ⟨h3, l3, b3⟩ := T3
 simp only [Wd.v] at t1 t2 pl
 have qa := heap_alloc_at w (.cells #[.int .i64 n, .int .i64 d] 207) _ rfl
 have qb := heap_alloc_at (w.alloc (.cells #[.int .i64 n, .int .i64 d] 207)) (.cells #[.int .i64 m, .int .i64 e] 207) (w.heap.size + 1) (by simp)
 have qa := heap_alloc_some qa (.cells #[.int .i64 m, .int .i64 e] 207)
 have q3 := (((World.Gr.refl w).alloc (.cells #[.int .i64 n, .int .i64 d] 207)).alloc (.cells #[.int .i64 m, .int .i64 e] 207))
 have H1 := Hz m1; have H2 := Hz m2; have H3 := Hz t1; have H4 := Hz t2; have H5 := Hz pl; clear m1 m2 t1 t2 pl
 have hfld := run_field128 (.int .u64 h3) (.int .u64 l3) (.bool b3)
 go_enter Tryz.func183, Tryz.ntmps183
 go_upto_region 1 with (fail)
 generalize hW : World.alloc (World.alloc w _) _ = W at *
 clear hW
 have Qa := Hz qa; have Qb := Hz qb; have Q3 := Hz q3; clear qa qb q3
 obtain ⟨x0, x1, xf⟩ := two' Qa.out
 obtain ⟨y0, y1, yf⟩ := two' Qb.out
 go_wp2_with fail
 refine (H1.out _).mono ?_
 rintro x w1 ⟨rfl, g1⟩
 have qa := g1.fr.heap Qa.out (by simp); have qb := g1.fr.heap Qb.out (by simp); have q3 := Q3.out.trans g1
 clear Qa Qb Q3 g1 x0 x1 xf y0 y1 yf
 have Qa := Hz qa; have Qb := Hz qb; have Q3 := Hz q3; clear qa qb q3
 obtain ⟨x0, x1, xf⟩ := two' Qa.out
 obtain ⟨y0, y1, yf⟩ := two' Qb.out
 cases hb1 : mayB n d with
 | false =>
  have hr : R = 0 := by rw [HR.out, if_neg (fun h => by rw [hb1] at h; exact Bool.noConfusion h.1)]
  subst hr
  clear HR
  go_wp2
  go_ret
  exact ⟨rfl, Q3.out⟩
 | true =>
  go_wp2_with fail
  refine (H2.out _).mono ?_
  rintro x w2 ⟨rfl, g1⟩
  have qa := g1.fr.heap Qa.out (by simp); have qb := g1.fr.heap Qb.out (by simp); have q3 := Q3.out.trans g1
  clear Qa Qb Q3 g1 x0 x1 xf y0 y1 yf
  have Qa := Hz qa; have Qb := Hz qb; have Q3 := Hz q3; clear qa qb q3
  obtain ⟨x0, x1, xf⟩ := two' Qa.out
  obtain ⟨y0, y1, yf⟩ := two' Qb.out
  cases hb2 : mayB m e with
  | false =>
   have hr : R = 0 := by rw [HR.out, if_neg (fun h => by rw [hb2] at h; exact Bool.noConfusion h.2)]
   subst hr
   clear HR
   go_wp2
   go_ret
   exact ⟨rfl, Q3.out⟩
  | true =>
   by_cases hs : n = m /\ d = e
   ·have hr : R = 0 := by rw [HR.out, if_pos ⟨hb1, hb2⟩, if_pos hs]
    obtain ⟨rfl, rfl⟩ := hs
    subst hr
    clear HR
    have hb3 : (n == n) = true := by simp
    have hb4 : (d == d) = true := by simp
    go_wp2
    go_ret
    exact ⟨rfl, Q3.out⟩
   ·have hr : R = if b3 = true then -1 else 1 := by rw [HR.out, if_pos ⟨hb1, hb2⟩, if_neg hs]
    clear HR
    have HR := Hz hr; clear hr hb1 hb2 H1 H2
    have hb3 : (n == m) = false ∨ (n == m) = true /\ (d == e) = false := by
     by_cases h : n = m
     ·exact .inr ⟨by simp [h], by simp; exact fun h2 => hs ⟨h, h2⟩⟩
     ·exact .inl (by simp [h])
    clear hs
    rcases hb3 with hb3 | ⟨hb3, hb4⟩
    ·go_wp2_with fail
     refine (H3.out _).mono ?_
     rintro x w3 ⟨rfl, g1⟩
     have qa := g1.fr.heap Qa.out (by simp); have qb := g1.fr.heap Qb.out (by simp); have q3 := Q3.out.trans g1
     clear Qa Qb Q3 g1 x0 x1 xf y0 y1 yf
     have hsz : w.heap.size + 1 < w3.heap.size := (Array.getElem?_eq_some_iff.1 qb).1
     have qc := heap_alloc_at w3 (.cells #[.int .u64 h1, .int .u64 l1, .bool b1] 235) _ rfl
     have qa := heap_alloc_some qa (.cells #[.int .u64 h1, .int .u64 l1, .bool b1] 235)
     have qb := heap_alloc_some qb (.cells #[.int .u64 h1, .int .u64 l1, .bool b1] 235)
     have q3 := q3.alloc (.cells #[.int .u64 h1, .int .u64 l1, .bool b1] 235)
     go_upto_region 4 with (fail)
     generalize hW : World.alloc w3 _ = w4 at *
     clear hW
     generalize w3.heap.size = s at *
     obtain ⟨z0, z1, z2, zf⟩ := three' qc
     have Qa := Hz (heap_set_other qa ⟨s, 2, none⟩ (by show w.heap.size ≠ s; omega) (.bool (!b1)))
     have Qb := Hz (heap_set_other qb ⟨s, 2, none⟩ (by show w.heap.size + 1 ≠ s; omega) (.bool (!b1)))
     have Qc := Hz (heap_set_same qc 2 (.bool (!b1)))
     have Q3 := Hz (q3.set (a := ⟨s, 2, none⟩) (by show w.heap.size <= s; omega) (.bool (!b1)))
     clear qa qb qc q3 hsz
     go_upto_region 5 with (fail)
     clear z0 z1 z2 zf
     generalize hW : World.setCell w4 _ _ = w5 at *
     clear hW
     obtain ⟨x0, x1, xf⟩ := two' Qa.out
     obtain ⟨y0, y1, yf⟩ := two' Qb.out
     obtain ⟨z0, z1, z2, zf⟩ := three' Qc.out
     go_region_with (first | (go_at_call 211; with_reducible refine (H4.out _).mono ?_; rintro x w6 ⟨rfl, g⟩; have qc6 := g.fr.heap (w := w5.drew) Qc.out (by simp); obtain ⟨u0, u1, u2, uf⟩ := three' qc6; have G6 := Hz (Q3.out.drew.trans g); clear g qc6) | (go_at_call 212; with_reducible refine (H5.out _).mono ?_; rintro x w7 ⟨rfl, g7⟩; have G7 := Hz (G6.out.trans g7); clear g7))
     all_goals
      cases b3 with
      | true =>
       have hr : R = -1 := HR.out
       subst hr
       go_wp2
       go_ret
       exact ⟨rfl, G7.out⟩
      | false =>
       have hr : R = 1 := HR.out
       subst hr
       go_wp2
       go_ret
       exact ⟨rfl, G7.out⟩
    ·go_wp2_with fail
     refine (H3.out _).mono ?_
     rintro x w3 ⟨rfl, g1⟩
     have qa := g1.fr.heap Qa.out (by simp); have qb := g1.fr.heap Qb.out (by simp); have q3 := Q3.out.trans g1
     clear Qa Qb Q3 g1 x0 x1 xf y0 y1 yf
     have hsz : w.heap.size + 1 < w3.heap.size := (Array.getElem?_eq_some_iff.1 qb).1
     have qc := heap_alloc_at w3 (.cells #[.int .u64 h1, .int .u64 l1, .bool b1] 235) _ rfl
     have qa := heap_alloc_some qa (.cells #[.int .u64 h1, .int .u64 l1, .bool b1] 235)
     have qb := heap_alloc_some qb (.cells #[.int .u64 h1, .int .u64 l1, .bool b1] 235)
     have q3 := q3.alloc (.cells #[.int .u64 h1, .int .u64 l1, .bool b1] 235)
     go_upto_region 4 with (fail)
     generalize hW : World.alloc w3 _ = w4 at *
     clear hW
     generalize w3.heap.size = s at *
     obtain ⟨z0, z1, z2, zf⟩ := three' qc
     have Qa := Hz (heap_set_other qa ⟨s, 2, none⟩ (by show w.heap.size ≠ s; omega) (.bool (!b1)))
     have Qb := Hz (heap_set_other qb ⟨s, 2, none⟩ (by show w.heap.size + 1 ≠ s; omega) (.bool (!b1)))
     have Qc := Hz (heap_set_same qc 2 (.bool (!b1)))
     have Q3 := Hz (q3.set (a := ⟨s, 2, none⟩) (by show w.heap.size <= s; omega) (.bool (!b1)))
     clear qa qb qc q3 hsz
     go_upto_region 5 with (fail)
     clear z0 z1 z2 zf
     generalize hW : World.setCell w4 _ _ = w5 at *
     clear hW
     obtain ⟨x0, x1, xf⟩ := two' Qa.out
     obtain ⟨y0, y1, yf⟩ := two' Qb.out
     obtain ⟨z0, z1, z2, zf⟩ := three' Qc.out
     go_region_with (first | (go_at_call 211; with_reducible refine (H4.out _).mono ?_; rintro x w6 ⟨rfl, g⟩; have qc6 := g.fr.heap (w := w5.drew) Qc.out (by simp); obtain ⟨u0, u1, u2, uf⟩ := three' qc6; have G6 := Hz (Q3.out.drew.trans g); clear g qc6) | (go_at_call 212; with_reducible refine (H5.out _).mono ?_; rintro x w7 ⟨rfl, g7⟩; have G7 := Hz (G6.out.trans g7); clear g7))
     all_goals
      cases b3 with
      | true =>
       have hr : R = -1 := HR.out
       subst hr
       go_wp2
       go_ret
       exact ⟨rfl, G7.out⟩
      | false =>
       have hr : R = 1 := HR.out
       subst hr
       go_wp2
       go_ret
       exact ⟨rfl, G7.out⟩
end
section
open Go.RowKit
theorem check88r (v : V) (hw : v.wf) (hk : v.k = 2) (w : World) : Calls Tryz.prog 181 #[vv v] w fun e w' => e = .returned (.int .i64 (vcheck v)) /\ w.Gr w' := by
 have ho := fun w => of109 hw.n hw.d w
 have hfr := fun w => fraction110 (v := v) w
 have heq := ratOf_eq hw.n hw.d
 obtain ⟨k, n, d, s⟩ := v
 simp only at hk ho hfr heq
 subst hk
 have hv : vcheck ⟨2, n, d, s⟩ = if s.size = 0 /\ ratOf n d = (n, d, 0) then 0 else 20 := by
  unfold vcheck
  rw [if_neg (show ¬ ((2 : Int) = 1) by decide), if_pos rfl]
  by_cases h : s.size = 0 /\ ratOk n d
  ·rw [if_pos h, if_pos ⟨h.1, heq.2 h.2⟩]
  ·rw [if_neg h, if_neg (fun q => h ⟨q.1, heq.1 q.2⟩)]
 generalize vcheck ⟨2, n, d, s⟩ = R at *
 generalize ratOf n d = T at *
 obtain ⟨r1, r2, r3⟩ := T
 simp only at ho
 have qa := heap_alloc_at w (.cells #[.int .i64 2, .int .i64 n, .int .i64 d, .string s] 83) _ rfl
 have q3 := (World.Gr.refl w).alloc (.cells #[.int .i64 2, .int .i64 n, .int .i64 d, .string s] 83)
 have HV := Hz hv; have HO := Hz ho; have HF := Hz hfr; clear hv ho hfr heq hw
 go_enter Tryz.func181, Tryz.ntmps181
 go_upto_region 1 with (fail)
 generalize hW : World.alloc w _ = W at *
 clear hW
 have Qa := Hz qa; have Q3 := Hz q3; clear qa q3
 have hx := four' Qa.out
 obtain ⟨x0, x1, x2, x3, xf⟩ := hx
 go_wp2_with fail
 refine (HO.out _).mono ?_
 rintro e w1 ⟨rfl, g1⟩
 have qa := g1.fr.heap Qa.out (by simp); have q3 := Q3.out.trans g1
 clear x0 x1 x2 x3 xf Qa Q3 g1
 have hsz : w.heap.size < w1.heap.size := (Array.getElem?_eq_some_iff.1 qa).1
 have qb := heap_alloc_at w1 (.cells #[.int .i64 r1, .int .i64 r2] 207) _ rfl
 have qa := heap_alloc_some qa (.cells #[.int .i64 r1, .int .i64 r2] 207)
 have q3 := q3.alloc (.cells #[.int .i64 r1, .int .i64 r2] 207)
 go_upto_region 8 with (fail)
 generalize hW : World.alloc w1 _ = w2 at *
 clear hW
 generalize w1.heap.size = p at *
 have Qa := Hz qa; have Qb := Hz qb; have Q3 := Hz q3; clear qa qb q3
 obtain ⟨x0, x1, x2, x3, xf⟩ := four' Qa.out
 obtain ⟨y0, y1, yf⟩ := two' Qb.out
 by_cases hs : s.size = 0
 ·have hs' : s = ⟨#[]⟩ := by
   cases s with | mk a => 
    have : a.size = 0 := hs
    rw [Array.eq_empty_of_size_eq_zero this]
  subst hs'
  by_cases hr3 : r3 = 0
  ·subst hr3
   simp only [vv] at HF
   refine (have hr : (r1 == n) = true /\ (r2 == d) = true /\ R = 0 ∨ (r1 == n) = false /\ R = 20 ∨ (r1 == n) = true /\ (r2 == d) = false /\ R = 20 := ?_; ?_)
   ·rw [HV.out]
    by_cases h1 : r1 = n
    ·by_cases h2 : r2 = d
     ·exact .inl ⟨by simp [h1], by simp [h2], by rw [if_pos ⟨hs, by rw [h1, h2]⟩]⟩
     ·exact .inr (.inr ⟨by simp [h1], by simp [h2], by rw [if_neg (fun h => h2 (by injection h.2 with _ h; injection h))]⟩)
    ·exact .inr (.inl ⟨by simp [h1], by rw [if_neg (fun h => h1 (by injection h.2))]⟩)
   clear hs HV
   rcases hr with ⟨g1, g2, hR⟩ | ⟨g1, hR⟩ | ⟨g1, g2, hR⟩
   all_goals
    subst hR
    go_region_with (first | (go_at_call 184; with_reducible refine (HF.out _).mono ?_; rintro x w6 ⟨rfl, g⟩; obtain ⟨u0, u1, uf⟩ := two' (g.fr.heap (w := w2.drew) Qb.out (by simp)); obtain ⟨v0, v1, v2, v3, vf⟩ := four' (g.fr.heap (w := w2.drew) Qa.out (by simp)); have G6 := Hz (Q3.out.drew.trans g); clear g))
   all_goals
    go_wp2
    go_ret
    exact ⟨rfl, G6.out⟩
  ·have hb3 : (r3 == 0) = false := by simp [hr3]
   have hb4 : (r3 != 0) = true := by simp [hr3]
   have hR : R = 20 := by rw [HV.out, if_neg (fun h => hr3 (by injection h.2 with _ h; injection h))]
   subst hR
   clear hr3 hs
   go_quiet (fail)
   go_wp2
   go_ret
   exact ⟨rfl, World.Gr.of_drewN Q3.out nq⟩
 ·have hR : R = 20 := by rw [HV.out, if_neg (fun h => hs h.1)]
  subst hR
  have hsb : s.toList.isEmpty = false := by rw [isEmpty_size]; exact decide_eq_false hs
  clear hs
  go_quiet (fail)
  go_wp2
  go_ret
  exact ⟨rfl, World.Gr.of_drewN Q3.out nq⟩
end
section
open Go.RowKit
theorem check88q (v : V) (hw : v.wf) (w : World) : Calls Tryz.prog 181 #[vv v] w fun e w' => e = .returned (.int .i64 (vcheck v)) /\ w.Gr w' := by
 by_cases hk : v.k = 2
 ·exact check88r v hw hk w
 ·exact check88 v hk w
theorem cfQ_rat {a b : V} (_ha : a.wf) (_hb : b.wf) : cfQ a b = if vcheck a ≠ 0 ∨ vcheck b ≠ 0 then 0 else if a.k ≠ b.k then Lib.compareInt a.k b.k else if a.k = 1 then Lib.compareInt a.n b.n else if a.k = 2 then ratCmp a.n a.d b.n b.d else Lib.compareBytes a.s.data.toList b.s.data.toList := by
 by_cases h : vcheck a ≠ 0 ∨ vcheck b ≠ 0
 ·unfold cfQ vcmpBy; rw [if_pos h, if_pos h]
 ·have h1 : vcheck a = 0 := by omega
  have h2 : vcheck b = 0 := by omega
  rw [cfQ_eq h1 h2, if_neg h]
  by_cases hk : a.k = 2
  ·by_cases hk2 : a.k = b.k
   ·have q1 := ok_rat h1 hk
    have q2 := ok_rat h2 (by omega)
    rw [ratCmp_eq q1.2 q2.2, rcQ]
   ·simp only [if_pos (show a.k ≠ b.k from hk2)]
  ·simp only [if_neg hk]
theorem compare89q (hM : MulOk) (a b : V) (ha : a.wf) (hb : b.wf) (w : World) : Calls Tryz.prog 146 #[vv a, vv b] w fun e w' => e = .returned (.int .i64 (cfQ a b)) /\ w.Gr w' := by
 have hca := check88q a ha
 have hcb := check88q b hb
 have hfa := fun w => fraction110 (v := a) w
 have hfb := fun w => fraction110 (v := b) w
 have hrc := fun w => compare112 hM ha.n ha.d hb.n hb.d w
 have hres := cfQ_rat ha hb
 obtain ⟨ak, an, ad, sa⟩ := a
 obtain ⟨bk, bn, bd, sb⟩ := b
 simp only at hrc hres
 rw [hres]
 generalize vcheck ⟨ak, an, ad, sa⟩ = ca at *
 generalize ratCmp an ad bn bd = RC at *
 generalize vcheck ⟨bk, bn, bd, sb⟩ = cb at *
 clear hres
 generalize hR : (if ca ≠ 0 ∨ cb ≠ 0 then (0 : Int) else if ak ≠ bk then Lib.compareInt ak bk else if ak = 1 then Lib.compareInt an bn else if ak = 2 then RC else Lib.compareBytes sa.data.toList sb.data.toList) = R
 have Hca := Hz hca; have Hcb := Hz hcb; have HR := Hz hR; have HFa := Hz hfa; have HFb := Hz hfb; have HRC := Hz hrc; clear hca hcb ha hb hR hfa hfb hrc
 have hp1 : (w.alloc (.cells #[.int .i64 ak, .int .i64 an, .int .i64 ad, .string sa] 83)).heap[w.heap.size]? = some (.cells #[.int .i64 ak, .int .i64 an, .int .i64 ad, .string sa] 83) := heap_alloc_at _ _ _ rfl
 have q1 : ((w.alloc (.cells #[.int .i64 ak, .int .i64 an, .int .i64 ad, .string sa] 83)).alloc (.cells #[.int .i64 bk, .int .i64 bn, .int .i64 bd, .string sb] 83)).heap[w.heap.size]? = some (.cells #[.int .i64 ak, .int .i64 an, .int .i64 ad, .string sa] 83 (0, 0)) := heap_alloc_some hp1 _
 have q2 : ((w.alloc (.cells #[.int .i64 ak, .int .i64 an, .int .i64 ad, .string sa] 83)).alloc (.cells #[.int .i64 bk, .int .i64 bn, .int .i64 bd, .string sb] 83)).heap[w.heap.size + 1]? = some (.cells #[.int .i64 bk, .int .i64 bn, .int .i64 bd, .string sb] 83 (0, 0)) := heap_alloc_at _ _ _ (by simp)
 have q3 : w.Gr ((w.alloc (.cells #[.int .i64 ak, .int .i64 an, .int .i64 ad, .string sa] 83)).alloc (.cells #[.int .i64 bk, .int .i64 bn, .int .i64 bd, .string sb] 83)) := ((World.Gr.refl w).alloc _).alloc _
 clear hp1
 go_enter Tryz.func146, Tryz.ntmps146
 go_upto_region 1 with (fail)
 generalize hW : World.alloc (World.alloc w _) _ = W at *
 clear hW
 obtain ⟨a0, a1, a2, a3, af⟩ := four q1
 obtain ⟨b0, b1, b2, b3, bf⟩ := four q2
 have Q1 := Hz q1; have Q2 := Hz q2; have Q3 := Hz q3; clear q1 q2 q3
 by_cases hA : ca = 0
 ·subst hA
  go_wp2_with fail
  refine (Hca.out _).mono ?_
  rintro e w1 ⟨rfl, hf1⟩
  clear a0 a1 a2 a3 af b0 b1 b2 b3 bf
  have q1 := hf1.fr.heap Q1.out (by simp)
  have q2 := hf1.fr.heap Q2.out (by simp)
  have q3 := Q3.out.trans hf1
  clear Q1 Q2 Q3 hf1
  obtain ⟨a0, a1, a2, a3, af⟩ := four q1
  obtain ⟨b0, b1, b2, b3, bf⟩ := four q2
  have Q1 := Hz q1; have Q2 := Hz q2; have Q3 := Hz q3; clear q1 q2 q3
  go_wp2_with fail
  refine (Hcb.out _).mono ?_
  rintro e w2 ⟨rfl, hf2⟩
  clear a0 a1 a2 a3 af b0 b1 b2 b3 bf
  have q1 := hf2.fr.heap Q1.out (by simp)
  have q2 := hf2.fr.heap Q2.out (by simp)
  have q3 := Q3.out.trans hf2
  clear Q1 Q2 Q3 hf2
  obtain ⟨a0, a1, a2, a3, af⟩ := four q1
  obtain ⟨b0, b1, b2, b3, bf⟩ := four q2
  have Q1 := Hz q1; have Q2 := Hz q2; have Q3 := Hz q3; clear q1 q2 q3
  by_cases hB : cb = 0
  ·subst hB
   by_cases hk : ak = bk
   ·subst hk
    have hkb : (ak == ak) = true := by simp
    have hkc : (ak != ak) = false := by simp
    by_cases h1 : ak = 1
    ·subst h1
     go_wp2_with fail
     refine (cmp111 _ _ _).mono ?_
     rintro e w3 ⟨rfl, rfl⟩
     go_wp2
     go_ret
     exact ⟨by rw [<- HR.out]; simp, Q3.out⟩
    ·have h1b : (ak == 1) = false := beq_eq_false_iff_ne.2 h1
     have H1 := Hz h1; clear h1
     by_cases h2 : ak = 2
     ·subst h2
      clear h1b
      have hr : R = RC := by rw [<- HR.out]; simp
      subst hr
      clear HR H1
      go_upto_region 8 with (fail)
      go_region_with (first | (go_at_call 184; with_reducible refine (HFa.out _).mono ?_; rintro x w6 ⟨rfl, g⟩; obtain ⟨c0, c1, c2, c3, cf⟩ := four (g.fr.heap (w := w2.drew) Q2.out (by simp)); have G6 := Hz (Q3.out.drew.trans g); clear g) | (go_at_call 184; with_reducible refine (HFb.out _).mono ?_; rintro x w7 ⟨rfl, g⟩; have G7 := Hz (G6.out.trans g); clear g) | (go_at_call 183; with_reducible refine (HRC.out _).mono ?_; rintro x w8 ⟨rfl, g⟩; have G8 := Hz (G7.out.trans g); clear g))
      all_goals
       go_wp2
       go_ret
       exact ⟨rfl, G8.out⟩
     ·have h2b : (ak == 2) = false := beq_eq_false_iff_ne.2 h2
      have H2 := Hz h2; clear h2
      go_wp2_with fail
      refine (Tryz.strings_Compare _ _ _).mono ?_
      rintro e w3 ⟨rfl, rfl⟩
      go_wp2
      go_ret
      exact ⟨by rw [<- HR.out]; simp [H1.out, H2.out], Q3.out⟩
   ·have hkb : (ak == bk) = false := beq_eq_false_iff_ne.2 hk
    have hkc : (ak != bk) = true := by simp [hk]
    have Hk := Hz hk; clear hk
    go_wp2_with fail
    refine (Tryz.cmp_Compare_int _ _ _).mono ?_
    rintro e w3 ⟨rfl, rfl⟩
    go_wp2
    go_ret
    exact ⟨by rw [<- HR.out]; simp [Hk.out], Q3.out⟩
  ·have hBb : (cb == 0) = false := beq_eq_false_iff_ne.2 hB
   have HB := Hz hB; clear hB
   go_wp2
   go_ret
   exact ⟨by rw [<- HR.out]; simp [HB.out], Q3.out⟩
 ·have hAb : (ca == 0) = false := beq_eq_false_iff_ne.2 hA
  have HA := Hz hA; clear hA
  go_wp2_with fail
  refine (Hca.out _).mono ?_
  rintro e w1 ⟨rfl, hf1⟩
  have q3 := Q3.out.trans hf1
  have Q3' := Hz q3; clear q3 hf1 a0 a1 a2 a3 af b0 b1 b2 b3 bf
  go_wp2
  go_ret
  exact ⟨by rw [<- HR.out]; simp [HA.out], Q3'.out⟩
theorem knownQ (hM : MulOk) : Known (fun v => v.wf) cfQ := ⟨fun v w hv => check88q v hv w, fun a b w ha hb => compare89q hM a b ha hb w⟩
theorem ordQ' : OrdOk (fun v => V.wf v /\ vcheck v = 0) cfQ := ⟨fun a ha => ordQ.self a ha.2, fun a b ha hb h => ordQ.zero a b ha.2 hb.2 h, fun a b ha hb => ordQ.anti a b ha.2 hb.2, fun a b c ha hb hc h1 h2 => ordQ.trans a b c ha.2 hb.2 hc.2 h1 h2⟩
theorem ctxQ (hM : MulOk) : Ctx (fun v => v.wf) cfQ := ⟨knownQ hM, ordQ'⟩
end
end Go.Proofs.YtbejmdlncnkaaaaGreat
