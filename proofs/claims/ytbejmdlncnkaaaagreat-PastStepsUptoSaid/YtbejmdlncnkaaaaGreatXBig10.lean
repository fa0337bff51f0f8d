/-
  The document's fractions: Compare. The document's values: Compare.
-/
import Derived.Test.YtbejmdlncnkaaaaGreatNumC
import Derived.Test.YtbejmdlncnkaaaaGreatNumA
import Derived.Test.YtbejmdlncnkaaaaGreatFraB
set_option maxRecDepth 100000
set_option maxHeartbeats 16000000
set_option linter.unusedSimpArgs false
namespace Go.Proofs.YtbejmdlncnkaaaaGreat
section
open Go.RowKit
def refCmp (n d m e : Int) : Int :=
 if mayB n d = true /\ mayB m e = true then
  if n < 0 /\ 0 <= m then -1 else if 0 <= n /\ m < 0 then 1 else if n < 0 then Lib.compareInt (m.natAbs * d.natAbs : Nat) (n.natAbs * e.natAbs : Nat) else Lib.compareInt (n.natAbs * e.natAbs : Nat) (m.natAbs * d.natAbs : Nat)
 else 0
theorem may_iff {n d : Int} : mayB n d = true ↔ 0 < d /\ Nat.gcd n.natAbs d.natAbs = 1 := by
 unfold mayB; rw [Bool.and_eq_true, decide_eq_true_eq, decide_eq_true_eq]
theorem refCmp_eq (n d m e : Int) : refCmp n d m e = ratCmp n d m e := by
 by_cases hb : mayB n d = true /\ mayB m e = true
 ·have h1 := may_iff.1 hb.1
  have h2 := may_iff.1 hb.2
  rw [ratCmp_eq h1 h2]
  unfold refCmp
  rw [if_pos hb]
  have z1 : n * e = if n < 0 then -((n.natAbs * e.natAbs : Nat) : Int) else ((n.natAbs * e.natAbs : Nat) : Int) := by
   split
   ·rw [Int.natCast_mul, <- Int.neg_mul, show -(n.natAbs : Int) = n by omega, show (e.natAbs : Int) = e by omega]
   ·rw [Int.natCast_mul, show (n.natAbs : Int) = n by omega, show (e.natAbs : Int) = e by omega]
  have z2 : m * d = if m < 0 then -((m.natAbs * d.natAbs : Nat) : Int) else ((m.natAbs * d.natAbs : Nat) : Int) := by
   split
   ·rw [Int.natCast_mul, <- Int.neg_mul, show -(m.natAbs : Int) = m by omega, show (d.natAbs : Int) = d by omega]
   ·rw [Int.natCast_mul, show (m.natAbs : Int) = m by omega, show (d.natAbs : Int) = d by omega]
  have p1 : n < 0 -> 0 < n.natAbs * e.natAbs := fun h => Nat.mul_pos (by omega) (by omega)
  have p2 : m < 0 -> 0 < m.natAbs * d.natAbs := fun h => Nat.mul_pos (by omega) (by omega)
  have heq : n * e = m * d ↔ n = m /\ d = e := ⟨fun h => frac_eq h1.1 h2.1 h1.2 h2.2 h, fun h => by rw [h.1, h.2]⟩
  have hset : (if n = m /\ d = e then (0 : Int) else if n * e < m * d then -1 else 1) = if n * e = m * d then 0 else if n * e < m * d then -1 else 1 := by
   by_cases h : n = m /\ d = e
   ·rw [if_pos h, if_pos (heq.2 h)]
   ·rw [if_neg h, if_neg (fun k => h (heq.1 k))]
  rw [hset]
  clear hset heq h1 h2 hb
  generalize n.natAbs * e.natAbs = X at *
  generalize m.natAbs * d.natAbs = Y at *
  generalize n * e = NE at *
  generalize m * d = MD at *
  unfold Lib.compareInt
  by_cases q1 : n < 0 <;> by_cases q2 : m < 0
  ·have := p1 q1
   rw [if_pos q1] at z1; rw [if_pos q2] at z2
   rw [if_neg (by omega), if_neg (by omega), if_pos q1]
   by_cases h3 : (Y : Int) < X
   ·rw [if_pos h3, if_neg (by omega), if_pos (by omega)]
   ·rw [if_neg h3]
    by_cases h4 : (X : Int) < Y
    ·rw [if_pos h4, if_neg (by omega), if_neg (by omega)]
    ·rw [if_neg h4, if_pos (by omega)]
  ·have := p1 q1
   rw [if_pos q1] at z1; rw [if_neg q2] at z2
   rw [if_pos (by omega), if_neg (by omega), if_pos (by omega)]
  ·have := p2 q2
   rw [if_neg q1] at z1; rw [if_pos q2] at z2
   rw [if_neg (by omega), if_pos (by omega), if_neg (by omega), if_neg (by omega)]
  ·rw [if_neg q1] at z1; rw [if_neg q2] at z2
   rw [if_neg (by omega), if_neg (by omega), if_neg q1]
   by_cases h3 : (X : Int) < Y
   ·rw [if_pos h3, if_neg (by omega), if_pos (by omega)]
   ·rw [if_neg h3]
    by_cases h4 : (Y : Int) < X
    ·rw [if_pos h4, if_neg (by omega), if_neg (by omega)]
    ·rw [if_neg h4, if_pos (by omega)]
 ·unfold refCmp ratCmp
  rw [if_neg hb, if_neg hb]
theorem rcompare117 {n d m e : Int} (hn : inI64 n) (hd : inI64 d) (hm : inI64 m) (he : inI64 e) (w : World) : Calls Tryz.prog 245 #[.agg #[.int .i64 n, .int .i64 d], .agg #[.int .i64 m, .int .i64 e]] w fun x w' => x = .returned (.int .i64 (ratCmp n d m e)) /\ w.Gr w' := by
 rw [<- refCmp_eq]
 have hR' : refCmp n d m e = if mayB n d = true /\ mayB m e = true then if n < 0 /\ 0 <= m then -1 else if 0 <= n /\ m < 0 then 1 else if n < 0 then Lib.compareInt (m.natAbs * d.natAbs : Nat) (n.natAbs * e.natAbs : Nat) else Lib.compareInt (n.natAbs * e.natAbs : Nat) (m.natAbs * d.natAbs : Nat) else 0 := rfl
 have m1 := fun w => rmay115 hn hd w
 have m2 := fun w => rmay115 hm he w
 have s1 := fun w => rsize133 hn w
 have s2 := fun w => rsize133 hm w
 have bn : n.natAbs <= 9223372036854775808 := by have := hn.1; have := hn.2; omega
 have bd : d.natAbs <= 9223372036854775808 := by have := hd.1; have := hd.2; omega
 have bm : m.natAbs <= 9223372036854775808 := by have := hm.1; have := hm.2; omega
 have be : e.natAbs <= 9223372036854775808 := by have := he.1; have := he.2; omega
 have t1 := fun w => rtimes132 (x := n.natAbs) (y := e.natAbs) (by omega) (by omega) w
 have t2 := fun w => rtimes132 (x := m.natAbs) (y := d.natAbs) (by omega) (by omega) w
 have b1 : n.natAbs * e.natAbs <= 9223372036854775808 * 9223372036854775808 := Nat.mul_le_mul bn be
 have b2 : m.natAbs * d.natAbs <= 9223372036854775808 * 9223372036854775808 := Nat.mul_le_mul bm bd
 have k1 := fun w => rcompare134 (a := m.natAbs * d.natAbs) (b := n.natAbs * e.natAbs) (by omega) (by omega) w
 have k2 := fun w => rcompare134 (a := n.natAbs * e.natAbs) (b := m.natAbs * d.natAbs) (by omega) (by omega) w
 have wd : mayB n d = true -> IntKind.u64.wrap d = (d.natAbs : Int) := fun h => by have := (may_iff.1 h).1; rw [IntWalk.u64_in _ (by have := hd.2; omega)]; omega
 have we : mayB m e = true -> IntKind.u64.wrap e = (e.natAbs : Int) := fun h => by have := (may_iff.1 h).1; rw [IntWalk.u64_in _ (by have := he.2; omega)]; omega
 generalize refCmp n d m e = R at *
 generalize Lib.compareInt (m.natAbs * d.natAbs : Nat) (n.natAbs * e.natAbs : Nat) = cA at *
 generalize Lib.compareInt (n.natAbs * e.natAbs : Nat) (m.natAbs * d.natAbs : Nat) = cB at *
 generalize n.natAbs * e.natAbs = X at *
 generalize m.natAbs * d.natAbs = Y at *
 generalize mayB n d = B1 at *
 generalize mayB m e = B2 at *
 have hdn := Hz (show (n < 0 ↔ decide (n < 0) = true) from (decide_eq_true_iff).symm)
 generalize n.natAbs = na at *
 generalize d.natAbs = da at *
 generalize m.natAbs = ma at *
 generalize e.natAbs = ea at *
 have HR := Hz hR'; have M1 := Hz m1; have M2 := Hz m2; have S1 := Hz s1; have S2 := Hz s2; have T1 := Hz t1; have T2 := Hz t2; have K1 := Hz k1; have K2 := Hz k2; have WD := Hz wd; have WE := Hz we
 clear hR' m1 m2 s1 s2 t1 t2 k1 k2 wd we hn hd hm he bn bd bm be b1 b2 hdn
 have qa := heap_alloc_at w (.cells #[.int .i64 n, .int .i64 d] 227) _ rfl
 have qb := heap_alloc_at (w.alloc (.cells #[.int .i64 n, .int .i64 d] 227)) (.cells #[.int .i64 m, .int .i64 e] 227) (w.heap.size + 1) (by simp)
 have qa := heap_alloc_some qa (.cells #[.int .i64 m, .int .i64 e] 227)
 have q3 := (((World.Gr.refl w).alloc (.cells #[.int .i64 n, .int .i64 d] 227)).alloc (.cells #[.int .i64 m, .int .i64 e] 227))
 go_enter Tryz.func245, Tryz.ntmps245
 go_upto_region 1 with (fail)
 generalize hW : World.alloc (World.alloc w _) _ = W at *
 clear hW
 have Qa := Hz qa; have Qb := Hz qb; have Q3 := Hz q3; clear qa qb q3
 obtain ⟨x0, x1, xf⟩ := two' Qa.out
 obtain ⟨y0, y1, yf⟩ := two' Qb.out
 go_wp2_with fail
 with_reducible refine (M1.out _).mono ?_
 rintro x w1 ⟨rfl, g1⟩
 have qa := g1.fr.heap Qa.out (by simp); have qb := g1.fr.heap Qb.out (by simp); have q3 := Q3.out.trans g1
 clear Qa Qb Q3 g1 x0 x1 xf y0 y1 yf
 have Qa := Hz qa; have Qb := Hz qb; have Q3 := Hz q3; clear qa qb q3
 obtain ⟨x0, x1, xf⟩ := two' Qa.out
 obtain ⟨y0, y1, yf⟩ := two' Qb.out
 go_wp2_with fail
 with_reducible refine (M2.out _).mono ?_
 rintro x w2 ⟨rfl, g1⟩
 have qa := g1.fr.heap Qa.out (by simp); have qb := g1.fr.heap Qb.out (by simp); have q3 := Q3.out.trans g1
 clear Qa Qb Q3 g1 x0 x1 xf y0 y1 yf
 have Qa := Hz qa; have Qb := Hz qb; have Q3 := Hz q3; clear qa qb q3
 obtain ⟨x0, x1, xf⟩ := two' Qa.out
 obtain ⟨y0, y1, yf⟩ := two' Qb.out
 cases B1 with
 | false =>
  have hr : R = 0 := by rw [HR.out, if_neg (fun h => Bool.noConfusion h.1)]
  subst hr
  clear HR
  go_wp2
  go_ret
  exact ⟨rfl, Q3.out⟩
 | true =>
  cases B2 with
  | false =>
   have hr : R = 0 := by rw [HR.out, if_neg (fun h => Bool.noConfusion h.2)]
   subst hr
   clear HR
   go_wp2
   go_ret
   exact ⟨rfl, Q3.out⟩
  | true =>
   have hr := HR.out
   rw [if_pos ⟨rfl, rfl⟩] at hr
   clear HR
   have HR := Hz hr
   have wd := WD.out rfl
   have we := WE.out rfl
   clear hr WD WE
   go_upto_region 5 with (fail)
   have hsz : w.heap.size + 1 < w2.heap.size := (Array.getElem?_eq_some_iff.1 Qb.out).1
   have hsy : w.heap.size < w2.heap.size := by omega
   go_cut [7] (fun s7 wx => ∃ p, s7 = .pointer (some ⟨p, 0, none⟩) /\ Hid (wx.heap[p]? = some (.cells (bigC X) 279 (0, 0)) /\ wx.heap[w.heap.size]? = some (.cells #[.int .i64 n, .int .i64 d] 227 (0, 0)) /\ wx.heap[w.heap.size + 1]? = some (.cells #[.int .i64 m, .int .i64 e] 227 (0, 0)) /\ w.Gr wx))
   case first =>
    go_region_with (first | (go_at_call 265; with_reducible refine (S1.out _).mono ?_; rintro x w3 ⟨rfl, rfl⟩) | (go_at_call 267; with_reducible refine (T1.out _).mono ?_; rintro x w4 ⟨rfl, g⟩; first | (have G4 := Hz (Q3.out.drew.trans g); have A4 := Hz (g.fr.heap (w := w2.drew) Qa.out (by simp)); have B4 := Hz (g.fr.heap (w := w2.drew) Qb.out (by simp)); clear g) | (have G4 := Hz ((Q3.out.alloc (.cells (dcells 0 0 0 0) 279)).drew.trans g); have A4 := Hz (g.fr.heap (w := (w2.alloc (.cells (dcells 0 0 0 0) 279)).drew) (heap_alloc_some Qa.out _) (by simp)); have B4 := Hz (g.fr.heap (w := (w2.alloc (.cells (dcells 0 0 0 0) 279)).drew) (heap_alloc_some Qb.out _) (by simp)); have Z4 := Hz (g.fr.heap (w := (w2.alloc (.cells (dcells 0 0 0 0) 279)).drew) (heap_alloc_at w2 _ _ rfl) (by simp)); obtain ⟨z0, z1, z2, z3, zf⟩ := four' Z4.out; clear g)))
    all_goals
     go_wp2_with fail
     go_meet
     case rel => first | exact ⟨_, rfl, Hz ⟨four_set Z4.out _ _ _ _, four_keep A4.out (by omega) _ _ _ _, four_keep B4.out (by omega) _ _ _ _, four_gr G4.out (by omega) _ _ _ _⟩⟩ | exact ⟨_, rfl, Hz ⟨heap_alloc_at _ _ _ rfl, heap_alloc_some A4.out _, heap_alloc_some B4.out _, G4.out.alloc _⟩⟩
   case rest =>
    obtain ⟨p, rfl, hcc⟩ := hcut
    obtain ⟨hx, qa, qb, q3⟩ := hcc.out
    clear Qa Qb Q3 hcc x0 x1 xf y0 y1 yf
    have Qa := Hz qa; have Qb := Hz qb; have Q3 := Hz q3; have QX := Hz hx; clear qa qb q3 hx
    obtain ⟨x0, x1, xf⟩ := two' Qa.out
    obtain ⟨y0, y1, yf⟩ := two' Qb.out
    have hsz : w.heap.size + 1 < wc.heap.size := (Array.getElem?_eq_some_iff.1 Qb.out).1
    have hsy : w.heap.size < wc.heap.size := by omega
    have hpz : p < wc.heap.size := (Array.getElem?_eq_some_iff.1 QX.out).1
    go_upto_region 6 with (fail)
    go_cut [8] (fun s8 wx => ∃ q, s8 = .pointer (some ⟨q, 0, none⟩) /\ Hid (wx.heap[q]? = some (.cells (bigC Y) 279 (0, 0)) /\ wx.heap[w.heap.size]? = some (.cells #[.int .i64 n, .int .i64 d] 227 (0, 0)) /\ wx.heap[w.heap.size + 1]? = some (.cells #[.int .i64 m, .int .i64 e] 227 (0, 0)) /\ wx.heap[p]? = some (.cells (bigC X) 279 (0, 0)) /\ w.Gr wx))
    case first =>
     go_region_with (first | (go_at_call 265; with_reducible refine (S2.out _).mono ?_; rintro x w3 ⟨rfl, rfl⟩) | (go_at_call 267; with_reducible refine (T2.out _).mono ?_; rintro x w4 ⟨rfl, g⟩; first | (have G4 := Hz (Q3.out.drew.trans g); have A4 := Hz (g.fr.heap (w := wc.drew) Qa.out (by simp)); have B4 := Hz (g.fr.heap (w := wc.drew) Qb.out (by simp)); have X4 := Hz (g.fr.heap (w := wc.drew) QX.out (by simp)); clear g) | (have G4 := Hz ((Q3.out.alloc (.cells (dcells 0 0 0 0) 279)).drew.trans g); have A4 := Hz (g.fr.heap (w := (wc.alloc (.cells (dcells 0 0 0 0) 279)).drew) (heap_alloc_some Qa.out _) (by simp)); have B4 := Hz (g.fr.heap (w := (wc.alloc (.cells (dcells 0 0 0 0) 279)).drew) (heap_alloc_some Qb.out _) (by simp)); have X4 := Hz (g.fr.heap (w := (wc.alloc (.cells (dcells 0 0 0 0) 279)).drew) (heap_alloc_some QX.out _) (by simp)); have Z4 := Hz (g.fr.heap (w := (wc.alloc (.cells (dcells 0 0 0 0) 279)).drew) (heap_alloc_at wc _ _ rfl) (by simp)); obtain ⟨z0, z1, z2, z3, zf⟩ := four' Z4.out; clear g)))
     all_goals
      go_wp2_with fail
      go_meet
      case rel => first | exact ⟨_, rfl, Hz ⟨four_set Z4.out _ _ _ _, four_keep A4.out (by omega) _ _ _ _, four_keep B4.out (by omega) _ _ _ _, four_keep X4.out (by omega) _ _ _ _, four_gr G4.out (by omega) _ _ _ _⟩⟩ | exact ⟨_, rfl, Hz ⟨heap_alloc_at _ _ _ rfl, heap_alloc_some A4.out _, heap_alloc_some B4.out _, heap_alloc_some X4.out _, G4.out.alloc _⟩⟩
    case rest =>
     obtain ⟨q, rfl, hcc⟩ := hcut
     obtain ⟨hy, qa, qb, hx, q3⟩ := hcc.out
     clear Qa Qb Q3 QX hcc x0 x1 xf y0 y1 yf hsz hsy hpz
     obtain ⟨x0, x1, xf⟩ := two' qa
     obtain ⟨y0, y1, yf⟩ := two' qb
     obtain ⟨u0, u1, u2, u3, uf⟩ := four' hx
     obtain ⟨v0, v1, v2, v3, vf⟩ := four' hy
     clear qa qb hx hy
     by_cases h1 : n < 0
     ·have d1 : decide (n < 0) = true := decide_eq_true h1
      have d2 : decide (0 <= n) = false := decide_eq_false (by omega)
      by_cases h2 : m < 0
      ·have d3 : decide (m < 0) = true := decide_eq_true h2
       have d4 : decide (0 <= m) = false := decide_eq_false (by omega)
       have hr : R = cA := by rw [HR.out, if_neg (by omega), if_neg (by omega), if_pos h1]
       subst hr
       clear h1 h2 HR
       go_wp2_with fail
       with_reducible refine (K1.out _).mono ?_
       rintro x w9 ⟨rfl, g⟩
       have q9 := q3.trans g
       clear x0 x1 xf y0 y1 yf u0 u1 u2 u3 uf v0 v1 v2 v3 vf
       go_wp2
       go_ret
       exact ⟨rfl, q9⟩
      ·have d3 : decide (m < 0) = false := decide_eq_false h2
       have d4 : decide (0 <= m) = true := decide_eq_true (by omega)
       have hr : R = -1 := by rw [HR.out, if_pos (by omega)]
       subst hr
       clear h1 h2 HR
       go_wp2
       go_ret
       exact ⟨rfl, q3⟩
     ·have d1 : decide (n < 0) = false := decide_eq_false h1
      have d2 : decide (0 <= n) = true := decide_eq_true (by omega)
      by_cases h2 : m < 0
      ·have d3 : decide (m < 0) = true := decide_eq_true h2
       have d4 : decide (0 <= m) = false := decide_eq_false (by omega)
       have hr : R = 1 := by rw [HR.out, if_neg (by omega), if_pos (by omega)]
       subst hr
       clear h1 h2 HR
       go_wp2
       go_ret
       exact ⟨rfl, q3⟩
      ·have d3 : decide (m < 0) = false := decide_eq_false h2
       have d4 : decide (0 <= m) = true := decide_eq_true (by omega)
       have hr : R = cB := by rw [HR.out, if_neg (by omega), if_neg (by omega), if_neg h1]
       subst hr
       clear h1 h2 HR
       go_wp2_with fail
       with_reducible refine (K2.out _).mono ?_
       rintro x w9 ⟨rfl, g⟩
       have q9 := q3.trans g
       clear x0 x1 xf y0 y1 yf u0 u1 u2 u3 uf v0 v1 v2 v3 vf
       go_wp2
       go_ret
       exact ⟨rfl, q9⟩
end
section
open Go.RowKit
theorem rcompare92 (a b : V) (ha : a.wf) (hb : b.wf) (w : World) : Calls Tryz.prog 204 #[vv a, vv b] w fun e w' => e = .returned (.int .i64 (cfQ a b)) /\ w.Gr w' := by
 have hca := rcheck91 a ha
 have hcb := rcheck91 b hb
 have hfa := fun w => rfraction116 a w
 have hfb := fun w => rfraction116 b w
 have hrc := fun w => rcompare117 ha.n ha.d hb.n hb.d w
 have htx := fun w => rtexts118 (s := a.s) (t := b.s) ha.s w
 have hres := cfQ_rat ha hb
 obtain ⟨ak, an, ad, sa⟩ := a
 obtain ⟨bk, bn, bd, sb⟩ := b
 simp only [vv] at hca hcb hfa hfb hrc htx hres
 generalize cfQ ⟨ak, an, ad, sa⟩ ⟨bk, bn, bd, sb⟩ = R at *
 generalize vcheck ⟨ak, an, ad, sa⟩ = ca at *
 generalize vcheck ⟨bk, bn, bd, sb⟩ = cb at *
 generalize ratCmp an ad bn bd = RC at *
 generalize Lib.compareBytes sa.data.toList sb.data.toList = TX at *
 have HR := Hz hres; have Hca := Hz hca; have Hcb := Hz hcb; have HFa := Hz hfa; have HFb := Hz hfb; have HRC := Hz hrc; have HTX := Hz htx
 clear hres hca hcb hfa hfb hrc htx ha hb
 have q1 := heap_alloc_at w (.cells #[.int .i64 ak, .int .i64 an, .int .i64 ad, .string sa] 83) _ rfl
 have q2 := heap_alloc_at (w.alloc (.cells #[.int .i64 ak, .int .i64 an, .int .i64 ad, .string sa] 83)) (.cells #[.int .i64 bk, .int .i64 bn, .int .i64 bd, .string sb] 83) (w.heap.size + 1) (by simp)
 have q1 := heap_alloc_some q1 (.cells #[.int .i64 bk, .int .i64 bn, .int .i64 bd, .string sb] 83)
 have q3 := ((World.Gr.refl w).alloc (.cells #[.int .i64 ak, .int .i64 an, .int .i64 ad, .string sa] 83)).alloc (.cells #[.int .i64 bk, .int .i64 bn, .int .i64 bd, .string sb] 83)
 go_enter Tryz.func204, Tryz.ntmps204
 go_upto_region 1 with (fail)
 generalize hW : World.alloc (World.alloc w _) _ = W at *
 clear hW
 obtain ⟨a0, a1, a2, a3, af⟩ := four' q1
 obtain ⟨b0, b1, b2, b3, bf⟩ := four' q2
 have Q1 := Hz q1; have Q2 := Hz q2; have Q3 := Hz q3; clear q1 q2 q3
 go_wp2_with fail
 with_reducible refine (Hca.out _).mono ?_
 rintro e w1 ⟨rfl, hf1⟩
 clear a0 a1 a2 a3 af b0 b1 b2 b3 bf
 have q1 := hf1.fr.heap Q1.out (by simp)
 have q2 := hf1.fr.heap Q2.out (by simp)
 have q3 := Q3.out.trans hf1
 clear Q1 Q2 Q3 hf1
 obtain ⟨a0, a1, a2, a3, af⟩ := four' q1
 obtain ⟨b0, b1, b2, b3, bf⟩ := four' q2
 have Q1 := Hz q1; have Q2 := Hz q2; have Q3 := Hz q3; clear q1 q2 q3
 go_wp2_with fail
 with_reducible refine (Hcb.out _).mono ?_
 rintro e w2 ⟨rfl, hf2⟩
 clear a0 a1 a2 a3 af b0 b1 b2 b3 bf
 have q1 := hf2.fr.heap Q1.out (by simp)
 have q2 := hf2.fr.heap Q2.out (by simp)
 have q3 := Q3.out.trans hf2
 clear Q1 Q2 Q3 hf2
 obtain ⟨a0, a1, a2, a3, af⟩ := four' q1
 obtain ⟨b0, b1, b2, b3, bf⟩ := four' q2
 have Q1 := Hz q1; have Q2 := Hz q2; have Q3 := Hz q3; clear q1 q2 q3
 by_cases hA : ca = 0
 ·have hAb : (ca == 0) = true := by simp [hA]
  have hAc : (ca != 0) = false := by simp [hA]
  by_cases hB : cb = 0
  ·have hBb : (cb == 0) = true := by simp [hB]
   have hBc : (cb != 0) = false := by simp [hB]
   have hr := HR.out
   rw [if_neg (by omega)] at hr
   clear HR hA hB
   by_cases hk : ak = bk
   ·subst hk
    rw [if_neg (by simp)] at hr
    have hkb : (ak == ak) = true := by simp
    have hkc : (ak != ak) = false := by simp
    by_cases h2 : ak = 2
    ·subst h2
     rw [if_neg (by decide), if_pos rfl] at hr
     subst hr
     go_upto_region 6 with (fail)
     go_region_with (first | (go_at_call 203; with_reducible refine (HFa.out _).mono ?_; rintro x w6 ⟨rfl, g⟩; obtain ⟨c0, c1, c2, c3, cf⟩ := four' (g.fr.heap (w := w2.drew) Q2.out (by simp)); have G6 := Hz (Q3.out.drew.trans g); clear g) | (go_at_call 203; with_reducible refine (HFb.out _).mono ?_; rintro x w7 ⟨rfl, g⟩; have G7 := Hz (G6.out.trans g); clear g) | (go_at_call 245; with_reducible refine (HRC.out _).mono ?_; rintro x w8 ⟨rfl, g⟩; have G8 := Hz (G7.out.trans g); clear g))
     all_goals
      go_wp2
      go_ret
      exact ⟨rfl, G8.out⟩
    ·have h2b : (ak == 2) = false := beq_eq_false_iff_ne.2 h2
     by_cases h1 : ak = 1
     ·subst h1
      rw [if_pos rfl] at hr
      clear h2
      rcases Int.lt_trichotomy an bn with h | h | h
      ·have d1 : decide (an < bn) = true := decide_eq_true h
       have hr2 : R = -1 := by rw [hr]; unfold Lib.compareInt; rw [if_pos h]
       subst hr2
       clear h hr
       go_wp2
       go_ret
       exact ⟨rfl, Q3.out⟩
      ·have d1 : decide (an < bn) = false := decide_eq_false (by omega)
       have d2 : decide (bn < an) = false := decide_eq_false (by omega)
       have hr2 : R = 0 := by rw [hr]; unfold Lib.compareInt; rw [if_neg (by omega), if_neg (by omega)]
       subst hr2
       clear h hr
       go_wp2
       go_ret
       exact ⟨rfl, Q3.out⟩
      ·have d1 : decide (an < bn) = false := decide_eq_false (by omega)
       have d2 : decide (bn < an) = true := decide_eq_true h
       have hr2 : R = 1 := by rw [hr]; unfold Lib.compareInt; rw [if_neg (by omega), if_pos h]
       subst hr2
       clear h hr
       go_wp2
       go_ret
       exact ⟨rfl, Q3.out⟩
     ·have h1b : (ak == 1) = false := beq_eq_false_iff_ne.2 h1
      rw [if_neg h1, if_neg h2] at hr
      subst hr
      clear h1 h2
      go_wp2_with fail
      with_reducible refine (HTX.out _).mono ?_
      rintro e w3 ⟨rfl, g⟩
      have q9 := Q3.out.trans g
      clear a0 a1 a2 a3 af b0 b1 b2 b3 bf Q1 Q2 Q3
      go_wp2
      go_ret
      exact ⟨rfl, q9⟩
   ·rw [if_pos hk] at hr
    have hkb : (ak == bk) = false := beq_eq_false_iff_ne.2 hk
    have hkc : (ak != bk) = true := by simp [hk]
    have h22 : (ak == 2) = false ∨ (ak == 2) = true /\ (bk == 2) = false := by
     by_cases h : ak = 2
     ·exact .inr ⟨by simp [h], by simp; omega⟩
     ·exact .inl (by simp [h])
    rcases Int.lt_or_gt_of_ne hk with h | h
    ·have d1 : decide (ak < bk) = true := decide_eq_true h
     have hr2 : R = -1 := by rw [hr]; unfold Lib.compareInt; rw [if_pos h]
     subst hr2
     clear h hr hk
     rcases h22 with h22 | ⟨h22, h23⟩
     ·go_wp2
      go_ret
      exact ⟨rfl, Q3.out⟩
     ·go_wp2
      go_ret
      exact ⟨rfl, Q3.out⟩
    ·have d1 : decide (ak < bk) = false := decide_eq_false (by omega)
     have hr2 : R = 1 := by rw [hr]; unfold Lib.compareInt; rw [if_neg (by omega), if_pos h]
     subst hr2
     clear h hr hk
     rcases h22 with h22 | ⟨h22, h23⟩
     ·go_wp2
      go_ret
      exact ⟨rfl, Q3.out⟩
     ·go_wp2
      go_ret
      exact ⟨rfl, Q3.out⟩
  ·have hBb : (cb == 0) = false := beq_eq_false_iff_ne.2 hB
   have hBc : (cb != 0) = true := by simp [hB]
   have hr : R = 0 := by rw [HR.out, if_pos (.inr hB)]
   subst hr
   clear HR hA hB
   go_wp2
   go_ret
   exact ⟨rfl, Q3.out⟩
 ·have hAb : (ca == 0) = false := beq_eq_false_iff_ne.2 hA
  have hAc : (ca != 0) = true := by simp [hA]
  have hr : R = 0 := by rw [HR.out, if_pos (.inl hA)]
  subst hr
  clear HR hA
  go_wp2
  go_ret
  exact ⟨rfl, Q3.out⟩
end
end Go.Proofs.YtbejmdlncnkaaaaGreat
