/-
  The document's fractions: Compare.
-/
import Derived.Test.YtbejmdlncnkaaaaGreatNumC
import Derived.Test.YtbejmdlncnkaaaaGreatNumA
namespace Go.Proofs.YtbejmdlncnkaaaaGreat
open Go.RowKit

/-- how two fractions stand, as the document reckons it -/
def refCmp (n d m e : Int) : Int :=
  if mayB n d = true ∧ mayB m e = true then
    if n < 0 ∧ 0 ≤ m then -1 else if 0 ≤ n ∧ m < 0 then 1 else if n < 0 then Lib.compareInt (m.natAbs * d.natAbs : Nat) (n.natAbs * e.natAbs : Nat) else Lib.compareInt (n.natAbs * e.natAbs : Nat) (m.natAbs * d.natAbs : Nat)
  else 0
theorem may_iff {n d : Int} : mayB n d = true ↔ 0 < d ∧ Nat.gcd n.natAbs d.natAbs = 1 := by
  unfold mayB; rw [Bool.and_eq_true, decide_eq_true_eq, decide_eq_true_eq]
theorem refCmp_eq (n d m e : Int) : refCmp n d m e = ratCmp n d m e := by
  by_cases hb : mayB n d = true ∧ mayB m e = true
  · have h1 := may_iff.1 hb.1
    have h2 := may_iff.1 hb.2
    rw [ratCmp_eq h1 h2]
    unfold refCmp
    rw [if_pos hb]
    have z1 : n * e = if n < 0 then -((n.natAbs * e.natAbs : Nat) : Int) else ((n.natAbs * e.natAbs : Nat) : Int) := by
      split
      · rw [Int.natCast_mul, ← Int.neg_mul, show -(n.natAbs : Int) = n by omega, show (e.natAbs : Int) = e by omega]
      · rw [Int.natCast_mul, show (n.natAbs : Int) = n by omega, show (e.natAbs : Int) = e by omega]
    have z2 : m * d = if m < 0 then -((m.natAbs * d.natAbs : Nat) : Int) else ((m.natAbs * d.natAbs : Nat) : Int) := by
      split
      · rw [Int.natCast_mul, ← Int.neg_mul, show -(m.natAbs : Int) = m by omega, show (d.natAbs : Int) = d by omega]
      · rw [Int.natCast_mul, show (m.natAbs : Int) = m by omega, show (d.natAbs : Int) = d by omega]
    have p1 : n < 0 → 0 < n.natAbs * e.natAbs := fun h => Nat.mul_pos (by omega) (by omega)
    have p2 : m < 0 → 0 < m.natAbs * d.natAbs := fun h => Nat.mul_pos (by omega) (by omega)
    have heq : n * e = m * d ↔ n = m ∧ d = e := ⟨fun h => frac_eq h1.1 h2.1 h1.2 h2.2 h, fun h => by rw [h.1, h.2]⟩
    have hset : (if n = m ∧ d = e then (0 : Int) else if n * e < m * d then -1 else 1) = if n * e = m * d then 0 else if n * e < m * d then -1 else 1 := by
      by_cases h : n = m ∧ d = e
      · rw [if_pos h, if_pos (heq.2 h)]
      · rw [if_neg h, if_neg (fun k => h (heq.1 k))]
    rw [hset]
    clear hset heq h1 h2 hb
    generalize n.natAbs * e.natAbs = X at *
    generalize m.natAbs * d.natAbs = Y at *
    generalize n * e = NE at *
    generalize m * d = MD at *
    unfold Lib.compareInt
    by_cases q1 : n < 0 <;> by_cases q2 : m < 0
    · have := p1 q1
      rw [if_pos q1] at z1; rw [if_pos q2] at z2
      rw [if_neg (by omega), if_neg (by omega), if_pos q1]
      by_cases h3 : (Y : Int) < X
      · rw [if_pos h3, if_neg (by omega), if_pos (by omega)]
      · rw [if_neg h3]
        by_cases h4 : (X : Int) < Y
        · rw [if_pos h4, if_neg (by omega), if_neg (by omega)]
        · rw [if_neg h4, if_pos (by omega)]
    · have := p1 q1
      rw [if_pos q1] at z1; rw [if_neg q2] at z2
      rw [if_pos (by omega), if_neg (by omega), if_pos (by omega)]
    · have := p2 q2
      rw [if_neg q1] at z1; rw [if_pos q2] at z2
      rw [if_neg (by omega), if_pos (by omega), if_neg (by omega), if_neg (by omega)]
    · rw [if_neg q1] at z1; rw [if_neg q2] at z2
      rw [if_neg (by omega), if_neg (by omega), if_neg q1]
      by_cases h3 : (X : Int) < Y
      · rw [if_pos h3, if_neg (by omega), if_pos (by omega)]
      · rw [if_neg h3]
        by_cases h4 : (Y : Int) < X
        · rw [if_pos h4, if_neg (by omega), if_neg (by omega)]
        · rw [if_neg h4, if_pos (by omega)]
  · unfold refCmp ratCmp
    rw [if_neg hb, if_neg hb]

set_option maxRecDepth 100000 in
set_option maxHeartbeats 4000000 in
theorem rcompare117 {n d m e : Int} (hn : inI64 n) (hd : inI64 d) (hm : inI64 m) (he : inI64 e) (w : World) : Calls Tryz.prog 245 #[.agg #[.int .i64 n, .int .i64 d], .agg #[.int .i64 m, .int .i64 e]] w fun x w' => x = .returned (.int .i64 (ratCmp n d m e)) ∧ w.Gr w' := by
  rw [← refCmp_eq]
  have hR' : refCmp n d m e = if mayB n d = true ∧ mayB m e = true then if n < 0 ∧ 0 ≤ m then -1 else if 0 ≤ n ∧ m < 0 then 1 else if n < 0 then Lib.compareInt (m.natAbs * d.natAbs : Nat) (n.natAbs * e.natAbs : Nat) else Lib.compareInt (n.natAbs * e.natAbs : Nat) (m.natAbs * d.natAbs : Nat) else 0 := rfl
  have m1 := fun w => rmay115 hn hd w
  have m2 := fun w => rmay115 hm he w
  have s1 := fun w => rsize133 hn w
  have s2 := fun w => rsize133 hm w
  have bn : n.natAbs ≤ 9223372036854775808 := by have := hn.1; have := hn.2; omega
  have bd : d.natAbs ≤ 9223372036854775808 := by have := hd.1; have := hd.2; omega
  have bm : m.natAbs ≤ 9223372036854775808 := by have := hm.1; have := hm.2; omega
  have be : e.natAbs ≤ 9223372036854775808 := by have := he.1; have := he.2; omega
  have t1 := fun w => rtimes132 (x := n.natAbs) (y := e.natAbs) (by omega) (by omega) w
  have t2 := fun w => rtimes132 (x := m.natAbs) (y := d.natAbs) (by omega) (by omega) w
  have b1 : n.natAbs * e.natAbs ≤ 9223372036854775808 * 9223372036854775808 := Nat.mul_le_mul bn be
  have b2 : m.natAbs * d.natAbs ≤ 9223372036854775808 * 9223372036854775808 := Nat.mul_le_mul bm bd
  have k1 := fun w => rcompare134 (a := m.natAbs * d.natAbs) (b := n.natAbs * e.natAbs) (by omega) (by omega) w
  have k2 := fun w => rcompare134 (a := n.natAbs * e.natAbs) (b := m.natAbs * d.natAbs) (by omega) (by omega) w
  have wd : mayB n d = true → IntKind.u64.wrap d = (d.natAbs : Int) := fun h => by have := (may_iff.1 h).1; rw [IntWalk.u64_in _ (by have := hd.2; omega)]; omega
  have we : mayB m e = true → IntKind.u64.wrap e = (e.natAbs : Int) := fun h => by have := (may_iff.1 h).1; rw [IntWalk.u64_in _ (by have := he.2; omega)]; omega
  generalize refCmp n d m e = R at *
  generalize Lib.compareInt (m.natAbs * d.natAbs : Nat) (n.natAbs * e.natAbs : Nat) = cA at *
  generalize Lib.compareInt (n.natAbs * e.natAbs : Nat) (m.natAbs * d.natAbs : Nat) = cB at *
  generalize n.natAbs * e.natAbs = X at *
  generalize m.natAbs * d.natAbs = Y at *
  generalize mayB n d = B1 at *
  generalize mayB m e = B2 at *
  have hdn := Lib.hid (show (n < 0 ↔ decide (n < 0) = true) from (decide_eq_true_iff).symm)
  generalize n.natAbs = na at *
  generalize d.natAbs = da at *
  generalize m.natAbs = ma at *
  generalize e.natAbs = ea at *
  have HR := Lib.hid hR'; have M1 := Lib.hid m1; have M2 := Lib.hid m2; have S1 := Lib.hid s1; have S2 := Lib.hid s2; have T1 := Lib.hid t1; have T2 := Lib.hid t2; have K1 := Lib.hid k1; have K2 := Lib.hid k2; have WD := Lib.hid wd; have WE := Lib.hid we
  clear hR' m1 m2 s1 s2 t1 t2 k1 k2 wd we hn hd hm he bn bd bm be b1 b2 hdn
  have qa := heap_alloc_at w (.cells #[.int .i64 n, .int .i64 d] 227) _ rfl
  have qb := heap_alloc_at (w.alloc (.cells #[.int .i64 n, .int .i64 d] 227)) (.cells #[.int .i64 m, .int .i64 e] 227) (w.heap.size + 1) (by simp)
  have qa := heap_alloc_some qa (.cells #[.int .i64 m, .int .i64 e] 227)
  have q3 := (((World.Gr.refl w).alloc (.cells #[.int .i64 n, .int .i64 d] 227)).alloc (.cells #[.int .i64 m, .int .i64 e] 227))
  go_enter Tryz.func245, Tryz.ntmps245
  go_upto_region 1 with (fail)
  generalize hW : World.alloc (World.alloc w _) _ = W at *
  clear hW
  have Qa := Lib.hid qa; have Qb := Lib.hid qb; have Q3 := Lib.hid q3; clear qa qb q3
  obtain ⟨x0, x1, xf⟩ := two' Qa.out
  obtain ⟨y0, y1, yf⟩ := two' Qb.out
  go_wp2_with fail
  with_reducible refine (M1.out _).mono ?_
  rintro x w1 ⟨rfl, g1⟩
  have qa := g1.fr.heap Qa.out (by simp); have qb := g1.fr.heap Qb.out (by simp); have q3 := Q3.out.trans g1
  clear Qa Qb Q3 g1 x0 x1 xf y0 y1 yf
  have Qa := Lib.hid qa; have Qb := Lib.hid qb; have Q3 := Lib.hid q3; clear qa qb q3
  obtain ⟨x0, x1, xf⟩ := two' Qa.out
  obtain ⟨y0, y1, yf⟩ := two' Qb.out
  go_wp2_with fail
  with_reducible refine (M2.out _).mono ?_
  rintro x w2 ⟨rfl, g1⟩
  have qa := g1.fr.heap Qa.out (by simp); have qb := g1.fr.heap Qb.out (by simp); have q3 := Q3.out.trans g1
  clear Qa Qb Q3 g1 x0 x1 xf y0 y1 yf
  have Qa := Lib.hid qa; have Qb := Lib.hid qb; have Q3 := Lib.hid q3; clear qa qb q3
  obtain ⟨x0, x1, xf⟩ := two' Qa.out
  obtain ⟨y0, y1, yf⟩ := two' Qb.out
  cases B1 with
  | false =>
    have hr : R = 0 := by rw [HR.out, if_neg (fun h => Bool.noConfusion h.1)]
    subst hr
    clear HR
    go_wp2
    go_ret
    exact ⟨rfl, Q3.out⟩
  | true =>
    cases B2 with
    | false =>
      have hr : R = 0 := by rw [HR.out, if_neg (fun h => Bool.noConfusion h.2)]
      subst hr
      clear HR
      go_wp2
      go_ret
      exact ⟨rfl, Q3.out⟩
    | true =>
      have hr := HR.out
      rw [if_pos ⟨rfl, rfl⟩] at hr
      clear HR
      have HR := Lib.hid hr
      have wd := WD.out rfl
      have we := WE.out rfl
      clear hr WD WE
      go_upto_region 5 with (fail)
      have hsz : w.heap.size + 1 < w2.heap.size := (Array.getElem?_eq_some_iff.1 Qb.out).1
      have hsy : w.heap.size < w2.heap.size := by omega
      go_cut [7] (fun s7 wx => ∃ p, s7 = .pointer (some ⟨p, 0, none⟩) ∧ Hid (wx.heap[p]? = some (.cells (bigC X) 279 (0, 0)) ∧ wx.heap[w.heap.size]? = some (.cells #[.int .i64 n, .int .i64 d] 227 (0, 0)) ∧ wx.heap[w.heap.size + 1]? = some (.cells #[.int .i64 m, .int .i64 e] 227 (0, 0)) ∧ w.Gr wx))
      case first =>
        go_region_with (first | (go_at_call 265; with_reducible refine (S1.out _).mono ?_; rintro x w3 ⟨rfl, rfl⟩) | (go_at_call 267; with_reducible refine (T1.out _).mono ?_; rintro x w4 ⟨rfl, g⟩; first | (have G4 := Lib.hid (Q3.out.drew.trans g); have A4 := Lib.hid (g.fr.heap (w := w2.drew) Qa.out (by simp)); have B4 := Lib.hid (g.fr.heap (w := w2.drew) Qb.out (by simp)); clear g) | (have G4 := Lib.hid ((Q3.out.alloc (.cells (dcells 0 0 0 0) 279)).drew.trans g); have A4 := Lib.hid (g.fr.heap (w := (w2.alloc (.cells (dcells 0 0 0 0) 279)).drew) (heap_alloc_some Qa.out _) (by simp)); have B4 := Lib.hid (g.fr.heap (w := (w2.alloc (.cells (dcells 0 0 0 0) 279)).drew) (heap_alloc_some Qb.out _) (by simp)); have Z4 := Lib.hid (g.fr.heap (w := (w2.alloc (.cells (dcells 0 0 0 0) 279)).drew) (heap_alloc_at w2 _ _ rfl) (by simp)); obtain ⟨z0, z1, z2, z3, zf⟩ := four' Z4.out; clear g)))
        all_goals
          go_wp2_with fail
          go_meet
          case rel => first | exact ⟨_, rfl, Lib.hid ⟨four_set Z4.out _ _ _ _, four_keep A4.out (by omega) _ _ _ _, four_keep B4.out (by omega) _ _ _ _, four_gr G4.out (by omega) _ _ _ _⟩⟩ | exact ⟨_, rfl, Lib.hid ⟨heap_alloc_at _ _ _ rfl, heap_alloc_some A4.out _, heap_alloc_some B4.out _, G4.out.alloc _⟩⟩
      case rest =>
        obtain ⟨p, rfl, hcc⟩ := hcut
        obtain ⟨hx, qa, qb, q3⟩ := hcc.out
        clear Qa Qb Q3 hcc x0 x1 xf y0 y1 yf
        have Qa := Lib.hid qa; have Qb := Lib.hid qb; have Q3 := Lib.hid q3; have QX := Lib.hid hx; clear qa qb q3 hx
        obtain ⟨x0, x1, xf⟩ := two' Qa.out
        obtain ⟨y0, y1, yf⟩ := two' Qb.out
        have hsz : w.heap.size + 1 < wc.heap.size := (Array.getElem?_eq_some_iff.1 Qb.out).1
        have hsy : w.heap.size < wc.heap.size := by omega
        have hpz : p < wc.heap.size := (Array.getElem?_eq_some_iff.1 QX.out).1
        go_upto_region 6 with (fail)
        go_cut [8] (fun s8 wx => ∃ q, s8 = .pointer (some ⟨q, 0, none⟩) ∧ Hid (wx.heap[q]? = some (.cells (bigC Y) 279 (0, 0)) ∧ wx.heap[w.heap.size]? = some (.cells #[.int .i64 n, .int .i64 d] 227 (0, 0)) ∧ wx.heap[w.heap.size + 1]? = some (.cells #[.int .i64 m, .int .i64 e] 227 (0, 0)) ∧ wx.heap[p]? = some (.cells (bigC X) 279 (0, 0)) ∧ w.Gr wx))
        case first =>
          go_region_with (first | (go_at_call 265; with_reducible refine (S2.out _).mono ?_; rintro x w3 ⟨rfl, rfl⟩) | (go_at_call 267; with_reducible refine (T2.out _).mono ?_; rintro x w4 ⟨rfl, g⟩; first | (have G4 := Lib.hid (Q3.out.drew.trans g); have A4 := Lib.hid (g.fr.heap (w := wc.drew) Qa.out (by simp)); have B4 := Lib.hid (g.fr.heap (w := wc.drew) Qb.out (by simp)); have X4 := Lib.hid (g.fr.heap (w := wc.drew) QX.out (by simp)); clear g) | (have G4 := Lib.hid ((Q3.out.alloc (.cells (dcells 0 0 0 0) 279)).drew.trans g); have A4 := Lib.hid (g.fr.heap (w := (wc.alloc (.cells (dcells 0 0 0 0) 279)).drew) (heap_alloc_some Qa.out _) (by simp)); have B4 := Lib.hid (g.fr.heap (w := (wc.alloc (.cells (dcells 0 0 0 0) 279)).drew) (heap_alloc_some Qb.out _) (by simp)); have X4 := Lib.hid (g.fr.heap (w := (wc.alloc (.cells (dcells 0 0 0 0) 279)).drew) (heap_alloc_some QX.out _) (by simp)); have Z4 := Lib.hid (g.fr.heap (w := (wc.alloc (.cells (dcells 0 0 0 0) 279)).drew) (heap_alloc_at wc _ _ rfl) (by simp)); obtain ⟨z0, z1, z2, z3, zf⟩ := four' Z4.out; clear g)))
          all_goals
            go_wp2_with fail
            go_meet
            case rel => first | exact ⟨_, rfl, Lib.hid ⟨four_set Z4.out _ _ _ _, four_keep A4.out (by omega) _ _ _ _, four_keep B4.out (by omega) _ _ _ _, four_keep X4.out (by omega) _ _ _ _, four_gr G4.out (by omega) _ _ _ _⟩⟩ | exact ⟨_, rfl, Lib.hid ⟨heap_alloc_at _ _ _ rfl, heap_alloc_some A4.out _, heap_alloc_some B4.out _, heap_alloc_some X4.out _, G4.out.alloc _⟩⟩
        case rest =>
          obtain ⟨q, rfl, hcc⟩ := hcut
          obtain ⟨hy, qa, qb, hx, q3⟩ := hcc.out
          clear Qa Qb Q3 QX hcc x0 x1 xf y0 y1 yf hsz hsy hpz
          obtain ⟨x0, x1, xf⟩ := two' qa
          obtain ⟨y0, y1, yf⟩ := two' qb
          obtain ⟨u0, u1, u2, u3, uf⟩ := four' hx
          obtain ⟨v0, v1, v2, v3, vf⟩ := four' hy
          clear qa qb hx hy
          by_cases h1 : n < 0
          · have d1 : decide (n < 0) = true := decide_eq_true h1
            have d2 : decide (0 ≤ n) = false := decide_eq_false (by omega)
            by_cases h2 : m < 0
            · have d3 : decide (m < 0) = true := decide_eq_true h2
              have d4 : decide (0 ≤ m) = false := decide_eq_false (by omega)
              have hr : R = cA := by rw [HR.out, if_neg (by omega), if_neg (by omega), if_pos h1]
              subst hr
              clear h1 h2 HR
              go_wp2_with fail
              with_reducible refine (K1.out _).mono ?_
              rintro x w9 ⟨rfl, g⟩
              have q9 := q3.trans g
              clear x0 x1 xf y0 y1 yf u0 u1 u2 u3 uf v0 v1 v2 v3 vf
              go_wp2
              go_ret
              exact ⟨rfl, q9⟩
            · have d3 : decide (m < 0) = false := decide_eq_false h2
              have d4 : decide (0 ≤ m) = true := decide_eq_true (by omega)
              have hr : R = -1 := by rw [HR.out, if_pos (by omega)]
              subst hr
              clear h1 h2 HR
              go_wp2
              go_ret
              exact ⟨rfl, q3⟩
          · have d1 : decide (n < 0) = false := decide_eq_false h1
            have d2 : decide (0 ≤ n) = true := decide_eq_true (by omega)
            by_cases h2 : m < 0
            · have d3 : decide (m < 0) = true := decide_eq_true h2
              have d4 : decide (0 ≤ m) = false := decide_eq_false (by omega)
              have hr : R = 1 := by rw [HR.out, if_neg (by omega), if_pos (by omega)]
              subst hr
              clear h1 h2 HR
              go_wp2
              go_ret
              exact ⟨rfl, q3⟩
            · have d3 : decide (m < 0) = false := decide_eq_false h2
              have d4 : decide (0 ≤ m) = true := decide_eq_true (by omega)
              have hr : R = cB := by rw [HR.out, if_neg (by omega), if_neg (by omega), if_neg h1]
              subst hr
              clear h1 h2 HR
              go_wp2_with fail
              with_reducible refine (K2.out _).mono ?_
              rintro x w9 ⟨rfl, g⟩
              have q9 := q3.trans g
              clear x0 x1 xf y0 y1 yf u0 u1 u2 u3 uf v0 v1 v2 v3 vf
              go_wp2
              go_ret
              exact ⟨rfl, q9⟩
end Go.Proofs.YtbejmdlncnkaaaaGreat
