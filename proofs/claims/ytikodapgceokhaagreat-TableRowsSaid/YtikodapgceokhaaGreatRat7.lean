/-
  The program's fractions: Compare.
-/
import Derived.Test.YtikodapgceokhaaGreatFraA
namespace Go.Proofs.YtikodapgceokhaaGreat
open Go.RowKit

theorem run_field128 (a b c : Value) (w : World) : (Instr.field 128 (.agg #[a, b, c]) 2).run Tryz.prog w = .ok c w := by
  simp [Instr.field, part, Sem.run_bind, run_underlying Tryz.underlying128, Tryz.isAgg4, Result.andThen, asAgg]

set_option maxRecDepth 100000 in
set_option maxHeartbeats 8000000 in
theorem compare112 (hM : MulOk) {n d m e : Int} (hn : inI64 n) (hd : inI64 d) (hm : inI64 m) (he : inI64 e) (w : World) : Calls Tryz.prog 112 #[.agg #[.int .i64 n, .int .i64 d], .agg #[.int .i64 m, .int .i64 e]] w fun x w' => x = .returned (.int .i64 (ratCmp n d m e)) ∧ w.Gr w' := by
  have m1 := fun w => may127 hn hd w
  have m2 := fun w => may127 hm he w
  have t1 := fun w => times128 hM hm hd w
  have t2 := fun w => times128 hM hn he w
  have o1 := timesW_ok hm hd
  have o2 := timesW_ok hn he
  have pl := fun w => plus129 (timesW n e) ⟨(timesW m d).h, (timesW m d).l, !(timesW m d).m⟩ o2 ⟨o1.h, o1.l⟩ w
  have hR' : ratCmp n d m e = if mayB n d = true ∧ mayB m e = true then if n = m ∧ d = e then 0 else if (plusW (timesW n e) ⟨(timesW m d).h, (timesW m d).l, !(timesW m d).m⟩).m = true then -1 else 1 else 0 := rfl
  generalize ratCmp n d m e = R at *
  have HR := Lib.hid hR'; clear hR' hM hn hd hm he o1 o2
  generalize timesW m d = T1 at *
  generalize timesW n e = T2 at *
  obtain ⟨h1, l1, b1⟩ := T1
  obtain ⟨h2, l2, b2⟩ := T2
  simp only at *
  generalize plusW ⟨h2, l2, b2⟩ ⟨h1, l1, !b1⟩ = T3 at *
  obtain ⟨h3, l3, b3⟩ := T3
  simp only [Wd.v] at t1 t2 pl
  have qa := heap_alloc_at w (.cells #[.int .i64 n, .int .i64 d] 104) _ rfl
  have qb := heap_alloc_at (w.alloc (.cells #[.int .i64 n, .int .i64 d] 104)) (.cells #[.int .i64 m, .int .i64 e] 104) (w.heap.size + 1) (by simp)
  have qa := heap_alloc_some qa (.cells #[.int .i64 m, .int .i64 e] 104)
  have q3 := (((World.Gr.refl w).alloc (.cells #[.int .i64 n, .int .i64 d] 104)).alloc (.cells #[.int .i64 m, .int .i64 e] 104))
  have H1 := Lib.hid m1; have H2 := Lib.hid m2; have H3 := Lib.hid t1; have H4 := Lib.hid t2; have H5 := Lib.hid pl; clear m1 m2 t1 t2 pl
  have hfld := run_field128 (.int .u64 h3) (.int .u64 l3) (.bool b3)
  go_enter Tryz.func112, Tryz.ntmps112
  go_upto_region 1 with (fail)
  generalize hW : World.alloc (World.alloc w _) _ = W at *
  clear hW
  have Qa := Lib.hid qa; have Qb := Lib.hid qb; have Q3 := Lib.hid q3; clear qa qb q3
  obtain ⟨x0, x1, xf⟩ := two' Qa.out
  obtain ⟨y0, y1, yf⟩ := two' Qb.out
  go_wp2_with fail
  refine (H1.out _).mono ?_
  rintro x w1 ⟨rfl, g1⟩
  have qa := g1.fr.heap Qa.out (by simp); have qb := g1.fr.heap Qb.out (by simp); have q3 := Q3.out.trans g1
  clear Qa Qb Q3 g1 x0 x1 xf y0 y1 yf
  have Qa := Lib.hid qa; have Qb := Lib.hid qb; have Q3 := Lib.hid q3; clear qa qb q3
  obtain ⟨x0, x1, xf⟩ := two' Qa.out
  obtain ⟨y0, y1, yf⟩ := two' Qb.out
  cases hb1 : mayB n d with
  | false =>
    have hr : R = 0 := by rw [HR.out, if_neg (fun h => by rw [hb1] at h; exact Bool.noConfusion h.1)]
    subst hr
    clear HR
    go_wp2
    go_ret
    exact ⟨rfl, Q3.out⟩
  | true =>
    go_wp2_with fail
    refine (H2.out _).mono ?_
    rintro x w2 ⟨rfl, g1⟩
    have qa := g1.fr.heap Qa.out (by simp); have qb := g1.fr.heap Qb.out (by simp); have q3 := Q3.out.trans g1
    clear Qa Qb Q3 g1 x0 x1 xf y0 y1 yf
    have Qa := Lib.hid qa; have Qb := Lib.hid qb; have Q3 := Lib.hid q3; clear qa qb q3
    obtain ⟨x0, x1, xf⟩ := two' Qa.out
    obtain ⟨y0, y1, yf⟩ := two' Qb.out
    cases hb2 : mayB m e with
    | false =>
      have hr : R = 0 := by rw [HR.out, if_neg (fun h => by rw [hb2] at h; exact Bool.noConfusion h.2)]
      subst hr
      clear HR
      go_wp2
      go_ret
      exact ⟨rfl, Q3.out⟩
    | true =>
      by_cases hs : n = m ∧ d = e
      · have hr : R = 0 := by rw [HR.out, if_pos ⟨hb1, hb2⟩, if_pos hs]
        obtain ⟨rfl, rfl⟩ := hs
        subst hr
        clear HR
        have hb3 : (n == n) = true := by simp
        have hb4 : (d == d) = true := by simp
        go_wp2
        go_ret
        exact ⟨rfl, Q3.out⟩
      · have hr : R = if b3 = true then -1 else 1 := by rw [HR.out, if_pos ⟨hb1, hb2⟩, if_neg hs]
        clear HR
        have HR := Lib.hid hr; clear hr hb1 hb2 H1 H2
        have hb3 : (n == m) = false ∨ (n == m) = true ∧ (d == e) = false := by
          by_cases h : n = m
          · exact .inr ⟨by simp [h], by simp; exact fun h2 => hs ⟨h, h2⟩⟩
          · exact .inl (by simp [h])
        clear hs
        rcases hb3 with hb3 | ⟨hb3, hb4⟩
        · go_wp2_with fail
          refine (H3.out _).mono ?_
          rintro x w3 ⟨rfl, g1⟩
          have qa := g1.fr.heap Qa.out (by simp); have qb := g1.fr.heap Qb.out (by simp); have q3 := Q3.out.trans g1
          clear Qa Qb Q3 g1 x0 x1 xf y0 y1 yf
          have hsz : w.heap.size + 1 < w3.heap.size := (Array.getElem?_eq_some_iff.1 qb).1
          have qc := heap_alloc_at w3 (.cells #[.int .u64 h1, .int .u64 l1, .bool b1] 128) _ rfl
          have qa := heap_alloc_some qa (.cells #[.int .u64 h1, .int .u64 l1, .bool b1] 128)
          have qb := heap_alloc_some qb (.cells #[.int .u64 h1, .int .u64 l1, .bool b1] 128)
          have q3 := q3.alloc (.cells #[.int .u64 h1, .int .u64 l1, .bool b1] 128)
          go_upto_region 4 with (fail)
          generalize hW : World.alloc w3 _ = w4 at *
          clear hW
          generalize w3.heap.size = s at *
          obtain ⟨z0, z1, z2, zf⟩ := three' qc
          have Qa := Lib.hid (heap_set_other qa ⟨s, 2, none⟩ (by show w.heap.size ≠ s; omega) (.bool (!b1)))
          have Qb := Lib.hid (heap_set_other qb ⟨s, 2, none⟩ (by show w.heap.size + 1 ≠ s; omega) (.bool (!b1)))
          have Qc := Lib.hid (heap_set_same qc 2 (.bool (!b1)))
          have Q3 := Lib.hid (q3.set (a := ⟨s, 2, none⟩) (by show w.heap.size ≤ s; omega) (.bool (!b1)))
          clear qa qb qc q3 hsz
          go_upto_region 5 with (fail)
          clear z0 z1 z2 zf
          generalize hW : World.setCell w4 _ _ = w5 at *
          clear hW
          obtain ⟨x0, x1, xf⟩ := two' Qa.out
          obtain ⟨y0, y1, yf⟩ := two' Qb.out
          obtain ⟨z0, z1, z2, zf⟩ := three' Qc.out
          go_region_with (first | (go_at_call 128; with_reducible refine (H4.out _).mono ?_; rintro x w6 ⟨rfl, g⟩; have qc6 := g.fr.heap (w := w5.drew) Qc.out (by simp); obtain ⟨u0, u1, u2, uf⟩ := three' qc6; have G6 := Lib.hid (Q3.out.drew.trans g); clear g qc6) | (go_at_call 129; with_reducible refine (H5.out _).mono ?_; rintro x w7 ⟨rfl, g7⟩; have G7 := Lib.hid (G6.out.trans g7); clear g7))
          all_goals
            cases b3 with
            | true =>
              have hr : R = -1 := HR.out
              subst hr
              go_wp2
              go_ret
              exact ⟨rfl, G7.out⟩
            | false =>
              have hr : R = 1 := HR.out
              subst hr
              go_wp2
              go_ret
              exact ⟨rfl, G7.out⟩
        · go_wp2_with fail
          refine (H3.out _).mono ?_
          rintro x w3 ⟨rfl, g1⟩
          have qa := g1.fr.heap Qa.out (by simp); have qb := g1.fr.heap Qb.out (by simp); have q3 := Q3.out.trans g1
          clear Qa Qb Q3 g1 x0 x1 xf y0 y1 yf
          have hsz : w.heap.size + 1 < w3.heap.size := (Array.getElem?_eq_some_iff.1 qb).1
          have qc := heap_alloc_at w3 (.cells #[.int .u64 h1, .int .u64 l1, .bool b1] 128) _ rfl
          have qa := heap_alloc_some qa (.cells #[.int .u64 h1, .int .u64 l1, .bool b1] 128)
          have qb := heap_alloc_some qb (.cells #[.int .u64 h1, .int .u64 l1, .bool b1] 128)
          have q3 := q3.alloc (.cells #[.int .u64 h1, .int .u64 l1, .bool b1] 128)
          go_upto_region 4 with (fail)
          generalize hW : World.alloc w3 _ = w4 at *
          clear hW
          generalize w3.heap.size = s at *
          obtain ⟨z0, z1, z2, zf⟩ := three' qc
          have Qa := Lib.hid (heap_set_other qa ⟨s, 2, none⟩ (by show w.heap.size ≠ s; omega) (.bool (!b1)))
          have Qb := Lib.hid (heap_set_other qb ⟨s, 2, none⟩ (by show w.heap.size + 1 ≠ s; omega) (.bool (!b1)))
          have Qc := Lib.hid (heap_set_same qc 2 (.bool (!b1)))
          have Q3 := Lib.hid (q3.set (a := ⟨s, 2, none⟩) (by show w.heap.size ≤ s; omega) (.bool (!b1)))
          clear qa qb qc q3 hsz
          go_upto_region 5 with (fail)
          clear z0 z1 z2 zf
          generalize hW : World.setCell w4 _ _ = w5 at *
          clear hW
          obtain ⟨x0, x1, xf⟩ := two' Qa.out
          obtain ⟨y0, y1, yf⟩ := two' Qb.out
          obtain ⟨z0, z1, z2, zf⟩ := three' Qc.out
          go_region_with (first | (go_at_call 128; with_reducible refine (H4.out _).mono ?_; rintro x w6 ⟨rfl, g⟩; have qc6 := g.fr.heap (w := w5.drew) Qc.out (by simp); obtain ⟨u0, u1, u2, uf⟩ := three' qc6; have G6 := Lib.hid (Q3.out.drew.trans g); clear g qc6) | (go_at_call 129; with_reducible refine (H5.out _).mono ?_; rintro x w7 ⟨rfl, g7⟩; have G7 := Lib.hid (G6.out.trans g7); clear g7))
          all_goals
            cases b3 with
            | true =>
              have hr : R = -1 := HR.out
              subst hr
              go_wp2
              go_ret
              exact ⟨rfl, G7.out⟩
            | false =>
              have hr : R = 1 := HR.out
              subst hr
              go_wp2
              go_ret
              exact ⟨rfl, G7.out⟩
end Go.Proofs.YtikodapgceokhaaGreat
