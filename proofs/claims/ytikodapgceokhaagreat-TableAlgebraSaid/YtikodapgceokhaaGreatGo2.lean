/-
  The law's both, and what TableAlgebra calls, plainly.
-/
import Derived.Test.YtikodapgceokhaaGreatGo1
namespace Go.Proofs.YtikodapgceokhaaGreat
open Go.RowKit

set_option maxRecDepth 100000 in
set_option maxHeartbeats 1000000 in
theorem both40 {w : World} {v1 v2 : Value} {a : Tb} {E : Int} (sa : Small a) (h0 : RdTab w v1 a) (h1 : RdTab w v2 a) :
    Calls Tryz.prog 40 #[v1, .int .i64 E, v2, .int .i64 E] w fun e x => e = .returned (.bool true) ∧ w.Fr x [] := by
  obtain ⟨x0, y0, hs0, rfl, hv0, hr0⟩ := h0.ex
  obtain ⟨a1, a2, rfl, _, _⟩ := hv0.rd.shape
  obtain ⟨a3, a4, rfl, _, _⟩ := hr0.rd.shape
  obtain ⟨x1, y1, hs1, rfl, hv1, hr1⟩ := h1.ex
  obtain ⟨b1, b2, rfl, _, _⟩ := hv1.rd.shape
  obtain ⟨b3, b4, rfl, _, _⟩ := hr1.rd.shape
  have hl0 := hr0.len
  have hl1 := hr1.len
  rw [hl0] at h0 ⊢
  rw [hl1] at h1 ⊢
  clear hv0 hr0 hv1 hr1 hl0 hl1
  generalize hn : a.vars.length = n at *
  generalize hm : a.rows.length = m at *
  have qa := heap_alloc_some (heap_alloc_at w (.cells #[.slice a1 n a2, .slice a3 m a4] 25) _ rfl) (.cells #[.slice b1 n b2, .slice b3 m b4] 25)
  have qb : ((w.alloc (.cells #[.slice a1 n a2, .slice a3 m a4] 25)).alloc (.cells #[.slice b1 n b2, .slice b3 m b4] 25)).heap[w.heap.size + 1]? = some (.cells #[.slice b1 n b2, .slice b3 m b4] 25 (0, 0)) := heap_alloc_at _ _ _ (by simp)
  have f := ((World.Fr.refl w []).alloc (.cells #[.slice a1 n a2, .slice a3 m a4] 25)).alloc (.cells #[.slice b1 n b2, .slice b3 m b4] 25)
  have k := Lib.hid (g_same sa (h0.still f) (h1.still f))
  have F := Lib.hid f
  have hEE : (E == E) = true := beq_self_eq_true E
  clear h0 h1 sa f hn hm
  go_enter Tryz.func40, Tryz.ntmps40
  go_upto_region 1 with (fail)
  generalize hW : World.alloc (World.alloc w _) _ = W at *
  clear hW
  obtain ⟨m0, m1, mf⟩ := two qa
  obtain ⟨n0, n1, nf⟩ := two qb
  clear qa qb
  go_wp2_with fail
  (with_reducible refine k.out.mono ?_)
  rintro e x ⟨rfl, fx⟩
  go_wp2
  go_ret
  exact ⟨rfl, F.out.trans fx (by simp)⟩

theorem none_fits : Fits V.wf tNone := ⟨tNone_small, by simp, fun r hr => by simp at hr⟩
theorem light2a {x : Nat} (h : lightF 1 [x, x] = true) : x * x ≤ 20000 := light2 h
/-- what TableAlgebra calls, plainly -/
theorem algebra_plain {cf : V → V → Int} (hO : OrdOk okW cf) {a b c : Tb} (ha : Good cf a) (hb : Good cf b) (hc : Good cf c) (h1 : a.rows.length * b.rows.length ≤ 20000) (h2 : b.rows.length * c.rows.length ≤ 20000) (h3 : a.rows.length * b.rows.length * c.rows.length ≤ 20000) (h4 : a.rows.length ≤ 20000) (h5 : b.rows.length ≤ 20000) :
    ∃ Eu u Ej j En bc, unionT cf a b = (Eu, u) ∧ unionT cf b a = (Eu, u) ∧ Small u ∧ joinT cf a b = (Ej, j) ∧ joinT cf b a = (Ej, j) ∧ Fits V.wf j ∧ unionT cf a a = (0, a) ∧ joinT cf a a = (0, a) ∧ joinT cf a tTrue = (0, a) ∧ joinT cf b c = (En, bc) ∧ Fits V.wf bc ∧
      (Ej = 30 ∨ Ej = 0) ∧ (En = 30 ∨ En = 0) ∧ (Ej = 0 → En = 0 → j.rows.length * c.rows.length ≤ 1000000000 ∧ a.rows.length * bc.rows.length ≤ 1000000000 ∧ ∃ Ex x, joinT cf j c = (Ex, x) ∧ joinT cf a bc = (Ex, x) ∧ Small x) := by
  have wa : ∀ r, r ∈ a.rows → ∀ x, x ∈ r → V.wf x := fun r hr x hx => (ha.ok r hr x hx).1
  have wb : ∀ r, r ∈ b.rows → ∀ x, x ∈ r → V.wf x := fun r hr x hx => (hb.ok r hr x hx).1
  have wc : ∀ r, r ∈ c.rows → ∀ x, x ∈ r → V.wf x := fun r hr x hx => (hc.ok r hr x hx).1
  have hju : Small (unionT cf a b).2 := unionT_small hO (ha.small (by omega)) wa wb (by omega)
  have key : ∀ {p q : Tb}, Good cf p → Good cf q → p.rows.length * q.rows.length ≤ 20000 → ∃ E t, joinT cf p q = (E, t) ∧ Fits V.wf t ∧ (E = 30 ∨ E = 0 ∧ (allN p q).length ≤ 8 ∧ t = joinTab cf p q ∧ t.rows.length ≤ p.rows.length * q.rows.length) := fun {p q} gp gq hl => by
    rw [joinT_good gp gq]
    by_cases h8 : 8 < (allN p q).length
    · rw [if_pos h8]
      exact ⟨30, tNone, rfl, none_fits, .inl rfl⟩
    · rw [if_neg h8]
      have e1 := join_count hO gp gq
      have e2 := joinRows_len p q
      exact ⟨0, joinTab cf p q, rfl, (join_good gp gq hO (by omega)).fits (by omega), .inr ⟨rfl, by omega, rfl, by omega⟩⟩
  obtain ⟨Ej, j, ej, fj, hj⟩ := key ha hb h1
  obtain ⟨En, bc, en, fn, hn⟩ := key hb hc h2
  refine ⟨(unionT cf a b).1, (unionT cf a b).2, Ej, j, En, bc, rfl, by rw [unionT_comm hO hb ha], hju, ej, by rw [joinT_comm hO hb ha]; exact ej, fj, unionT_self hO ha, joinT_self hO ha, joinT_true hO ha, en, fn, hj.imp id And.left, hn.imp id And.left, fun z1 z2 => ?_⟩
  rcases hj with hj | ⟨_, a8, rfl, jl⟩
  · omega
  rcases hn with hn | ⟨_, b8, rfl, nl⟩
  · omega
  have gj := join_good ha hb hO a8
  have gn := join_good hb hc hO b8
  have m1 : (joinTab cf a b).rows.length * c.rows.length ≤ a.rows.length * b.rows.length * c.rows.length := Nat.mul_le_mul_right _ jl
  have m2 : a.rows.length * (joinTab cf b c).rows.length ≤ a.rows.length * b.rows.length * c.rows.length := by rw [Nat.mul_assoc]; exact Nat.mul_le_mul_left _ nl
  refine ⟨by omega, by omega, (joinT cf (joinTab cf a b) c).1, (joinT cf (joinTab cf a b) c).2, rfl, by rw [joinT_assoc hO ha hb hc a8 b8], ?_⟩
  exact joinT_small hO (fun r hr x hx => (gj.ok r hr x hx).1) wc (by omega)
end Go.Proofs.YtikodapgceokhaaGreat
