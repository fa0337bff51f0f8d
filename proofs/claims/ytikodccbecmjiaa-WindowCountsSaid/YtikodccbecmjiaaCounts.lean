/-
  The closure of WindowCounts, and Calls.
-/
import Derived.Test.YtikodccbecmjiaaStir
namespace Go.Proofs.Ytikodccbecmjiaa
open Go.RowKit Go.Win

def opC (x y : T) : T := (1, (IntKind.u64.wrap (x.2 + y.2)).tmod 4611686018427387904)
def okC (x : T) : Prop := x.1 = 1

/-- what the closure captured: how often it was called, nothing strange, what stands for nothing -/
structure JC (c1 c2 c3 : Nat) (n : Nat) (w : World) : Prop where
  calls : w.heap[c1]? = some (.cells #[.int .i64 n] 3 (0, 0))
  strange : w.heap[c2]? = some (.cells #[.bool false] 4 (0, 0))
  none : w.heap[c3]? = some (.cells #[.int .u64 3, .int .u64 9223372036854775808] 26 (0, 0))

theorem one {w : World} {p : Nat} {t : TypeId} {a : Value} (hh : w.heap[p]? = some (.cells #[a] t (0, 0))) :
    w.cell? ⟨p, 0, none⟩ = some a ∧ ∀ j, w.frozen? ⟨p, j, none⟩ = false := by
  refine ⟨?_, fun j => frozen_of_row w p j _ _ hh⟩ <;> simp [World.cell?, hh]

theorem closure19 (c1 c2 c3 : Nat) (h12 : c1 ≠ c2) (h13 : c1 ≠ c3) (h23 : c2 ≠ c3) (n : Nat) (x y : T) (w : World) (hn : n < 8000000000000000000) (hJ : JC c1 c2 c3 n w) (hx : okC x) (hy : okC y) :
    Calls Try.prog 19 #[tv x, tv y, .pointer (some ⟨c1, 0, none⟩), .pointer (some ⟨c2, 0, none⟩), .pointer (some ⟨c3, 0, none⟩)] w fun e w' => e = .returned (tv (opC x y)) ∧ w.Fr w' [c1, c2, c3] ∧ JC c1 c2 c3 (n + 1) w' := by
  obtain ⟨j1, j2, j3⟩ := hJ
  obtain ⟨x1, x2⟩ := x
  obtain ⟨y1, y2⟩ := y
  unfold okC at hx hy
  simp only at hx hy
  subst hx hy
  have l1 := lt_of_heap j1
  have l2 := lt_of_heap j2
  have l3 := lt_of_heap j3
  have hw1 : IntKind.i64.wrap ((n : Int) + 1) = ((n + 1 : Nat) : Int) := by rw [IntWalk.i64_in _ (by omega)]; omega
  have J1 := Lib.hid j1; have J2 := Lib.hid j2; have J3 := Lib.hid j3; clear j1 j2 j3
  have H12 := Lib.hid h12; have H13 := Lib.hid h13; have H23 := Lib.hid h23; clear h12 h13 h23
  go_enter Try.func19, Try.ntmps19
  go_upto_region 1 with (fail)
  generalize hW : World.alloc (World.alloc (World.alloc w _) _) _ = W
  have q1 : W.heap[c1]? = some (.cells #[.int .i64 n] 3 (0, 0)) := by rw [← hW]; exact heap_alloc_some (heap_alloc_some (heap_alloc_some J1.out _) _) _
  have q2 : W.heap[c2]? = some (.cells #[.bool false] 4 (0, 0)) := by rw [← hW]; exact heap_alloc_some (heap_alloc_some (heap_alloc_some J2.out _) _) _
  have q3 : W.heap[c3]? = some (.cells #[.int .u64 3, .int .u64 9223372036854775808] 26 (0, 0)) := by rw [← hW]; exact heap_alloc_some (heap_alloc_some (heap_alloc_some J3.out _) _) _
  have q4 : W.heap[w.heap.size]? = some (.cells #[.int .u64 1, .int .u64 x2] 26 (0, 0)) := by rw [← hW]; exact heap_alloc_some (heap_alloc_some (heap_alloc_at _ _ _ (by simp)) _) _
  have q5 : W.heap[w.heap.size + 1]? = some (.cells #[.int .u64 1, .int .u64 y2] 26 (0, 0)) := by rw [← hW]; exact heap_alloc_some (heap_alloc_at _ _ _ (by simp)) _
  have q6 : W.heap[w.heap.size + 1 + 1]? = some (.cells #[.int .u64 0, .int .u64 0] 26 (0, 0)) := by rw [← hW]; exact heap_alloc_at _ _ _ (by simp)
  have q7 : w.Fr W [] := by rw [← hW]; exact (((World.Fr.refl w []).alloc _).alloc _).alloc _
  clear hW
  obtain ⟨a1, g1⟩ := one q1
  obtain ⟨a2, g2⟩ := one q2
  obtain ⟨a3, b3, g3⟩ := two q3
  obtain ⟨a4, b4, g4⟩ := two q4
  obtain ⟨a5, b5, g5⟩ := two q5
  obtain ⟨a6, b6, g6⟩ := two q6
  have Q1 := Lib.hid q1; have Q2 := Lib.hid q2; have Q3 := Lib.hid q3; have Q4 := Lib.hid q4; have Q5 := Lib.hid q5; have Q6 := Lib.hid q6; have Q7 := Lib.hid q7; clear q1 q2 q3 q4 q5 q6 q7
  have o1 : ¬ c1 = w.heap.size := by omega
  have o2 : ¬ c1 = w.heap.size + 1 := by omega
  have o3 : ¬ c1 = w.heap.size + 1 + 1 := by omega
  go_upto_region 2 with (fail)
  generalize hW : World.setCell W _ _ = W2
  have q1 : W2.heap[c1]? = some (.cells #[.int .i64 ((n + 1 : Nat) : Int)] 3 (0, 0)) := by rw [← hW]; exact heap_set_same Q1.out 0 _
  have q2 : W2.heap[c2]? = some (.cells #[.bool false] 4 (0, 0)) := by rw [← hW]; exact heap_set_other Q2.out _ H12.out.symm _
  have q3 : W2.heap[c3]? = some (.cells #[.int .u64 3, .int .u64 9223372036854775808] 26 (0, 0)) := by rw [← hW]; exact heap_set_other Q3.out _ H13.out.symm _
  have q4 : W2.heap[w.heap.size]? = some (.cells #[.int .u64 1, .int .u64 x2] 26 (0, 0)) := by rw [← hW]; exact heap_set_other Q4.out _ (fun e => o1 e.symm) _
  have q5 : W2.heap[w.heap.size + 1]? = some (.cells #[.int .u64 1, .int .u64 y2] 26 (0, 0)) := by rw [← hW]; exact heap_set_other Q5.out _ (fun e => o2 e.symm) _
  have q6 : W2.heap[w.heap.size + 1 + 1]? = some (.cells #[.int .u64 0, .int .u64 0] 26 (0, 0)) := by rw [← hW]; exact heap_set_other Q6.out _ (fun e => o3 e.symm) _
  have q7 : w.Fr W2 [c1, c2, c3] := by rw [← hW]; exact (Q7.out.mono (by simp)).setCell (.inl (by simp)) _
  clear hW a1 g1 a2 g2 a3 b3 g3 a4 b4 g4 a5 b5 g5 a6 b6 g6 Q1 Q2 Q3 Q4 Q5 Q6 Q7
  obtain ⟨a1, g1⟩ := one q1
  obtain ⟨a2, g2⟩ := one q2
  obtain ⟨a3, b3, g3⟩ := two q3
  obtain ⟨a4, b4, g4⟩ := two q4
  obtain ⟨a5, b5, g5⟩ := two q5
  obtain ⟨a6, b6, g6⟩ := two q6
  have Q1 := Lib.hid q1; have Q2 := Lib.hid q2; have Q3 := Lib.hid q3; have Q4 := Lib.hid q4; have Q5 := Lib.hid q5; have Q6 := Lib.hid q6; have Q7 := Lib.hid q7; clear q1 q2 q3 q4 q5 q6 q7
  go_upto_region 3 with (fail)
  generalize hW : World.setCell W2 _ _ = W3
  have q1 : W3.heap[c1]? = some (.cells #[.int .i64 ((n + 1 : Nat) : Int)] 3 (0, 0)) := by rw [← hW]; exact heap_set_other Q1.out _ (fun e => H12.out e) _
  have q2 : W3.heap[c2]? = some (.cells #[.bool false] 4 (0, 0)) := by rw [← hW]; exact heap_set_same Q2.out 0 _
  have q3 : W3.heap[c3]? = some (.cells #[.int .u64 3, .int .u64 9223372036854775808] 26 (0, 0)) := by rw [← hW]; exact heap_set_other Q3.out _ H23.out.symm _
  have n4 : w.heap.size ≠ c2 := by omega
  have n5 : w.heap.size + 1 ≠ c2 := by omega
  have n6 : w.heap.size + 1 + 1 ≠ c2 := by omega
  have q4 : W3.heap[w.heap.size]? = some (.cells #[.int .u64 1, .int .u64 x2] 26 (0, 0)) := by rw [← hW]; exact heap_set_other Q4.out _ n4 _
  have q5 : W3.heap[w.heap.size + 1]? = some (.cells #[.int .u64 1, .int .u64 y2] 26 (0, 0)) := by rw [← hW]; exact heap_set_other Q5.out _ n5 _
  have q6 : W3.heap[w.heap.size + 1 + 1]? = some (.cells #[.int .u64 0, .int .u64 0] 26 (0, 0)) := by rw [← hW]; exact heap_set_other Q6.out _ n6 _
  have q7 : w.Fr W3 [c1, c2, c3] := by rw [← hW]; exact Q7.out.setCell (.inl (by simp)) _
  clear hW a1 g1 a2 g2 a3 b3 g3 a4 b4 g4 a5 b5 g5 a6 b6 g6 Q1 Q2 Q3 Q4 Q5 Q6 Q7
  obtain ⟨a4, b4, g4⟩ := two q4
  obtain ⟨a5, b5, g5⟩ := two q5
  obtain ⟨a6, b6, g6⟩ := two q6
  have r6 := heap_set_other (heap_set_other q1 ⟨w.heap.size + 1 + 1, 0, none⟩ (by simp; omega) (.int .u64 1)) ⟨w.heap.size + 1 + 1, 1, none⟩ (by simp; omega) (.int .u64 ((IntKind.u64.wrap (x2 + y2)).tmod 4611686018427387904))
  have r7 := heap_set_other (heap_set_other q2 ⟨w.heap.size + 1 + 1, 0, none⟩ (by simp; omega) (.int .u64 1)) ⟨w.heap.size + 1 + 1, 1, none⟩ (by simp; omega) (.int .u64 ((IntKind.u64.wrap (x2 + y2)).tmod 4611686018427387904))
  have r8 := heap_set_other (heap_set_other q3 ⟨w.heap.size + 1 + 1, 0, none⟩ (by simp; omega) (.int .u64 1)) ⟨w.heap.size + 1 + 1, 1, none⟩ (by simp; omega) (.int .u64 ((IntKind.u64.wrap (x2 + y2)).tmod 4611686018427387904))
  have hfin : w.Fr ((W3.setCell ⟨w.heap.size + 1 + 1, 0, none⟩ (.int .u64 1)).setCell ⟨w.heap.size + 1 + 1, 1, none⟩ (.int .u64 ((IntKind.u64.wrap (x2 + y2)).tmod 4611686018427387904))) [c1, c2, c3] :=
    (q7.setCell (.inr (by simp; omega)) _).setCell (.inr (by simp; omega)) _
  obtain ⟨d0, d1, df⟩ := two (heap_set_same (heap_set_same q6 0 (.int .u64 1)) 1 (.int .u64 ((IntKind.u64.wrap (x2 + y2)).tmod 4611686018427387904)))
  have R6 := Lib.hid r6; have R7 := Lib.hid r7; have R8 := Lib.hid r8; have Hfin := Lib.hid hfin; clear q1 q2 q3 q4 q5 q6 q7 r6 r7 r8 hfin
  go_wp2
  refine bodyPost_ret (v := tv (1, (IntKind.u64.wrap (x2 + y2)).tmod 4611686018427387904)) (by simp [results, Try.results19, go_sem, d0, d1]) rfl ⟨rfl, Hfin.out, R6.out, R7.out, R8.out⟩
end Go.Proofs.Ytikodccbecmjiaa
