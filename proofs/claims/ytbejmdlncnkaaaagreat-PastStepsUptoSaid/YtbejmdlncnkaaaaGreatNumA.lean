/-
  The document's numbers of 128 bits (4 digits of base 2^32): of, plus. The document's numbers of 128 bits: plus. The document's numbers of 128 bits: less. The document's numbers of 128 bits: compare. The document's numbers of 128 bits, plainly: a number bit by bit. The document's numbers of 128 bits: times.
-/
import Derived.Test.YtbejmdlncnkaaaaGreatFraA
import Derived.Lib.Small
set_option maxRecDepth 100000
set_option maxHeartbeats 16000000
set_option linter.unusedSimpArgs false
namespace Go.Proofs.YtbejmdlncnkaaaaGreat
section
open Go.RowKit
def D0 (n : Nat) : Nat := n % 4294967296
def D1 (n : Nat) : Nat := n / 4294967296 % 4294967296
def D2 (n : Nat) : Nat := n / 18446744073709551616 % 4294967296
def D3 (n : Nat) : Nat := n / 79228162514264337593543950336 % 4294967296
abbrev dcells (a b c d : Nat) : Array Value := #[.int .u64 a, .int .u64 b, .int .u64 c, .int .u64 d]
abbrev bigC (n : Nat) : Array Value := dcells (D0 n) (D1 n) (D2 n) (D3 n)
abbrev bigV (n : Nat) : Value := .agg (bigC n)
theorem dig_lt (n : Nat) : D0 n < 4294967296 /\ D1 n < 4294967296 /\ D2 n < 4294967296 /\ D3 n < 4294967296 := by
 unfold D0 D1 D2 D3
 exact ⟨Nat.mod_lt _ (by decide), Nat.mod_lt _ (by decide), Nat.mod_lt _ (by decide), Nat.mod_lt _ (by decide)⟩
theorem dig_sum {n : Nat} (hn : n < 340282366920938463463374607431768211456) : n = D0 n + D1 n * 4294967296 + D2 n * 18446744073709551616 + D3 n * 79228162514264337593543950336 := by
 unfold D0 D1 D2 D3
 omega
theorem dig_eq {n a b c d : Nat} (ha : a < 4294967296) (hb : b < 4294967296) (hc : c < 4294967296) (hd : d < 4294967296) (h : n = a + b * 4294967296 + c * 18446744073709551616 + d * 79228162514264337593543950336) : D0 n = a /\ D1 n = b /\ D2 n = c /\ D3 n = d := by
 unfold D0 D1 D2 D3
 refine ⟨by omega, by omega, by omega, by omega⟩
theorem rof166 {n : Nat} (hn : n < 18446744073709551616) (w : World) : Calls Tryz.prog 264 #[.int .u64 n] w fun e w' => e = .returned (bigV n) /\ w.Gr w' := by
 have q1 := heap_alloc_at w (.cells (dcells 0 0 0 0) 279) _ rfl
 have q2 := heap_alloc_at (w.alloc (.cells (dcells 0 0 0 0) 279)) (.cells (dcells 0 0 0 0) 279) (w.heap.size + 1) (by simp)
 have q1 := heap_alloc_some q1 (.cells (dcells 0 0 0 0) 279)
 have q3 := ((World.Gr.refl w).alloc (.cells (dcells 0 0 0 0) 279)).alloc (.cells (dcells 0 0 0 0) 279)
 have e0 : (n : Int) % 4294967296 = ((D0 n : Nat) : Int) := by unfold D0; omega
 have e1 : IntKind.u64.wrap ((n : Int) / 4294967296) = ((D1 n : Nat) : Int) := by
  unfold D1; rw [IntWalk.u64_in] <;> omega
 have d2 : D2 n = 0 := by unfold D2; omega
 have d3 : D3 n = 0 := by unfold D3; omega
 have hR : bigV n = .agg (dcells (D0 n) (D1 n) 0 0) := by rw [bigV, bigC, d2, d3]
 rw [hR]
 generalize D0 n = a at *
 generalize D1 n = b at *
 clear d2 d3 hR
 go_enter Tryz.func264, Tryz.ntmps264
 go_upto_region 2 with (fail)
 generalize hW : World.alloc (World.alloc w _) _ = W at *
 clear hW
 obtain ⟨x0, x1, x2, x3, xf⟩ := four' q1
 obtain ⟨y0, y1, y2, y3, yf⟩ := four' q2
 go_wp2
 refine bodyPost_ret (results_cell_row (P := Tryz.prog) rfl _ _ w.heap.size 279 _ (0, 0) _ rfl (four_set (heap_set_other (heap_set_other q1 _ (by simp) _) _ (by simp) _) _ _ _ _) Tryz.underlying279 rfl (by kernel_rfl)) rfl ?_
 exact ⟨rfl, (((((World.Gr.set q3 (Nat.le_add_right _ _) _).set (Nat.le_add_right _ _) _).set (Nat.le_refl _) _).set (Nat.le_refl _) _).set (Nat.le_refl _) _).set (Nat.le_refl _) _⟩
end
section
open Go.RowKit
theorem rplus185 {a b : Nat} (hab : a + b < 340282366920938463463374607431768211456) (w : World) : Calls Tryz.prog 276 #[bigV a, bigV b] w fun e w' => e = .returned (bigV (a + b)) /\ w.Gr w' := by
 obtain ⟨ha0, ha1, ha2, ha3⟩ := dig_lt a
 obtain ⟨hb0, hb1, hb2, hb3⟩ := dig_lt b
 have ea := dig_sum (show a < 340282366920938463463374607431768211456 by omega)
 have eb := dig_sum (show b < 340282366920938463463374607431768211456 by omega)
 unfold bigV bigC
 generalize D0 a = a0 at *
 generalize D1 a = a1 at *
 generalize D2 a = a2 at *
 generalize D3 a = a3 at *
 generalize D0 b = b0 at *
 generalize D1 b = b1 at *
 generalize D2 b = b2 at *
 generalize D3 b = b3 at *
 obtain ⟨n0, hn0⟩ : ∃ n, n = a0 + b0 := ⟨_, rfl⟩
 obtain ⟨c1, hc1⟩ : ∃ n, n = n0 / 4294967296 := ⟨_, rfl⟩
 obtain ⟨d0, hd0⟩ : ∃ n, n = n0 % 4294967296 := ⟨_, rfl⟩
 have hs0 : n0 = d0 + c1 * 4294967296 /\ d0 < 4294967296 := by omega
 obtain ⟨n1, hn1⟩ : ∃ n, n = a1 + b1 + c1 := ⟨_, rfl⟩
 obtain ⟨c2, hc2⟩ : ∃ n, n = n1 / 4294967296 := ⟨_, rfl⟩
 obtain ⟨d1, hd1⟩ : ∃ n, n = n1 % 4294967296 := ⟨_, rfl⟩
 have hs1 : n1 = d1 + c2 * 4294967296 /\ d1 < 4294967296 := by omega
 obtain ⟨n2, hn2⟩ : ∃ n, n = a2 + b2 + c2 := ⟨_, rfl⟩
 obtain ⟨c3, hc3⟩ : ∃ n, n = n2 / 4294967296 := ⟨_, rfl⟩
 obtain ⟨d2, hd2⟩ : ∃ n, n = n2 % 4294967296 := ⟨_, rfl⟩
 have hs2 : n2 = d2 + c3 * 4294967296 /\ d2 < 4294967296 := by omega
 obtain ⟨n3, hn3⟩ : ∃ n, n = a3 + b3 + c3 := ⟨_, rfl⟩
 obtain ⟨c4, hc4⟩ : ∃ n, n = n3 / 4294967296 := ⟨_, rfl⟩
 obtain ⟨d3, hd3⟩ : ∃ n, n = n3 % 4294967296 := ⟨_, rfl⟩
 have hs3 : n3 = d3 + c4 * 4294967296 /\ d3 < 4294967296 := by omega
 obtain ⟨r0, r1, r2, r3⟩ := dig_eq (n := a + b) hs0.2 hs1.2 hs2.2 hs3.2 (by omega)
 rw [r0, r1, r2, r3]
 clear r0 r1 r2 r3 ea eb hab
 have w0 : IntKind.u64.wrap ((a0 : Int) + b0) = (n0 : Int) := by rw [IntWalk.u64_in] <;> omega
 have v0 : IntKind.u64.wrap (n0 : Int) = (n0 : Int) := by rw [IntWalk.u64_in] <;> omega
 have u0 : (n0 : Int) % 4294967296 = (d0 : Int) := by omega
 have t0 : IntKind.u64.wrap ((n0 : Int) / 4294967296) = (c1 : Int) := by rw [IntWalk.u64_in] <;> omega
 have w1 : IntKind.u64.wrap ((a1 : Int) + b1) = ((a1 : Int) + b1) := by rw [IntWalk.u64_in] <;> omega
 have v1 : IntKind.u64.wrap ((a1 : Int) + b1 + c1) = (n1 : Int) := by rw [IntWalk.u64_in] <;> omega
 have u1 : (n1 : Int) % 4294967296 = (d1 : Int) := by omega
 have t1 : IntKind.u64.wrap ((n1 : Int) / 4294967296) = (c2 : Int) := by rw [IntWalk.u64_in] <;> omega
 have w2 : IntKind.u64.wrap ((a2 : Int) + b2) = ((a2 : Int) + b2) := by rw [IntWalk.u64_in] <;> omega
 have v2 : IntKind.u64.wrap ((a2 : Int) + b2 + c2) = (n2 : Int) := by rw [IntWalk.u64_in] <;> omega
 have u2 : (n2 : Int) % 4294967296 = (d2 : Int) := by omega
 have t2 : IntKind.u64.wrap ((n2 : Int) / 4294967296) = (c3 : Int) := by rw [IntWalk.u64_in] <;> omega
 have w3 : IntKind.u64.wrap ((a3 : Int) + b3) = ((a3 : Int) + b3) := by rw [IntWalk.u64_in] <;> omega
 have v3 : IntKind.u64.wrap ((a3 : Int) + b3 + c3) = (n3 : Int) := by rw [IntWalk.u64_in] <;> omega
 have u3 : (n3 : Int) % 4294967296 = (d3 : Int) := by omega
 have t3 : IntKind.u64.wrap ((n3 : Int) / 4294967296) = (c4 : Int) := by rw [IntWalk.u64_in] <;> omega
 clear hn0 hd0 hc1 hs0 hn1 hd1 hc2 hs1 hn2 hd2 hc3 hs2 hn3 hd3 hc4 hs3 ha0 ha1 ha2 ha3 hb0 hb1 hb2 hb3
 have qa := heap_alloc_at w (.cells (dcells a0 a1 a2 a3) 279) _ rfl
 have qb := heap_alloc_at (w.alloc (.cells (dcells a0 a1 a2 a3) 279)) (.cells (dcells b0 b1 b2 b3) 279) (w.heap.size + 1) (by simp)
 have qc := heap_alloc_at ((w.alloc (.cells (dcells a0 a1 a2 a3) 279)).alloc (.cells (dcells b0 b1 b2 b3) 279)) (.cells (dcells 0 0 0 0) 279) (w.heap.size + 2) (by simp)
 have qd := heap_alloc_at (((w.alloc (.cells (dcells a0 a1 a2 a3) 279)).alloc (.cells (dcells b0 b1 b2 b3) 279)).alloc (.cells (dcells 0 0 0 0) 279)) (.cells (dcells 0 0 0 0) 279) (w.heap.size + 3) (by simp)
 have qa := heap_alloc_some (heap_alloc_some (heap_alloc_some qa (.cells (dcells b0 b1 b2 b3) 279)) (.cells (dcells 0 0 0 0) 279)) (.cells (dcells 0 0 0 0) 279)
 have qb := heap_alloc_some (heap_alloc_some qb (.cells (dcells 0 0 0 0) 279)) (.cells (dcells 0 0 0 0) 279)
 have qc := heap_alloc_some qc (.cells (dcells 0 0 0 0) 279)
 have q3 := ((((World.Gr.refl w).alloc (.cells (dcells a0 a1 a2 a3) 279)).alloc (.cells (dcells b0 b1 b2 b3) 279)).alloc (.cells (dcells 0 0 0 0) 279)).alloc (.cells (dcells 0 0 0 0) 279)
 go_enter Tryz.func276, Tryz.ntmps276
 go_upto_region 2 with (fail)
 generalize hW : World.alloc (World.alloc (World.alloc (World.alloc w _) _) _) _ = W at *
 clear hW
 have Qa := Hz qa; have Qb := Hz qb; have Qc := Hz qc; have Qd := Hz qd; have Q3 := Hz q3; clear qa qb qc qd q3
 go_wp2
 go_loopw [6, 7] (fun c i wr => ∃ (j C o0 o1 o2 o3 : Nat), i = .int .i64 j /\ c = .int .u64 C /\ (j = 0 /\ C = 0 /\ o0 = 0 /\ o1 = 0 /\ o2 = 0 /\ o3 = 0 ∨ j = 1 /\ C = c1 /\ o0 = d0 /\ o1 = 0 /\ o2 = 0 /\ o3 = 0 ∨ j = 2 /\ C = c2 /\ o0 = d0 /\ o1 = d1 /\ o2 = 0 /\ o3 = 0 ∨ j = 3 /\ C = c3 /\ o0 = d0 /\ o1 = d1 /\ o2 = d2 /\ o3 = 0 ∨ j = 4 /\ C = c4 /\ o0 = d0 /\ o1 = d1 /\ o2 = d2 /\ o3 = d3) /\ Hid (wr.heap[w.heap.size]? = some (.cells (dcells a0 a1 a2 a3) 279 (0, 0))) /\ Hid (wr.heap[w.heap.size + 1]? = some (.cells (dcells b0 b1 b2 b3) 279 (0, 0))) /\ Hid (wr.heap[w.heap.size + 2]? = some (.cells (dcells 0 0 0 0) 279 (0, 0))) /\ Hid (wr.heap[w.heap.size + 3]? = some (.cells (dcells o0 o1 o2 o3) 279 (0, 0))) /\ Hid (w.Gr wr)) (fun _ i _ => (4 - intOf i).toNat)
 case atStart => exact ⟨0, 0, 0, 0, 0, 0, rfl, rfl, .inl ⟨rfl, rfl, rfl, rfl, rfl, rfl⟩, Qa, Qb, Qc, Qd, Q3⟩
 case round =>
  obtain ⟨j, C, o0, o1, o2, o3, rfl, rfl, hj, HA, HB, HC, HD, HF⟩ := hrel
  clear Qa Qb Qc Qd Q3
  obtain ⟨x0, x1, x2, x3, xf⟩ := four' HA.out
  obtain ⟨y0, y1, y2, y3, yf⟩ := four' HB.out
  obtain ⟨z0, z1, z2, z3, zf⟩ := four' HD.out
  rcases hj with ⟨rfl, rfl, rfl, rfl, rfl, rfl⟩ | ⟨rfl, rfl, rfl, rfl, rfl, rfl⟩ | ⟨rfl, rfl, rfl, rfl, rfl, rfl⟩ | ⟨rfl, rfl, rfl, rfl, rfl, rfl⟩ | ⟨rfl, rfl, rfl, rfl, rfl, rfl⟩
  ·go_wp2
   go_quiet (fail)
   go_wp2
   go_roundw
   ·exact ⟨1, _, _, _, _, _, rfl, rfl, .inr (.inl ⟨rfl, rfl, rfl, rfl, rfl, rfl⟩), Hz (heap_set_other HA.out _ (by simp; omega) _), Hz (heap_set_other HB.out _ (by simp) _), Hz (heap_set_other HC.out _ (by simp) _), Hz (heap_set_same HD.out 0 _), Hz (World.Gr.set (World.Gr.of_drewN HF.out nq) (Nat.le_add_right w.heap.size 3) _)⟩
   ·simp [intOf]
  ·go_wp2
   go_quiet (fail)
   go_wp2
   go_roundw
   ·exact ⟨2, _, _, _, _, _, rfl, rfl, .inr (.inr (.inl ⟨rfl, rfl, rfl, rfl, rfl, rfl⟩)), Hz (heap_set_other HA.out _ (by simp; omega) _), Hz (heap_set_other HB.out _ (by simp) _), Hz (heap_set_other HC.out _ (by simp) _), Hz (heap_set_same HD.out 1 _), Hz (World.Gr.set (World.Gr.of_drewN HF.out nq) (Nat.le_add_right w.heap.size 3) _)⟩
   ·simp [intOf]
  ·go_wp2
   go_quiet (fail)
   go_wp2
   go_roundw
   ·exact ⟨3, _, _, _, _, _, rfl, rfl, .inr (.inr (.inr (.inl ⟨rfl, rfl, rfl, rfl, rfl, rfl⟩))), Hz (heap_set_other HA.out _ (by simp; omega) _), Hz (heap_set_other HB.out _ (by simp) _), Hz (heap_set_other HC.out _ (by simp) _), Hz (heap_set_same HD.out 2 _), Hz (World.Gr.set (World.Gr.of_drewN HF.out nq) (Nat.le_add_right w.heap.size 3) _)⟩
   ·simp [intOf]
  ·go_wp2
   go_quiet (fail)
   go_wp2
   go_roundw
   ·exact ⟨4, _, _, _, _, _, rfl, rfl, .inr (.inr (.inr (.inr (⟨rfl, rfl, rfl, rfl, rfl, rfl⟩)))), Hz (heap_set_other HA.out _ (by simp; omega) _), Hz (heap_set_other HB.out _ (by simp) _), Hz (heap_set_other HC.out _ (by simp) _), Hz (heap_set_same HD.out 3 _), Hz (World.Gr.set (World.Gr.of_drewN HF.out nq) (Nat.le_add_right w.heap.size 3) _)⟩
   ·simp [intOf]
  ·obtain ⟨k0, k1, k2, k3, kf⟩ := four' HC.out
   go_wp2
   refine bodyPost_ret (results_cell_row (P := Tryz.prog) rfl _ _ (w.heap.size + 2) 279 _ (0, 0) _ rfl (four_set HC.out _ _ _ _) Tryz.underlying279 rfl (by kernel_rfl)) rfl ?_
   exact ⟨rfl, (((World.Gr.set HF.out (Nat.le_add_right w.heap.size 2) _).set (Nat.le_add_right w.heap.size 2) _).set (Nat.le_add_right w.heap.size 2) _).set (Nat.le_add_right w.heap.size 2) _⟩
end
section
open Go.RowKit
theorem less_step {a b c : Nat} (ha : a < 4294967296) (hb : b < 4294967296) (hc : c <= 1) : ∃ n c' d : Nat, IntKind.u64.wrap ((a : Int) + 4294967296) = (a : Int) + 4294967296 /\ IntKind.u64.wrap ((a : Int) + 4294967296 - b) = (a : Int) + 4294967296 - b /\ IntKind.u64.wrap ((a : Int) + 4294967296 - b - c) = (n : Int) /\ (n : Int) % 4294967296 = (d : Int) /\ IntKind.u64.wrap ((n : Int) / 4294967296) = (n : Int) / 4294967296 /\ IntKind.u64.wrap (1 - (n : Int) / 4294967296) = (c' : Int) /\ n + c' * 4294967296 = d + 4294967296 /\ d < 4294967296 /\ c' <= 1 /\ (a : Int) + 4294967296 - b - c = n /\ a + c' * 4294967296 = d + b + c := by
 have h1 : ∃ n, n = a + 4294967296 - b - c := ⟨_, rfl⟩
 obtain ⟨n, hn⟩ := h1
 have hn1 : a + 4294967296 = n + b + c := by omega
 have hi : (a : Int) + 4294967296 - b - c = n := by omega
 have hlt : n < 8589934592 := by omega
 clear hn
 refine ⟨n, 1 - n / 4294967296, n % 4294967296, IntWalk.u64_in _ (by omega), IntWalk.u64_in _ (by omega), ?_, by omega, IntWalk.u64_in _ (by omega), ?_, by omega, Nat.mod_lt _ (by decide), by omega, hi, by omega⟩
 ·rw [hi]; exact IntWalk.u64_in _ (by omega)
 ·rw [IntWalk.u64_in _ (by omega)]; omega
theorem less_sum {a b a0 a1 a2 a3 b0 b1 b2 b3 c1 c2 c3 c4 d0 d1 d2 d3 : Nat} (hab : b <= a) (ea : a = a0 + a1 * 4294967296 + a2 * 18446744073709551616 + a3 * 79228162514264337593543950336) (eb : b = b0 + b1 * 4294967296 + b2 * 18446744073709551616 + b3 * 79228162514264337593543950336)
  (q0 : a0 + c1 * 4294967296 = d0 + b0) (q1 : a1 + c2 * 4294967296 = d1 + b1 + c1) (q2 : a2 + c3 * 4294967296 = d2 + b2 + c2) (q3 : a3 + c4 * 4294967296 = d3 + b3 + c3) (l0 : d0 < 4294967296) (l1 : d1 < 4294967296) (l2 : d2 < 4294967296) (l3 : d3 < 4294967296) :
  a - b = d0 + d1 * 4294967296 + d2 * 18446744073709551616 + d3 * 79228162514264337593543950336 := by
 have h1 : a + c4 * 340282366920938463463374607431768211456 = b + (d0 + d1 * 4294967296 + d2 * 18446744073709551616 + d3 * 79228162514264337593543950336) := by
  clear hab l0 l1 l2 l3
  omega
 have h2 : d0 + d1 * 4294967296 + d2 * 18446744073709551616 + d3 * 79228162514264337593543950336 < 340282366920938463463374607431768211456 := by
  clear h1 hab ea eb q0 q1 q2 q3
  omega
 generalize d0 + d1 * 4294967296 + d2 * 18446744073709551616 + d3 * 79228162514264337593543950336 = S at *
 clear ea eb q0 q1 q2 q3 l0 l1 l2 l3
 omega
theorem rless186 {a b : Nat} (ha : a < 340282366920938463463374607431768211456) (hab : b <= a) (w : World) : Calls Tryz.prog 277 #[bigV a, bigV b] w fun e w' => e = .returned (bigV (a - b)) /\ w.Gr w' := by
 obtain ⟨ha0, ha1, ha2, ha3⟩ := dig_lt a
 obtain ⟨hb0, hb1, hb2, hb3⟩ := dig_lt b
 have ea := dig_sum (show a < 340282366920938463463374607431768211456 from ha)
 have eb := dig_sum (show b < 340282366920938463463374607431768211456 by omega)
 unfold bigV bigC
 generalize D0 a = a0 at *
 generalize D1 a = a1 at *
 generalize D2 a = a2 at *
 generalize D3 a = a3 at *
 generalize D0 b = b0 at *
 generalize D1 b = b1 at *
 generalize D2 b = b2 at *
 generalize D3 b = b3 at *
 obtain ⟨n0, c1, d0, w0, v0, x0, u0, s0, t0, p0, l0, m0, i0, j0⟩ := less_step (c := 0) ha0 hb0 (Nat.zero_le 1)
 obtain ⟨n1, c2, d1, w1, v1, x1, u1, s1, t1, p1, l1, m1, i1, j1⟩ := less_step (c := c1) ha1 hb1 m0
 obtain ⟨n2, c3, d2, w2, v2, x2, u2, s2, t2, p2, l2, m2, i2, j2⟩ := less_step (c := c2) ha2 hb2 m1
 obtain ⟨n3, c4, d3, w3, v3, x3, u3, s3, t3, p3, l3, m3, i3, j3⟩ := less_step (c := c3) ha3 hb3 m2
 simp only [Int.natCast_zero, Int.sub_zero, Nat.add_zero] at x0 i0 j0
 obtain ⟨r0, r1, r2, r3⟩ := dig_eq (n := a - b) l0 l1 l2 l3 (less_sum hab ea eb j0 j1 j2 j3 l0 l1 l2 l3)
 rw [r0, r1, r2, r3]
 clear r0 r1 r2 r3 ea eb hab ha
 rw [i0] at v0
 have y0 : IntKind.u64.wrap (n0 : Int) = (n0 : Int) := by rw [<- i0]; rw [<- i0] at v0; exact v0
 have z0' : (a0 : Int) + 4294967296 - b0 = n0 := i0
 clear x0
 have y1 : IntKind.u64.wrap (n1 : Int) = (n1 : Int) := by rw [<- i1]; rw [<- i1] at x1; exact x1
 have y2 : IntKind.u64.wrap (n2 : Int) = (n2 : Int) := by rw [<- i2]; rw [<- i2] at x2; exact x2
 have y3 : IntKind.u64.wrap (n3 : Int) = (n3 : Int) := by rw [<- i3]; rw [<- i3] at x3; exact x3
 clear p0 l0 m0 j0 ha0 hb0 p1 l1 m1 j1 ha1 hb1 p2 l2 m2 j2 ha2 hb2 p3 l3 m3 j3 ha3 hb3
 have qa := heap_alloc_at w (.cells (dcells a0 a1 a2 a3) 279) _ rfl
 have qb := heap_alloc_at (w.alloc (.cells (dcells a0 a1 a2 a3) 279)) (.cells (dcells b0 b1 b2 b3) 279) (w.heap.size + 1) (by simp)
 have qc := heap_alloc_at ((w.alloc (.cells (dcells a0 a1 a2 a3) 279)).alloc (.cells (dcells b0 b1 b2 b3) 279)) (.cells (dcells 0 0 0 0) 279) (w.heap.size + 2) (by simp)
 have qd := heap_alloc_at (((w.alloc (.cells (dcells a0 a1 a2 a3) 279)).alloc (.cells (dcells b0 b1 b2 b3) 279)).alloc (.cells (dcells 0 0 0 0) 279)) (.cells (dcells 0 0 0 0) 279) (w.heap.size + 3) (by simp)
 have qa := heap_alloc_some (heap_alloc_some (heap_alloc_some qa (.cells (dcells b0 b1 b2 b3) 279)) (.cells (dcells 0 0 0 0) 279)) (.cells (dcells 0 0 0 0) 279)
 have qb := heap_alloc_some (heap_alloc_some qb (.cells (dcells 0 0 0 0) 279)) (.cells (dcells 0 0 0 0) 279)
 have qc := heap_alloc_some qc (.cells (dcells 0 0 0 0) 279)
 have q3 := ((((World.Gr.refl w).alloc (.cells (dcells a0 a1 a2 a3) 279)).alloc (.cells (dcells b0 b1 b2 b3) 279)).alloc (.cells (dcells 0 0 0 0) 279)).alloc (.cells (dcells 0 0 0 0) 279)
 go_enter Tryz.func277, Tryz.ntmps277
 go_upto_region 2 with (fail)
 generalize hW : World.alloc (World.alloc (World.alloc (World.alloc w _) _) _) _ = W at *
 clear hW
 have Qa := Hz qa; have Qb := Hz qb; have Qc := Hz qc; have Qd := Hz qd; have Q3 := Hz q3; clear qa qb qc qd q3
 go_wp2
 go_loopw [6, 7] (fun c i wr => ∃ (j C o0 o1 o2 o3 : Nat), i = .int .i64 j /\ c = .int .u64 C /\ (j = 0 /\ C = 0 /\ o0 = 0 /\ o1 = 0 /\ o2 = 0 /\ o3 = 0 ∨ j = 1 /\ C = c1 /\ o0 = d0 /\ o1 = 0 /\ o2 = 0 /\ o3 = 0 ∨ j = 2 /\ C = c2 /\ o0 = d0 /\ o1 = d1 /\ o2 = 0 /\ o3 = 0 ∨ j = 3 /\ C = c3 /\ o0 = d0 /\ o1 = d1 /\ o2 = d2 /\ o3 = 0 ∨ j = 4 /\ C = c4 /\ o0 = d0 /\ o1 = d1 /\ o2 = d2 /\ o3 = d3) /\ Hid (wr.heap[w.heap.size]? = some (.cells (dcells a0 a1 a2 a3) 279 (0, 0))) /\ Hid (wr.heap[w.heap.size + 1]? = some (.cells (dcells b0 b1 b2 b3) 279 (0, 0))) /\ Hid (wr.heap[w.heap.size + 2]? = some (.cells (dcells 0 0 0 0) 279 (0, 0))) /\ Hid (wr.heap[w.heap.size + 3]? = some (.cells (dcells o0 o1 o2 o3) 279 (0, 0))) /\ Hid (w.Gr wr)) (fun _ i _ => (4 - intOf i).toNat)
 case atStart => exact ⟨0, 0, 0, 0, 0, 0, rfl, rfl, .inl ⟨rfl, rfl, rfl, rfl, rfl, rfl⟩, Qa, Qb, Qc, Qd, Q3⟩
 case round =>
  obtain ⟨j, C, o0, o1, o2, o3, rfl, rfl, hj, HA, HB, HC, HD, HF⟩ := hrel
  clear Qa Qb Qc Qd Q3
  obtain ⟨x0, x1, x2, x3, xf⟩ := four' HA.out
  obtain ⟨y0, y1, y2, y3, yf⟩ := four' HB.out
  obtain ⟨z0, z1, z2, z3, zf⟩ := four' HD.out
  rcases hj with ⟨rfl, rfl, rfl, rfl, rfl, rfl⟩ | ⟨rfl, rfl, rfl, rfl, rfl, rfl⟩ | ⟨rfl, rfl, rfl, rfl, rfl, rfl⟩ | ⟨rfl, rfl, rfl, rfl, rfl, rfl⟩ | ⟨rfl, rfl, rfl, rfl, rfl, rfl⟩
  ·go_wp2
   go_quiet (fail)
   go_wp2
   go_roundw
   ·exact ⟨1, _, _, _, _, _, rfl, rfl, .inr (.inl ⟨rfl, rfl, rfl, rfl, rfl, rfl⟩), Hz (heap_set_other HA.out _ (by simp; omega) _), Hz (heap_set_other HB.out _ (by simp) _), Hz (heap_set_other HC.out _ (by simp) _), Hz (heap_set_same HD.out 0 _), Hz (World.Gr.set (World.Gr.of_drewN HF.out nq) (Nat.le_add_right w.heap.size 3) _)⟩
   ·simp [intOf]
  ·go_wp2
   go_quiet (fail)
   go_wp2
   go_roundw
   ·exact ⟨2, _, _, _, _, _, rfl, rfl, .inr (.inr (.inl ⟨rfl, rfl, rfl, rfl, rfl, rfl⟩)), Hz (heap_set_other HA.out _ (by simp; omega) _), Hz (heap_set_other HB.out _ (by simp) _), Hz (heap_set_other HC.out _ (by simp) _), Hz (heap_set_same HD.out 1 _), Hz (World.Gr.set (World.Gr.of_drewN HF.out nq) (Nat.le_add_right w.heap.size 3) _)⟩
   ·simp [intOf]
  ·go_wp2
   go_quiet (fail)
   go_wp2
   go_roundw
   ·exact ⟨3, _, _, _, _, _, rfl, rfl, .inr (.inr (.inr (.inl ⟨rfl, rfl, rfl, rfl, rfl, rfl⟩))), Hz (heap_set_other HA.out _ (by simp; omega) _), Hz (heap_set_other HB.out _ (by simp) _), Hz (heap_set_other HC.out _ (by simp) _), Hz (heap_set_same HD.out 2 _), Hz (World.Gr.set (World.Gr.of_drewN HF.out nq) (Nat.le_add_right w.heap.size 3) _)⟩
   ·simp [intOf]
  ·go_wp2
   go_quiet (fail)
   go_wp2
   go_roundw
   ·exact ⟨4, _, _, _, _, _, rfl, rfl, .inr (.inr (.inr (.inr (⟨rfl, rfl, rfl, rfl, rfl, rfl⟩)))), Hz (heap_set_other HA.out _ (by simp; omega) _), Hz (heap_set_other HB.out _ (by simp) _), Hz (heap_set_other HC.out _ (by simp) _), Hz (heap_set_same HD.out 3 _), Hz (World.Gr.set (World.Gr.of_drewN HF.out nq) (Nat.le_add_right w.heap.size 3) _)⟩
   ·simp [intOf]
  ·obtain ⟨k0, k1, k2, k3, kf⟩ := four' HC.out
   go_wp2
   refine bodyPost_ret (results_cell_row (P := Tryz.prog) rfl _ _ (w.heap.size + 2) 279 _ (0, 0) _ rfl (four_set HC.out _ _ _ _) Tryz.underlying279 rfl (by kernel_rfl)) rfl ?_
   exact ⟨rfl, (((World.Gr.set HF.out (Nat.le_add_right w.heap.size 2) _).set (Nat.le_add_right w.heap.size 2) _).set (Nat.le_add_right w.heap.size 2) _).set (Nat.le_add_right w.heap.size 2) _⟩
end
section
open Go.RowKit
theorem cmp_dig {a b a0 a1 a2 a3 b0 b1 b2 b3 : Nat} (ea : a = a0 + a1 * 4294967296 + a2 * 18446744073709551616 + a3 * 79228162514264337593543950336) (eb : b = b0 + b1 * 4294967296 + b2 * 18446744073709551616 + b3 * 79228162514264337593543950336) (ha0 : a0 < 4294967296) (ha1 : a1 < 4294967296) (ha2 : a2 < 4294967296) (hb0 : b0 < 4294967296) (hb1 : b1 < 4294967296) (hb2 : b2 < 4294967296) :
  Lib.compareInt a b = if a3 < b3 then -1 else if b3 < a3 then 1 else if a2 < b2 then -1 else if b2 < a2 then 1 else if a1 < b1 then -1 else if b1 < a1 then 1 else if a0 < b0 then -1 else if b0 < a0 then 1 else 0 := by
 have low : ∀ {x y z x' y' z' : Nat}, x < 4294967296 -> y < 4294967296 -> z < 4294967296 -> x' < 4294967296 -> y' < 4294967296 -> z' < 4294967296 -> True := fun _ _ _ _ _ _ => trivial
 clear low
 unfold Lib.compareInt
 rcases Nat.lt_trichotomy a3 b3 with h | h | h
 ·rw [if_pos h, if_pos (by omega)]
 ·rw [if_neg (show ¬ a3 < b3 by omega), if_neg (show ¬ b3 < a3 by omega)]
  rcases Nat.lt_trichotomy a2 b2 with h2 | h2 | h2
  ·rw [if_pos h2, if_pos (by omega)]
  ·rw [if_neg (show ¬ a2 < b2 by omega), if_neg (show ¬ b2 < a2 by omega)]
   rcases Nat.lt_trichotomy a1 b1 with h1 | h1 | h1
   ·rw [if_pos h1, if_pos (by omega)]
   ·rw [if_neg (show ¬ a1 < b1 by omega), if_neg (show ¬ b1 < a1 by omega)]
    rcases Nat.lt_trichotomy a0 b0 with h0 | h0 | h0
    ·rw [if_pos h0, if_pos (by omega)]
    ·rw [if_neg (show ¬ a0 < b0 by omega), if_neg (show ¬ b0 < a0 by omega), if_neg (by omega), if_neg (by omega)]
    ·rw [if_neg (show ¬ a0 < b0 by omega), if_pos h0, if_neg (by omega), if_pos (by omega)]
   ·rw [if_neg (show ¬ a1 < b1 by omega), if_pos h1, if_neg (by omega), if_pos (by omega)]
  ·rw [if_neg (show ¬ a2 < b2 by omega), if_pos h2, if_neg (by omega), if_pos (by omega)]
 ·rw [if_neg (show ¬ a3 < b3 by omega), if_pos h, if_neg (by omega), if_pos (by omega)]
theorem rcompare134 {a b : Nat} (ha : a < 340282366920938463463374607431768211456) (hb : b < 340282366920938463463374607431768211456) (w : World) : Calls Tryz.prog 268 #[bigV a, bigV b] w fun e w' => e = .returned (.int .i64 (Lib.compareInt a b)) /\ w.Gr w' := by
 obtain ⟨ha0, ha1, ha2, ha3⟩ := dig_lt a
 obtain ⟨hb0, hb1, hb2, hb3⟩ := dig_lt b
 have hR := cmp_dig (dig_sum ha) (dig_sum hb) ha0 ha1 ha2 hb0 hb1 hb2
 generalize Lib.compareInt a b = R at *
 unfold bigV bigC
 generalize D0 a = a0 at *
 generalize D1 a = a1 at *
 generalize D2 a = a2 at *
 generalize D3 a = a3 at *
 generalize D0 b = b0 at *
 generalize D1 b = b1 at *
 generalize D2 b = b2 at *
 generalize D3 b = b3 at *
 have HR := Hz hR
 clear hR ha0 ha1 ha2 ha3 hb0 hb1 hb2 hb3 ha hb
 have qa := heap_alloc_at w (.cells (dcells a0 a1 a2 a3) 279) _ rfl
 have qb := heap_alloc_at (w.alloc (.cells (dcells a0 a1 a2 a3) 279)) (.cells (dcells b0 b1 b2 b3) 279) (w.heap.size + 1) (by simp)
 have qa := heap_alloc_some qa (.cells (dcells b0 b1 b2 b3) 279)
 have q3 := ((World.Gr.refl w).alloc (.cells (dcells a0 a1 a2 a3) 279)).alloc (.cells (dcells b0 b1 b2 b3) 279)
 go_enter Tryz.func268, Tryz.ntmps268
 go_upto_region 1 with (fail)
 generalize hW : World.alloc (World.alloc w _) _ = W at *
 clear hW
 have Qa := Hz qa; have Qb := Hz qb; have Q3 := Hz q3; clear qa qb q3
 go_wp2
 go_loopw [5] (fun i wr => ∃ j : Int, i = .int .i64 j /\ (j = 3 /\ Hid (True) ∨ j = 2 /\ Hid (a3 = b3) ∨ j = 1 /\ Hid (a3 = b3 /\ a2 = b2) ∨ j = 0 /\ Hid (a3 = b3 /\ a2 = b2 /\ a1 = b1) ∨ j = -1 /\ Hid (a3 = b3 /\ a2 = b2 /\ a1 = b1 /\ a0 = b0)) /\ Hid (wr.heap[w.heap.size]? = some (.cells (dcells a0 a1 a2 a3) 279 (0, 0))) /\ Hid (wr.heap[w.heap.size + 1]? = some (.cells (dcells b0 b1 b2 b3) 279 (0, 0))) /\ Hid (w.Gr wr)) (fun i _ => (intOf i + 1).toNat)
 case atStart => exact ⟨3, rfl, .inl ⟨rfl, Hz trivial⟩, Qa, Qb, Q3⟩
 case round =>
  obtain ⟨j, rfl, hj, HA, HB, HF⟩ := hrel
  clear Qa Qb Q3
  obtain ⟨x0, x1, x2, x3, xf⟩ := four' HA.out
  obtain ⟨y0, y1, y2, y3, yf⟩ := four' HB.out
  rcases hj with ⟨rfl, HE⟩ | ⟨rfl, HE⟩ | ⟨rfl, HE⟩ | ⟨rfl, HE⟩ | ⟨rfl, HE⟩
  ·rcases Nat.lt_trichotomy a3 b3 with h | h | h
   ·have hl : decide (a3 < b3) = true := decide_eq_true h
    have hl' : decide ((a3 : Int) < b3) = true := decide_eq_true (by omega)
    have hr : R = -1 := by have he := HE.out; rw [HR.out, if_pos h]
    subst hr
    clear h
    go_wp2
    go_quiet (fail)
    go_wp2
    go_ret
    exact ⟨rfl, World.Gr.of_drewN HF.out nq⟩
   ·have hl : decide (a3 < b3) = false := decide_eq_false (by omega)
    have hl' : decide ((a3 : Int) < b3) = false := decide_eq_false (by omega)
    have hg : decide (b3 < a3) = false := decide_eq_false (by omega)
    have hg' : decide ((b3 : Int) < a3) = false := decide_eq_false (by omega)
    have H := Hz h
    clear h
    go_wp2
    go_quiet (fail)
    generalize hW1 : wr.drewN nq = w1 at *
    obtain ⟨u0, u1, u2, u3, uf⟩ := four' (w := w1) (by rw [<- hW1]; exact HA.out)
    obtain ⟨v0, v1, v2, v3, vf⟩ := four' (w := w1) (by rw [<- hW1]; exact HB.out)
    go_wp2
    go_quiet (fail)
    go_wp2
    go_roundw
    ·exact ⟨2, rfl, .inr (.inl ⟨rfl, Hz (by have he := HE.out; have h := H.out; omega)⟩), Hz (by rw [<- hW1]; exact HA.out), Hz (by rw [<- hW1]; exact HB.out), Hz (by rw [<- hW1]; exact World.Gr.of_drewN (World.Gr.of_drewN HF.out _) _)⟩
    ·simp [intOf]
   ·have hl : decide (a3 < b3) = false := decide_eq_false (by omega)
    have hl' : decide ((a3 : Int) < b3) = false := decide_eq_false (by omega)
    have hg : decide (b3 < a3) = true := decide_eq_true (by omega)
    have hg' : decide ((b3 : Int) < a3) = true := decide_eq_true (by omega)
    have hr : R = 1 := by have he := HE.out; rw [HR.out, if_neg (show ¬ a3 < b3 by omega), if_pos h]
    subst hr
    clear h
    go_wp2
    go_quiet (fail)
    generalize hW1 : wr.drewN nq = w1 at *
    obtain ⟨u0, u1, u2, u3, uf⟩ := four' (w := w1) (by rw [<- hW1]; exact HA.out)
    obtain ⟨v0, v1, v2, v3, vf⟩ := four' (w := w1) (by rw [<- hW1]; exact HB.out)
    go_wp2
    go_quiet (fail)
    go_wp2
    go_ret
    exact ⟨rfl, by rw [<- hW1]; exact World.Gr.of_drewN (World.Gr.of_drewN HF.out _) _⟩
  ·rcases Nat.lt_trichotomy a2 b2 with h | h | h
   ·have hl : decide (a2 < b2) = true := decide_eq_true h
    have hl' : decide ((a2 : Int) < b2) = true := decide_eq_true (by omega)
    have hr : R = -1 := by have he := HE.out; rw [HR.out, if_neg (show ¬ a3 < b3 by omega), if_neg (show ¬ b3 < a3 by omega), if_pos h]
    subst hr
    clear h
    go_wp2
    go_quiet (fail)
    go_wp2
    go_ret
    exact ⟨rfl, World.Gr.of_drewN HF.out nq⟩
   ·have hl : decide (a2 < b2) = false := decide_eq_false (by omega)
    have hl' : decide ((a2 : Int) < b2) = false := decide_eq_false (by omega)
    have hg : decide (b2 < a2) = false := decide_eq_false (by omega)
    have hg' : decide ((b2 : Int) < a2) = false := decide_eq_false (by omega)
    have H := Hz h
    clear h
    go_wp2
    go_quiet (fail)
    generalize hW1 : wr.drewN nq = w1 at *
    obtain ⟨u0, u1, u2, u3, uf⟩ := four' (w := w1) (by rw [<- hW1]; exact HA.out)
    obtain ⟨v0, v1, v2, v3, vf⟩ := four' (w := w1) (by rw [<- hW1]; exact HB.out)
    go_wp2
    go_quiet (fail)
    go_wp2
    go_roundw
    ·exact ⟨1, rfl, .inr (.inr (.inl ⟨rfl, Hz (by have he := HE.out; have h := H.out; omega)⟩)), Hz (by rw [<- hW1]; exact HA.out), Hz (by rw [<- hW1]; exact HB.out), Hz (by rw [<- hW1]; exact World.Gr.of_drewN (World.Gr.of_drewN HF.out _) _)⟩
    ·simp [intOf]
   ·have hl : decide (a2 < b2) = false := decide_eq_false (by omega)
    have hl' : decide ((a2 : Int) < b2) = false := decide_eq_false (by omega)
    have hg : decide (b2 < a2) = true := decide_eq_true (by omega)
    have hg' : decide ((b2 : Int) < a2) = true := decide_eq_true (by omega)
    have hr : R = 1 := by have he := HE.out; rw [HR.out, if_neg (show ¬ a3 < b3 by omega), if_neg (show ¬ b3 < a3 by omega), if_neg (show ¬ a2 < b2 by omega), if_pos h]
    subst hr
    clear h
    go_wp2
    go_quiet (fail)
    generalize hW1 : wr.drewN nq = w1 at *
    obtain ⟨u0, u1, u2, u3, uf⟩ := four' (w := w1) (by rw [<- hW1]; exact HA.out)
    obtain ⟨v0, v1, v2, v3, vf⟩ := four' (w := w1) (by rw [<- hW1]; exact HB.out)
    go_wp2
    go_quiet (fail)
    go_wp2
    go_ret
    exact ⟨rfl, by rw [<- hW1]; exact World.Gr.of_drewN (World.Gr.of_drewN HF.out _) _⟩
  ·rcases Nat.lt_trichotomy a1 b1 with h | h | h
   ·have hl : decide (a1 < b1) = true := decide_eq_true h
    have hl' : decide ((a1 : Int) < b1) = true := decide_eq_true (by omega)
    have hr : R = -1 := by have he := HE.out; rw [HR.out, if_neg (show ¬ a3 < b3 by omega), if_neg (show ¬ b3 < a3 by omega), if_neg (show ¬ a2 < b2 by omega), if_neg (show ¬ b2 < a2 by omega), if_pos h]
    subst hr
    clear h
    go_wp2
    go_quiet (fail)
    go_wp2
    go_ret
    exact ⟨rfl, World.Gr.of_drewN HF.out nq⟩
   ·have hl : decide (a1 < b1) = false := decide_eq_false (by omega)
    have hl' : decide ((a1 : Int) < b1) = false := decide_eq_false (by omega)
    have hg : decide (b1 < a1) = false := decide_eq_false (by omega)
    have hg' : decide ((b1 : Int) < a1) = false := decide_eq_false (by omega)
    have H := Hz h
    clear h
    go_wp2
    go_quiet (fail)
    generalize hW1 : wr.drewN nq = w1 at *
    obtain ⟨u0, u1, u2, u3, uf⟩ := four' (w := w1) (by rw [<- hW1]; exact HA.out)
    obtain ⟨v0, v1, v2, v3, vf⟩ := four' (w := w1) (by rw [<- hW1]; exact HB.out)
    go_wp2
    go_quiet (fail)
    go_wp2
    go_roundw
    ·exact ⟨0, rfl, .inr (.inr (.inr (.inl ⟨rfl, Hz (by have he := HE.out; have h := H.out; omega)⟩))), Hz (by rw [<- hW1]; exact HA.out), Hz (by rw [<- hW1]; exact HB.out), Hz (by rw [<- hW1]; exact World.Gr.of_drewN (World.Gr.of_drewN HF.out _) _)⟩
    ·simp [intOf]
   ·have hl : decide (a1 < b1) = false := decide_eq_false (by omega)
    have hl' : decide ((a1 : Int) < b1) = false := decide_eq_false (by omega)
    have hg : decide (b1 < a1) = true := decide_eq_true (by omega)
    have hg' : decide ((b1 : Int) < a1) = true := decide_eq_true (by omega)
    have hr : R = 1 := by have he := HE.out; rw [HR.out, if_neg (show ¬ a3 < b3 by omega), if_neg (show ¬ b3 < a3 by omega), if_neg (show ¬ a2 < b2 by omega), if_neg (show ¬ b2 < a2 by omega), if_neg (show ¬ a1 < b1 by omega), if_pos h]
    subst hr
    clear h
    go_wp2
    go_quiet (fail)
    generalize hW1 : wr.drewN nq = w1 at *
    obtain ⟨u0, u1, u2, u3, uf⟩ := four' (w := w1) (by rw [<- hW1]; exact HA.out)
    obtain ⟨v0, v1, v2, v3, vf⟩ := four' (w := w1) (by rw [<- hW1]; exact HB.out)
    go_wp2
    go_quiet (fail)
    go_wp2
    go_ret
    exact ⟨rfl, by rw [<- hW1]; exact World.Gr.of_drewN (World.Gr.of_drewN HF.out _) _⟩
  ·rcases Nat.lt_trichotomy a0 b0 with h | h | h
   ·have hl : decide (a0 < b0) = true := decide_eq_true h
    have hl' : decide ((a0 : Int) < b0) = true := decide_eq_true (by omega)
    have hr : R = -1 := by have he := HE.out; rw [HR.out, if_neg (show ¬ a3 < b3 by omega), if_neg (show ¬ b3 < a3 by omega), if_neg (show ¬ a2 < b2 by omega), if_neg (show ¬ b2 < a2 by omega), if_neg (show ¬ a1 < b1 by omega), if_neg (show ¬ b1 < a1 by omega), if_pos h]
    subst hr
    clear h
    go_wp2
    go_quiet (fail)
    go_wp2
    go_ret
    exact ⟨rfl, World.Gr.of_drewN HF.out nq⟩
   ·have hl : decide (a0 < b0) = false := decide_eq_false (by omega)
    have hl' : decide ((a0 : Int) < b0) = false := decide_eq_false (by omega)
    have hg : decide (b0 < a0) = false := decide_eq_false (by omega)
    have hg' : decide ((b0 : Int) < a0) = false := decide_eq_false (by omega)
    have H := Hz h
    clear h
    go_wp2
    go_quiet (fail)
    generalize hW1 : wr.drewN nq = w1 at *
    obtain ⟨u0, u1, u2, u3, uf⟩ := four' (w := w1) (by rw [<- hW1]; exact HA.out)
    obtain ⟨v0, v1, v2, v3, vf⟩ := four' (w := w1) (by rw [<- hW1]; exact HB.out)
    go_wp2
    go_quiet (fail)
    go_wp2
    go_roundw
    ·exact ⟨-1, rfl, .inr (.inr (.inr (.inr (⟨rfl, Hz (by have he := HE.out; have h := H.out; omega)⟩)))), Hz (by rw [<- hW1]; exact HA.out), Hz (by rw [<- hW1]; exact HB.out), Hz (by rw [<- hW1]; exact World.Gr.of_drewN (World.Gr.of_drewN HF.out _) _)⟩
    ·simp [intOf]
   ·have hl : decide (a0 < b0) = false := decide_eq_false (by omega)
    have hl' : decide ((a0 : Int) < b0) = false := decide_eq_false (by omega)
    have hg : decide (b0 < a0) = true := decide_eq_true (by omega)
    have hg' : decide ((b0 : Int) < a0) = true := decide_eq_true (by omega)
    have hr : R = 1 := by have he := HE.out; rw [HR.out, if_neg (show ¬ a3 < b3 by omega), if_neg (show ¬ b3 < a3 by omega), if_neg (show ¬ a2 < b2 by omega), if_neg (show ¬ b2 < a2 by omega), if_neg (show ¬ a1 < b1 by omega), if_neg (show ¬ b1 < a1 by omega), if_neg (show ¬ a0 < b0 by omega), if_pos h]
    subst hr
    clear h
    go_wp2
    go_quiet (fail)
    generalize hW1 : wr.drewN nq = w1 at *
    obtain ⟨u0, u1, u2, u3, uf⟩ := four' (w := w1) (by rw [<- hW1]; exact HA.out)
    obtain ⟨v0, v1, v2, v3, vf⟩ := four' (w := w1) (by rw [<- hW1]; exact HB.out)
    go_wp2
    go_quiet (fail)
    go_wp2
    go_ret
    exact ⟨rfl, by rw [<- hW1]; exact World.Gr.of_drewN (World.Gr.of_drewN HF.out _) _⟩
  ·have hr : R = 0 := by have he := HE.out; rw [HR.out, if_neg (show ¬ a3 < b3 by omega), if_neg (show ¬ b3 < a3 by omega), if_neg (show ¬ a2 < b2 by omega), if_neg (show ¬ b2 < a2 by omega), if_neg (show ¬ a1 < b1 by omega), if_neg (show ¬ b1 < a1 by omega), if_neg (show ¬ a0 < b0 by omega), if_neg (show ¬ b0 < a0 by omega)]
   subst hr
   go_wp2
   go_ret
   exact ⟨rfl, HF.out⟩
end
section
open Go.RowKit
theorem low_bit {x r : Nat} (hr : r < 32) : x % 4294967296 / 2 ^ r % 2 = x / 2 ^ r % 2 := by
 have h1 : (4294967296 : Nat) = 2 ^ r * 2 ^ (32 - r) := by rw [<- Nat.pow_add, show r + (32 - r) = 32 by omega]
 rw [h1, Nat.mod_mul_right_div_self]
 exact Nat.mod_mod_of_dvd _ ⟨2 ^ (31 - r), by rw [<- Nat.pow_succ', show (31 - r).succ = 32 - r by omega]⟩
theorem bit_nat (q : Nat) {B a r : Nat} (hB : B = 2 ^ (32 * q)) (hr : r < 32) : a / B % 4294967296 / 2 ^ r % 2 = a / 2 ^ (32 * q + r) % 2 := by
 rw [low_bit hr, hB, Nat.div_div_eq_div_mul, <- Nat.pow_add]
theorem bit_int {x r n : Nat} (h : x / 2 ^ r % 2 = n) : ((x : Int) / 2 ^ r).tmod 2 = (n : Int) := by
 have e1 : (x : Int) / 2 ^ r = ((x / 2 ^ r : Nat) : Int) := by rw [Int.natCast_ediv, Int.natCast_pow]; rfl
 rw [e1]
 clear e1
 generalize x / 2 ^ r = y at *
 rw [Int.tmod_eq_emod_of_nonneg (by omega)]
 omega
theorem bit0 {a r : Nat} (hr : r < 32) : ((D0 a : Int) / 2 ^ r).tmod 2 = ((a / 2 ^ (32 * 0 + r) % 2 : Nat) : Int) := bit_int (by rw [<- bit_nat 0 (B := 1) (by rfl) hr, Nat.div_one]; rfl)
theorem bit1 {a r : Nat} (hr : r < 32) : ((D1 a : Int) / 2 ^ r).tmod 2 = ((a / 2 ^ (32 * 1 + r) % 2 : Nat) : Int) := bit_int (bit_nat 1 (by decide) hr)
theorem bit2 {a r : Nat} (hr : r < 32) : ((D2 a : Int) / 2 ^ r).tmod 2 = ((a / 2 ^ (32 * 2 + r) % 2 : Nat) : Int) := bit_int (bit_nat 2 (by decide) hr)
theorem bit3 {a r : Nat} (hr : r < 32) : ((D3 a : Int) / 2 ^ r).tmod 2 = ((a / 2 ^ (32 * 3 + r) % 2 : Nat) : Int) := bit_int (bit_nat 3 (by decide) hr)
theorem half_div (a i : Nat) : a / 2 ^ i = 2 * (a / 2 ^ (i + 1)) + a / 2 ^ i % 2 := by
 rw [Nat.pow_succ, <- Nat.div_div_eq_div_mul]
 omega
theorem twice_bit {R n : Nat} (hn : n < 2) : D0 (R + R) + n = D0 (R + R + n) /\ D1 (R + R) = D1 (R + R + n) /\ D2 (R + R) = D2 (R + R + n) /\ D3 (R + R) = D3 (R + R + n) /\ D0 (R + R) + n < 4294967296 := by
 unfold D0 D1 D2 D3
 refine ⟨by omega, by omega, by omega, by omega, by omega⟩
theorem div_step {X b n : Nat} (hb : 0 < b) (hn : n < 2) :
  (2 * X + n) / b = 2 * (X / b) + (if b <= X % b + X % b + n then 1 else 0) /\ (2 * X + n) % b = (if b <= X % b + X % b + n then X % b + X % b + n - b else X % b + X % b + n) := by
 have hlt := Nat.mod_lt X hb
 have hX := Nat.div_add_mod X b
 generalize X % b = R at *
 generalize X / b = Q at *
 have e : 2 * X + n = b * (2 * Q) + (R + R + n) := by
  rw [<- hX, Nat.mul_add, Nat.mul_left_comm]; omega
 rw [e, Nat.mul_add_div hb, Nat.mul_add_mod]
 by_cases h : b <= R + R + n
 ·rw [if_pos h, if_pos h]
  have h2 : R + R + n = (R + R + n - b) + b := by omega
  refine ⟨?_, ?_⟩
  ·rw [h2, Nat.add_div_right _ hb, Nat.div_eq_of_lt (by omega)]
  ·rw [Nat.mod_eq_sub_mod h, Nat.mod_eq_of_lt (by omega)]
 ·rw [if_neg h, if_neg h]
  exact ⟨by rw [Nat.div_eq_of_lt (by omega)], Nat.mod_eq_of_lt (by omega)⟩
theorem room {U r : Nat} (hr : r < 32) : U * 2 ^ (r + 1) % 4294967296 + 2 ^ r < 4294967296 := by
 have h1 : (4294967296 : Nat) = 2 ^ (31 - r) * 2 ^ (r + 1) := by rw [<- Nat.pow_add, show 31 - r + (r + 1) = 32 by omega]
 have h2 : U * 2 ^ (r + 1) % 4294967296 = U % 2 ^ (31 - r) * 2 ^ (r + 1) := by
  rw [h1, Nat.mul_mod_mul_right]
 rw [h2]
 have h3 : U % 2 ^ (31 - r) + 1 <= 2 ^ (31 - r) := Nat.mod_lt _ (Nat.two_pow_pos _)
 have h4 := Nat.mul_le_mul_right (2 ^ (r + 1)) h3
 rw [<- h1, Nat.add_mul, Nat.one_mul] at h4
 have h5 : 2 ^ r < 2 ^ (r + 1) := Nat.pow_lt_pow_right (by decide) (by omega)
 omega
theorem dig_add0 {U r : Nat} (hr : r < 32) : D0 (U * 2 ^ (32 * 0 + r + 1)) + 2 ^ r = D0 (U * 2 ^ (32 * 0 + r + 1) + 2 ^ (32 * 0 + r)) /\ D1 (U * 2 ^ (32 * 0 + r + 1)) = D1 (U * 2 ^ (32 * 0 + r + 1) + 2 ^ (32 * 0 + r)) /\ D2 (U * 2 ^ (32 * 0 + r + 1)) = D2 (U * 2 ^ (32 * 0 + r + 1) + 2 ^ (32 * 0 + r)) /\ D3 (U * 2 ^ (32 * 0 + r + 1)) = D3 (U * 2 ^ (32 * 0 + r + 1) + 2 ^ (32 * 0 + r)) /\ D0 (U * 2 ^ (32 * 0 + r + 1)) + 2 ^ r < 4294967296 := by
 have h := room (U := U) hr
 rw [show 32 * 0 + r + 1 = r + 1 by omega, show 32 * 0 + r = r by omega]
 generalize U * 2 ^ (r + 1) = V at *
 generalize 2 ^ r = P at *
 unfold D0 D1 D2 D3
 refine ⟨by omega, by omega, by omega, by omega, by omega⟩
theorem dig_add1 {U r : Nat} (hr : r < 32) : D0 (U * 2 ^ (32 * 1 + r + 1)) = D0 (U * 2 ^ (32 * 1 + r + 1) + 2 ^ (32 * 1 + r)) /\ D1 (U * 2 ^ (32 * 1 + r + 1)) + 2 ^ r = D1 (U * 2 ^ (32 * 1 + r + 1) + 2 ^ (32 * 1 + r)) /\ D2 (U * 2 ^ (32 * 1 + r + 1)) = D2 (U * 2 ^ (32 * 1 + r + 1) + 2 ^ (32 * 1 + r)) /\ D3 (U * 2 ^ (32 * 1 + r + 1)) = D3 (U * 2 ^ (32 * 1 + r + 1) + 2 ^ (32 * 1 + r)) /\ D1 (U * 2 ^ (32 * 1 + r + 1)) + 2 ^ r < 4294967296 := by
 have h := room (U := U) hr
 rw [show U * 2 ^ (32 * 1 + r + 1) = U * 2 ^ (r + 1) * 4294967296 by rw [show 32 * 1 + r + 1 = (r + 1) + 32 by omega, Nat.pow_add _ (r + 1) 32, Nat.mul_assoc], show 2 ^ (32 * 1 + r) = 2 ^ r * 4294967296 by rw [show 32 * 1 + r = r + 32 by omega, Nat.pow_add]]
 generalize U * 2 ^ (r + 1) = V at *
 generalize 2 ^ r = P at *
 unfold D0 D1 D2 D3
 refine ⟨by omega, by omega, by omega, by omega, by omega⟩
theorem dig_add2 {U r : Nat} (hr : r < 32) : D0 (U * 2 ^ (32 * 2 + r + 1)) = D0 (U * 2 ^ (32 * 2 + r + 1) + 2 ^ (32 * 2 + r)) /\ D1 (U * 2 ^ (32 * 2 + r + 1)) = D1 (U * 2 ^ (32 * 2 + r + 1) + 2 ^ (32 * 2 + r)) /\ D2 (U * 2 ^ (32 * 2 + r + 1)) + 2 ^ r = D2 (U * 2 ^ (32 * 2 + r + 1) + 2 ^ (32 * 2 + r)) /\ D3 (U * 2 ^ (32 * 2 + r + 1)) = D3 (U * 2 ^ (32 * 2 + r + 1) + 2 ^ (32 * 2 + r)) /\ D2 (U * 2 ^ (32 * 2 + r + 1)) + 2 ^ r < 4294967296 := by
 have h := room (U := U) hr
 rw [show U * 2 ^ (32 * 2 + r + 1) = U * 2 ^ (r + 1) * 18446744073709551616 by rw [show 32 * 2 + r + 1 = (r + 1) + 64 by omega, Nat.pow_add _ (r + 1) 64, Nat.mul_assoc], show 2 ^ (32 * 2 + r) = 2 ^ r * 18446744073709551616 by rw [show 32 * 2 + r = r + 64 by omega, Nat.pow_add]]
 generalize U * 2 ^ (r + 1) = V at *
 generalize 2 ^ r = P at *
 unfold D0 D1 D2 D3
 refine ⟨by omega, by omega, by omega, by omega, by omega⟩
theorem dig_add3 {U r : Nat} (hr : r < 32) : D0 (U * 2 ^ (32 * 3 + r + 1)) = D0 (U * 2 ^ (32 * 3 + r + 1) + 2 ^ (32 * 3 + r)) /\ D1 (U * 2 ^ (32 * 3 + r + 1)) = D1 (U * 2 ^ (32 * 3 + r + 1) + 2 ^ (32 * 3 + r)) /\ D2 (U * 2 ^ (32 * 3 + r + 1)) = D2 (U * 2 ^ (32 * 3 + r + 1) + 2 ^ (32 * 3 + r)) /\ D3 (U * 2 ^ (32 * 3 + r + 1)) + 2 ^ r = D3 (U * 2 ^ (32 * 3 + r + 1) + 2 ^ (32 * 3 + r)) /\ D3 (U * 2 ^ (32 * 3 + r + 1)) + 2 ^ r < 4294967296 := by
 have h := room (U := U) hr
 rw [show U * 2 ^ (32 * 3 + r + 1) = U * 2 ^ (r + 1) * 79228162514264337593543950336 by rw [show 32 * 3 + r + 1 = (r + 1) + 96 by omega, Nat.pow_add _ (r + 1) 96, Nat.mul_assoc], show 2 ^ (32 * 3 + r) = 2 ^ r * 79228162514264337593543950336 by rw [show 32 * 3 + r = r + 96 by omega, Nat.pow_add]]
 generalize U * 2 ^ (r + 1) = V at *
 generalize 2 ^ r = P at *
 unfold D0 D1 D2 D3
 refine ⟨by omega, by omega, by omega, by omega, by omega⟩
end
section
open Go.RowKit
theorem times_sum {x y a0 a1 b0 b1 c1 c2 c3 c4 o0 o1 o2 o3 : Nat} (ex : x = a0 + a1 * 4294967296) (ey : y = b0 + b1 * 4294967296)
  (h0 : a0 * b0 = o0 + c1 * 4294967296) (h1 : a0 * b1 + c1 = o1 + c2 * 4294967296) (h2 : o1 + a1 * b0 = o2 + c3 * 4294967296) (h3 : c2 + a1 * b1 + c3 = o3 + c4 * 4294967296) :
  x * y = o0 + o2 * 4294967296 + o3 * 18446744073709551616 + c4 * 79228162514264337593543950336 := by
 have e : x * y = a0 * b0 + (a0 * b1 + a1 * b0) * 4294967296 + a1 * b1 * 18446744073709551616 := by
  rw [ex, ey, Nat.add_mul, Nat.mul_add, Nat.mul_add, <- Nat.mul_assoc a0, Nat.mul_right_comm a1 4294967296 b0, Nat.mul_mul_mul_comm a1 4294967296 b1 4294967296]
  omega
 rw [e]
 generalize a0 * b0 = p at *
 generalize a0 * b1 = q at *
 generalize a1 * b0 = r at *
 generalize a1 * b1 = s at *
 clear e ex ey
 omega
theorem times_step {a b o c : Nat} (ha : a < 4294967296) (hb : b < 4294967296) (ho : o < 4294967296) (hc : c < 4294967296) : ∃ p m n d c' : Nat, p = a * b /\ IntKind.u64.wrap ((a : Int) * b) = (p : Int) /\ IntKind.u64.wrap ((o : Int) + p) = (m : Int) /\ IntKind.u64.wrap ((m : Int) + c) = (n : Int) /\ (n : Int) % 4294967296 = (d : Int) /\ IntKind.u64.wrap ((n : Int) / 4294967296) = (c' : Int) /\ o + a * b + c = d + c' * 4294967296 /\ d < 4294967296 /\ c' < 4294967296 /\ IntKind.u64.wrap (p : Int) = (p : Int) /\ IntKind.u64.wrap (m : Int) = (m : Int) /\ IntKind.u64.wrap (c' : Int) = (c' : Int) /\ (m : Int) = o + p /\ (n : Int) = m + c := by
 have hp : a * b <= 4294967295 * 4294967295 := Nat.mul_le_mul (by omega) (by omega)
 have hi : (a : Int) * b = ((a * b : Nat) : Int) := by rw [Int.natCast_mul]
 refine ⟨a * b, o + a * b, o + a * b + c, (o + a * b + c) % 4294967296, (o + a * b + c) / 4294967296, rfl, ?_, ?_, ?_, ?_, ?_, ?_, Nat.mod_lt _ (by decide), ?_, ?_, ?_, ?_, ?_, ?_⟩
 ·rw [hi]; exact IntWalk.u64_in _ (by omega)
 all_goals generalize a * b = p at *; clear hi
 ·rw [IntWalk.u64_in _ (by omega)]; omega
 ·rw [IntWalk.u64_in _ (by omega)]; omega
 ·omega
 ·rw [IntWalk.u64_in _ (by omega)]; omega
 ·omega
 ·omega
 ·exact IntWalk.u64_in _ (by omega)
 ·exact IntWalk.u64_in _ (by omega)
 ·exact IntWalk.u64_in _ (by omega)
 ·omega
 ·omega
theorem zz0 {z P o c : Nat} (hz : z = 0) (h : z + P + z = o + c * 4294967296) : P = o + c * 4294967296 := by omega
theorem zz1 {z P k o c : Nat} (hz : z = 0) (h : z + P + k = o + c * 4294967296) : P + k = o + c * 4294967296 := by omega
theorem zz2 {z P k o c : Nat} (hz : z = 0) (h : k + P + z = o + c * 4294967296) : k + P = o + c * 4294967296 := by omega
theorem zz3 {z p m n : Nat} (hz : z = 0) (h : (m : Int) = z + p) (k : (n : Int) = m + z) : p = m /\ m = n := by omega
theorem zz4 {z p m : Nat} (hz : z = 0) (h : (m : Int) = z + p) : p = m := by omega
theorem zz5 {z m n : Nat} (hz : z = 0) (k : (n : Int) = m + z) : m = n := by omega
theorem rtimes132 {x y : Nat} (hx : x < 18446744073709551616) (hy : y < 18446744073709551616) (w : World) : Calls Tryz.prog 267 #[.int .u64 x, .int .u64 y] w fun e w' => e = .returned (bigV (x * y)) /\ w.Gr w' := by
 have cx := fun w => rof166 hx w
 have cy := fun w => rof166 hy w
 obtain ⟨ha0, ha1, ha2, ha3⟩ := dig_lt x
 obtain ⟨hb0, hb1, hb2, hb3⟩ := dig_lt y
 have zx : D2 x = 0 /\ D3 x = 0 := by unfold D2 D3; omega
 have zy : D2 y = 0 /\ D3 y = 0 := by unfold D2 D3; omega
 have ex : x = D0 x + D1 x * 4294967296 := by unfold D0 D1; omega
 have ey : y = D0 y + D1 y * 4294967296 := by unfold D0 D1; omega
 have bx : bigV x = .agg (dcells (D0 x) (D1 x) 0 0) := by rw [bigV, bigC, zx.1, zx.2]
 have bY : bigV y = .agg (dcells (D0 y) (D1 y) 0 0) := by rw [bigV, bigC, zy.1, zy.2]
 simp only [bx] at cx
 simp only [bY] at cy
 clear zx zy bx bY ha2 ha3 hb2 hb3 hx hy
 generalize D0 x = a0 at *
 generalize D1 x = a1 at *
 generalize D0 y = b0 at *
 generalize D1 y = b1 at *
 obtain ⟨z, hz⟩ : ∃ z : Nat, z = 0 := ⟨0, rfl⟩
 have hz1 : z < 4294967296 := by omega
 obtain ⟨p0, m0, n0, o0, c1, r0, s0, t0, u0, v0, g0, h0, k0, l0, e0, f0, d0, i0, j0⟩ := times_step ha0 hb0 hz1 hz1
 obtain ⟨p1, m1, n1, o1, c2, r1, s1, t1, u1, v1, g1, h1, k1, l1, e1, f1, d1, i1, j1⟩ := times_step ha0 hb1 hz1 l0
 obtain ⟨p2, m2, n2, o2, c3, r2, s2, t2, u2, v2, g2, h2, k2, l2, e2, f2, d2, i2, j2⟩ := times_step ha1 hb0 k1 hz1
 obtain ⟨p3, m3, n3, o3, c4, r3, s3, t3, u3, v3, g3, h3, k3, l3, e3, f3, d3, i3, j3⟩ := times_step ha1 hb1 l1 l2
 have q := times_sum ex ey (zz0 hz h0) (zz1 hz h1) (zz2 hz h2) h3
 obtain ⟨q0, q1, q2, q3⟩ := dig_eq k0 k2 k3 l3 q
 unfold bigV bigC
 rw [q0, q1, q2, q3]
 obtain ⟨E1, E2⟩ := zz3 hz i0 j0
 have E3 := zz4 hz i1
 have E4 := zz5 hz j2
 clear q q0 q1 q2 q3 r0 r1 r2 r3 h0 h1 h2 h3 k0 k1 k2 k3 l0 l1 l2 l3 ex ey ha0 ha1 hb0 hb1 i0 j0 i1 j1 i2 j2 i3 j3 t0 u0 t1 u2 hz1 hz z
 subst E2 E1 E3 E4
 have Cx := Hz cx; have Cy := Hz cy; clear cx cy
 have qa := heap_alloc_at w (.cells (dcells 0 0 0 0) 279) _ rfl
 have q3 := (World.Gr.refl w).alloc (.cells (dcells 0 0 0 0) 279)
 go_enter Tryz.func267, Tryz.ntmps267
 go_upto_region 1 with (fail)
 generalize hW : World.alloc w _ = W at *
 clear hW
 have Qa := Hz qa; have Q3 := Hz q3; clear qa q3
 go_wp2_with fail
 refine (Cx.out _).mono ?_
 rintro e w1 ⟨rfl, g⟩
 have qa := g.fr.heap Qa.out (by simp); have q3 := Q3.out.trans g
 clear Qa Q3 g
 have hp5 : w.heap.size < w1.heap.size := (Array.getElem?_eq_some_iff.1 qa).1
 have qb := heap_alloc_at w1 (.cells (dcells a0 a1 0 0) 279) _ rfl
 have qa := heap_alloc_some qa (.cells (dcells a0 a1 0 0) 279)
 have q3 := q3.alloc (.cells (dcells a0 a1 0 0) 279)
 go_upto_region 2 with (fail)
 generalize hW : World.alloc w1 _ = w2 at *
 clear hW
 generalize w1.heap.size = p5 at *
 have Qa := Hz qa; have Qb := Hz qb; have Q3 := Hz q3; clear qa qb q3
 go_wp2_with fail
 refine (Cy.out _).mono ?_
 rintro e w3 ⟨rfl, g⟩
 have qa := g.fr.heap Qa.out (by simp); have qb := g.fr.heap Qb.out (by simp); have q3 := Q3.out.trans g
 clear Qa Qb Q3 g
 have hp6 : p5 < w3.heap.size := (Array.getElem?_eq_some_iff.1 qb).1
 have qc := heap_alloc_at w3 (.cells (dcells b0 b1 0 0) 279) _ rfl
 have qa := heap_alloc_some qa (.cells (dcells b0 b1 0 0) 279)
 have qb := heap_alloc_some qb (.cells (dcells b0 b1 0 0) 279)
 have q3 := q3.alloc (.cells (dcells b0 b1 0 0) 279)
 go_upto_region 3 with (fail)
 generalize hW : World.alloc w3 _ = w4 at *
 clear hW
 generalize w3.heap.size = p6 at *
 have hp7 : p6 < w4.heap.size := (Array.getElem?_eq_some_iff.1 qc).1
 have qd := heap_alloc_at w4 (.cells (dcells 0 0 0 0) 279) _ rfl
 have qa := heap_alloc_some qa (.cells (dcells 0 0 0 0) 279)
 have qb := heap_alloc_some qb (.cells (dcells 0 0 0 0) 279)
 have qc := heap_alloc_some qc (.cells (dcells 0 0 0 0) 279)
 have q3 := q3.alloc (.cells (dcells 0 0 0 0) 279)
 go_upto_region 4 with (fail)
 generalize hW : World.alloc w4 _ = w5 at *
 clear hW
 generalize w4.heap.size = p7 at *
 have Qa := Hz qa; have Qb := Hz qb; have Qc := Hz qc; have Qd := Hz qd; have Q3 := Hz q3; clear qa qb qc qd q3
 go_wp2
 go_loopw [8] (fun i wr => ∃ (j z0 z1 z2 z3 : Nat), i = .int .i64 j /\ (j = 0 /\ z0 = 0 /\ z1 = 0 /\ z2 = 0 /\ z3 = 0 ∨ j = 1 /\ o0 = z0 /\ o1 = z1 /\ c2 = z2 /\ z3 = 0 ∨ j = 2 /\ o0 = z0 /\ o2 = z1 /\ o3 = z2 /\ c4 = z3) /\ Hid (wr.heap[w.heap.size]? = some (.cells (dcells 0 0 0 0) 279 (0, 0))) /\ Hid (wr.heap[p5]? = some (.cells (dcells a0 a1 0 0) 279 (0, 0))) /\ Hid (wr.heap[p6]? = some (.cells (dcells b0 b1 0 0) 279 (0, 0))) /\ Hid (wr.heap[p7]? = some (.cells (dcells z0 z1 z2 z3) 279 (0, 0))) /\ Hid (w.Gr wr)) (fun i _ => (2 - intOf i).toNat)
 case atStart => exact ⟨0, 0, 0, 0, 0, rfl, .inl ⟨rfl, rfl, rfl, rfl, rfl⟩, Qa, Qb, Qc, Qd, Q3⟩
 case round =>
  obtain ⟨j, z0, z1, z2, z3, rfl, hj, HA, HB, HC, HD, HF⟩ := hrel
  clear Qa Qb Qc Qd Q3
  rcases hj with ⟨rfl, rfl, rfl, rfl, rfl⟩ | ⟨rfl, rfl, rfl, rfl, rfl⟩ | ⟨rfl, rfl, rfl, rfl, rfl⟩
  ·go_wp2
   go_loopw [9, 10] (fun c i wq => ∃ (j C y0 y1 y2 y3 : Nat), i = .int .i64 j /\ c = .int .u64 C /\ (j = 0 /\ C = 0 /\ y0 = 0 /\ y1 = 0 /\ y2 = 0 /\ y3 = 0 ∨ j = 1 /\ c1 = C /\ o0 = y0 /\ y1 = 0 /\ y2 = 0 /\ y3 = 0 ∨ j = 2 /\ c2 = C /\ o0 = y0 /\ o1 = y1 /\ y2 = 0 /\ y3 = 0) /\ Hid (wq.heap[w.heap.size]? = some (.cells (dcells 0 0 0 0) 279 (0, 0))) /\ Hid (wq.heap[p5]? = some (.cells (dcells a0 a1 0 0) 279 (0, 0))) /\ Hid (wq.heap[p6]? = some (.cells (dcells b0 b1 0 0) 279 (0, 0))) /\ Hid (wq.heap[p7]? = some (.cells (dcells y0 y1 y2 y3) 279 (0, 0))) /\ Hid (w.Gr wq)) (fun _ i _ => (2 - intOf i).toNat)
   case atStart => exact ⟨0, 0, _, _, _, _, rfl, rfl, .inl ⟨rfl, rfl, rfl, rfl, rfl, rfl⟩, HA, HB, HC, HD, HF⟩
   case round =>
    obtain ⟨j, C, y0, y1, y2, y3, rfl, rfl, hj, HA, HB, HC, HD, HF⟩ := hrel
    obtain ⟨x0, x1, x2, x3, xf⟩ := four' HB.out
    obtain ⟨u0, u1, u2, u3, uf⟩ := four' HC.out
    obtain ⟨v0, v1, v2, v3, vf⟩ := four' HD.out
    rcases hj with ⟨rfl, rfl, rfl, rfl, rfl, rfl⟩ | ⟨rfl, rfl, rfl, rfl, rfl, rfl⟩ | ⟨rfl, rfl, rfl, rfl, rfl, rfl⟩
    ·go_wp2
     go_quiet (fail)
     go_wp2
     go_roundw
     ·exact ⟨1, _, _, _, _, _, rfl, rfl, .inr (.inl ⟨rfl, rfl, rfl, rfl, rfl, rfl⟩), Hz (heap_set_other HA.out _ (by show w.heap.size ≠ p7; omega) _), Hz (heap_set_other HB.out _ (by show p5 ≠ p7; omega) _), Hz (heap_set_other HC.out _ (by show p6 ≠ p7; omega) _), Hz (heap_set_same HD.out 0 _), Hz (World.Gr.set (World.Gr.of_drewN HF.out nq) (by show w.heap.size <= p7; omega) _)⟩
     ·simp [intOf]
    ·go_wp2
     go_quiet (fail)
     go_wp2
     go_roundw
     ·exact ⟨2, _, _, _, _, _, rfl, rfl, .inr (.inr ⟨rfl, rfl, rfl, rfl, rfl, rfl⟩), Hz (heap_set_other HA.out _ (by show w.heap.size ≠ p7; omega) _), Hz (heap_set_other HB.out _ (by show p5 ≠ p7; omega) _), Hz (heap_set_other HC.out _ (by show p6 ≠ p7; omega) _), Hz (heap_set_same HD.out 1 _), Hz (World.Gr.set (World.Gr.of_drewN HF.out nq) (by show w.heap.size <= p7; omega) _)⟩
     ·simp [intOf]
    ·go_wp2
     go_roundw
     ·exact ⟨1, _, _, _, _, rfl, .inr (.inl ⟨rfl, rfl, rfl, rfl, rfl⟩), Hz (heap_set_other HA.out _ (by show w.heap.size ≠ p7; omega) _), Hz (heap_set_other HB.out _ (by show p5 ≠ p7; omega) _), Hz (heap_set_other HC.out _ (by show p6 ≠ p7; omega) _), Hz (heap_set_same HD.out 2 _), Hz (World.Gr.set HF.out (by show w.heap.size <= p7; omega) _)⟩
     ·simp [intOf]
  ·go_wp2
   go_loopw [9, 10] (fun c i wq => ∃ (j C y0 y1 y2 y3 : Nat), i = .int .i64 j /\ c = .int .u64 C /\ (j = 0 /\ C = 0 /\ o0 = y0 /\ o1 = y1 /\ c2 = y2 /\ y3 = 0 ∨ j = 1 /\ c3 = C /\ o0 = y0 /\ o2 = y1 /\ c2 = y2 /\ y3 = 0 ∨ j = 2 /\ c4 = C /\ o0 = y0 /\ o2 = y1 /\ o3 = y2 /\ y3 = 0) /\ Hid (wq.heap[w.heap.size]? = some (.cells (dcells 0 0 0 0) 279 (0, 0))) /\ Hid (wq.heap[p5]? = some (.cells (dcells a0 a1 0 0) 279 (0, 0))) /\ Hid (wq.heap[p6]? = some (.cells (dcells b0 b1 0 0) 279 (0, 0))) /\ Hid (wq.heap[p7]? = some (.cells (dcells y0 y1 y2 y3) 279 (0, 0))) /\ Hid (w.Gr wq)) (fun _ i _ => (2 - intOf i).toNat)
   case atStart => exact ⟨0, 0, _, _, _, _, rfl, rfl, .inl ⟨rfl, rfl, rfl, rfl, rfl, rfl⟩, HA, HB, HC, HD, HF⟩
   case round =>
    obtain ⟨j, C, y0, y1, y2, y3, rfl, rfl, hj, HA, HB, HC, HD, HF⟩ := hrel
    obtain ⟨x0, x1, x2, x3, xf⟩ := four' HB.out
    obtain ⟨u0, u1, u2, u3, uf⟩ := four' HC.out
    obtain ⟨v0, v1, v2, v3, vf⟩ := four' HD.out
    rcases hj with ⟨rfl, rfl, rfl, rfl, rfl, rfl⟩ | ⟨rfl, rfl, rfl, rfl, rfl, rfl⟩ | ⟨rfl, rfl, rfl, rfl, rfl, rfl⟩
    ·go_wp2
     go_quiet (fail)
     go_wp2
     go_roundw
     ·exact ⟨1, _, _, _, _, _, rfl, rfl, .inr (.inl ⟨rfl, rfl, rfl, rfl, rfl, rfl⟩), Hz (heap_set_other HA.out _ (by show w.heap.size ≠ p7; omega) _), Hz (heap_set_other HB.out _ (by show p5 ≠ p7; omega) _), Hz (heap_set_other HC.out _ (by show p6 ≠ p7; omega) _), Hz (heap_set_same HD.out 1 _), Hz (World.Gr.set (World.Gr.of_drewN HF.out nq) (by show w.heap.size <= p7; omega) _)⟩
     ·simp [intOf]
    ·go_wp2
     go_quiet (fail)
     go_wp2
     go_roundw
     ·exact ⟨2, _, _, _, _, _, rfl, rfl, .inr (.inr ⟨rfl, rfl, rfl, rfl, rfl, rfl⟩), Hz (heap_set_other HA.out _ (by show w.heap.size ≠ p7; omega) _), Hz (heap_set_other HB.out _ (by show p5 ≠ p7; omega) _), Hz (heap_set_other HC.out _ (by show p6 ≠ p7; omega) _), Hz (heap_set_same HD.out 2 _), Hz (World.Gr.set (World.Gr.of_drewN HF.out nq) (by show w.heap.size <= p7; omega) _)⟩
     ·simp [intOf]
    ·go_wp2
     go_roundw
     ·exact ⟨2, _, _, _, _, rfl, .inr (.inr ⟨rfl, rfl, rfl, rfl, rfl⟩), Hz (heap_set_other HA.out _ (by show w.heap.size ≠ p7; omega) _), Hz (heap_set_other HB.out _ (by show p5 ≠ p7; omega) _), Hz (heap_set_other HC.out _ (by show p6 ≠ p7; omega) _), Hz (heap_set_same HD.out 3 _), Hz (World.Gr.set HF.out (by show w.heap.size <= p7; omega) _)⟩
     ·simp [intOf]
  ·obtain ⟨k0, k1, k2, k3, kf⟩ := four' HA.out
   obtain ⟨y0, y1, y2, y3, yf⟩ := four' HD.out
   go_wp2
   refine bodyPost_ret (results_cell_row (P := Tryz.prog) rfl _ _ w.heap.size 279 _ (0, 0) _ rfl (four_set HA.out _ _ _ _) Tryz.underlying279 rfl (by kernel_rfl)) rfl ?_
   exact ⟨rfl, (((World.Gr.set HF.out (Nat.le_refl _) _).set (Nat.le_refl _) _).set (Nat.le_refl _) _).set (Nat.le_refl _) _⟩
end
end Go.Proofs.YtbejmdlncnkaaaaGreat
