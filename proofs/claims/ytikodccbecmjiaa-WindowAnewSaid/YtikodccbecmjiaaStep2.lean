/-
  The walk of step, more.
-/
import Derived.Test.YtikodccbecmjiaaStep
namespace Go.Proofs.Ytikodccbecmjiaa
open Go.RowKit Go.Win

section
variable {w0 : World} {N0 : List Nat} {p r : Nat} {no : T} {Q : List (Nat × Obj)} {wi : World} {s : WSt T} {l : List T} {B : Nat}

set_option maxHeartbeats 1000000 in
theorem step_pop (h : TwoAt w0 N0 p r no Q wi s l) (hF : Fits B no s l) (hB : B + 10001 ≤ room) (a b n : Int) :
    Calls Try.prog 26 #[.pointer (some ⟨p,0,none⟩), .pointer (some ⟨r,0,none⟩), opv 2 a b n] wi (StepPost w0 N0 p r no Q (B + 10001)) := by
  have h1 := h.alloc (.cells #[.int .i64 2, .int .u64 a, .int .u64 b, .int .i64 n] 38)
  have hpop : Fits (B + 10001) no (s.turned opT).cut l.tail := hF.pop.mono (by omega)
  have Hpop := Lib.hid hpop; have HF := Lib.hid hF; have HB := Lib.hid (show B ≤ room by omega); clear h hF hB hpop
  go_enter Try.func26, Try.ntmps26
  go_wp2_with fail
  refine (fPop h1 HF.out HB.out).mono ?_
  rintro e w2 ⟨rfl, hT⟩
  clear h1
  have hA := hT.alloc (.cells #[.int .u64 (rpopT l).1.1, .int .u64 (rpopT l).1.2] 26)
  have HA := Lib.hid hA; clear hA hT
  have hr := fRPop HA.out HF.out
  generalize rpopT l = v at *
  obtain ⟨⟨v1, v2⟩, v3⟩ := v
  have Hr := Lib.hid hr; clear hr
  go_wp2_with fail
  refine Hr.out.mono ?_
  rintro e w3 ⟨rfl, hT⟩
  have hb := hT.box (List.mem_cons_self ..)
  have hlt := lt_of_heap hb
  have hlt1 : w2.heap.size < w3.heap.size + 1 := by omega
  obtain ⟨d0, d1, df⟩ := two hb
  have hA := (hT.drop.drop).still ((World.Fr.refl w3 []).alloc (.cells #[.int .u64 v1, .int .u64 v2] 26))
  have HA2 := Lib.hid hA; clear hA hT hb Hr
  go_wp2
  go_ret
  exact ⟨rfl, _, _, HA2.out, Hpop.out⟩

theorem TwoAt.refCells (h : TwoAt w0 N0 p r no Q wi s l) : ∃ a c, wi.heap[r]? = some (.cells #[.slice a l.length c, .int .u64 no.1, .int .u64 no.2] 53 (0, 0)) := by
  obtain ⟨L, M, h⟩ := h
  obtain ⟨v, hr, _⟩ := h.ref
  obtain ⟨a, c, rfl, _, _⟩ := hr.row.shape
  exact ⟨a, c, hr.cells⟩
theorem fLen (h : TwoAt w0 N0 p r no Q wi s l) (hF : Fits B no s l) : Calls Try.prog 28 #[.pointer (some ⟨p,0,none⟩)] wi fun e w' => e = .returned (.int .i64 l.length) ∧ TwoAt w0 N0 p r no Q w' s l := by
  have := tLen h (by have := hF.good.len; omega)
  rw [← hF.abs.len] at this
  exact this

set_option maxHeartbeats 2000000 in
theorem step_all (h : TwoAt w0 N0 p r no Q wi s l) (hF : Fits B no s l) (hB : B + 10001 ≤ room) (a b n : Int) :
    Calls Try.prog 26 #[.pointer (some ⟨p,0,none⟩), .pointer (some ⟨r,0,none⟩), opv 3 a b n] wi (StepPost w0 N0 p r no Q (B + 10001)) := by
  have h1 := h.alloc (.cells #[.int .i64 3, .int .u64 a, .int .u64 b, .int .i64 n] 38)
  have hask : Fits (B + 10001) no s.asked l := hF.asked.mono (by omega)
  have Hask := Lib.hid hask; have HF := Lib.hid hF; have HB := Lib.hid (show B ≤ room by omega); clear h hF hB hask
  generalize rallT l no = v at *
  go_enter Try.func26, Try.ntmps26
  go_wp2
  generalize hW : World.alloc wi _ = W at *
  clear hW
  have h2 := (h1.still ((World.Fr.refl W []).drew)).drop
  clear h1
  have hall := fAll h2 HF.out HB.out
  have hrall := fun w' (ht : TwoAt w0 N0 p r no Q w' s.asked l) => fRAll ht HF.out
  generalize rallT l no = v at *
  have Hall := Lib.hid hall; have Hrall := Lib.hid hrall; clear hall hrall
  go_region_with (first | (go_at_call 10; refine Hall.out.mono ?_; rintro e w2 ⟨rfl, hT⟩) | (go_at_call 27; refine (Hrall.out _ (by assumption)).mono ?_; rintro e w3 ⟨rfl, hT3⟩; obtain ⟨ra, rc, hr⟩ := hT3.refCells; obtain ⟨k0, k1, k2, kf⟩ := three hr; have Hr := Lib.hid hr; clear hr) | (go_at_call 28; refine (fLen (s := s.asked) (l := l) (by assumption) Hask.out).mono ?_; rintro e w4 ⟨rfl, hT4⟩; obtain ⟨ra, rc, hr⟩ := hT4.refCells; obtain ⟨m0, m1, m2, mf⟩ := three hr; have Hr2 := Lib.hid hr; clear hr))
  all_goals
    have HT4 := Lib.hid hT4
    clear hT4
    go_wp2
    go_ret
    exact ⟨rfl, _, _, HT4.out, Hask.out⟩
end
end Go.Proofs.Ytikodccbecmjiaa
