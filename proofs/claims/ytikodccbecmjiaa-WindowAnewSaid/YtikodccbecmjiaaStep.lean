/-
  The walk of step: one step of both, alike.
-/
import Derived.Test.YtikodccbecmjiaaTwo
namespace Go.Proofs.Ytikodccbecmjiaa
open Go.RowKit Go.Win

theorem abs_errP {s : WSt T} {l : List T} (h : Abs opT s l) : (if l.length < 4096 then (0 : Int) else 3) = errP s := by unfold errP; rw [h.len]
theorem abs_push {s : WSt T} {l : List T} (h : Abs opT s l) (x : T) : Abs opT (pushR opT s x) (if l.length < 4096 then l ++ [x] else l) := by
  unfold pushR
  rw [h.len]
  split
  · exact h.push x
  · exact h
theorem abs_pop {s : WSt T} {l : List T} (h : Abs opT s l) : popT (s.turned opT) = rpopT l ∧ Abs opT (s.turned opT).cut l.tail := by
  obtain ⟨h1, h2, h3⟩ := h.turned.cut (turned_empty s)
  refine ⟨?_, h1⟩
  unfold popT rpopT
  cases hl : (s.turned opT).ahead.getLast? with
  | none => rw [h2 hl]
  | some q => obtain ⟨t, ht⟩ := h3 q hl; rw [ht]
theorem abs_all {s : WSt T} {l : List T} (h : Abs opT s l) : s.all opT = rallT l s.nothing := by
  rw [h.all opT_assoc]
  cases l <;> rfl

/-- one state of the two, that fit -/
structure Fits (B : Nat) (no : T) (s : WSt T) (l : List T) : Prop where
  abs : Abs opT s l
  good : Good okt B s
  no : s.nothing = no

section
variable {w0 : World} {N0 : List Nat} {p r : Nat} {no : T} {Q : List (Nat × Obj)} {wi : World} {s : WSt T} {l : List T} {B : Nat}

theorem Fits.push (h : Fits B no s l) (x : T) : Fits (B + 2) no (pushR opT s x) (if l.length < 4096 then l ++ [x] else l) :=
  ⟨abs_push h.abs x, h.good.pushR (fun _ _ _ _ => trivial) trivial, by unfold pushR; split; rw [push_nothing]; exact h.no; exact h.no⟩
theorem Fits.pop (h : Fits B no s l) : Fits B no (s.turned opT).cut l.tail :=
  ⟨(abs_pop h.abs).2, (h.good.turned (fun _ _ _ _ => trivial)).cut, by unfold WSt.cut; rw [← h.no]; exact turned_nothing s⟩
theorem Fits.asked (h : Fits B no s l) : Fits (B + 1) no s.asked l := ⟨h.abs.asked, h.good.asked, by rw [(asked_same s).2.2.2]; exact h.no⟩
theorem Fits.mono {B' : Nat} (h : Fits B no s l) (hB : B ≤ B') : Fits B' no s l := ⟨h.abs, h.good.mono hB, h.no⟩
theorem Fits.len (h : Fits B no s l) : l.length ≤ 4096 := by rw [h.abs.len]; exact h.good.len

def StepPost (w0 : World) (N0 : List Nat) (p r : Nat) (no : T) (Q : List (Nat × Obj)) (B : Nat) (e : Ending) (w' : World) : Prop :=
  e = .returned (.bool true) ∧ ∃ s' l', TwoAt w0 N0 p r no Q w' s' l' ∧ Fits B no s' l'

abbrev opv (k a b n : Int) : Value := .agg #[.int .i64 k, .int .u64 a, .int .u64 b, .int .i64 n]

theorem four {w : World} {p : Nat} {t : TypeId} {a b c d : Value} (hh : w.heap[p]? = some (.cells #[a, b, c, d] t (0, 0))) :
    w.cell? ⟨p, 0, none⟩ = some a ∧ w.cell? ⟨p, 1, none⟩ = some b ∧ w.cell? ⟨p, 2, none⟩ = some c ∧ w.cell? ⟨p, 3, none⟩ = some d ∧ ∀ j, w.frozen? ⟨p, j, none⟩ = false := by
  refine ⟨?_, ?_, ?_, ?_, fun j => frozen_of_row w p j _ _ hh⟩ <;> simp [World.cell?, hh]

def lpush (l : List T) (x : T) : List T := if l.length < 4096 then l ++ [x] else l
theorem fPush (h : TwoAt w0 N0 p r no Q wi s l) (hF : Fits B no s l) (hB : B ≤ room) (x : T) : Calls Try.prog 9 #[.pointer (some ⟨p,0,none⟩), tv x] wi fun e w' => e = .returned (.int .i64 (errP s)) ∧ TwoAt w0 N0 p r no Q w' (pushR opT s x) l := tPush h hF.good hB x
theorem fRPush {s' : WSt T} (h : TwoAt w0 N0 p r no Q wi s' l) (hF : Fits B no s l) (x : T) : Calls Try.prog 34 #[.pointer (some ⟨r,0,none⟩), tv x] wi fun e w' => e = .returned (.int .i64 (errP s)) ∧ TwoAt w0 N0 p r no Q w' s' (lpush l x) := by
  have := rPush h hF.len x
  rw [abs_errP hF.abs] at this
  exact this
theorem fPop (h : TwoAt w0 N0 p r no Q wi s l) (hF : Fits B no s l) (hB : B ≤ room) : Calls Try.prog 21 #[.pointer (some ⟨p,0,none⟩)] wi fun e w' => e = .returned (.tuple #[tv (rpopT l).1, .int .i64 (rpopT l).2]) ∧ TwoAt w0 N0 p r no Q w' (s.turned opT).cut l := by
  have := tPop h hF.good hB
  unfold popV at this
  rw [(abs_pop hF.abs).1] at this
  exact this
theorem fAll (h : TwoAt w0 N0 p r no Q wi s l) (hF : Fits B no s l) (hB : B ≤ room) : Calls Try.prog 10 #[.pointer (some ⟨p,0,none⟩)] wi fun e w' => e = .returned (tv (rallT l no)) ∧ TwoAt w0 N0 p r no Q w' s.asked l := by
  have := tAll h hF.good hB
  rw [abs_all hF.abs, hF.no] at this
  exact this

theorem fRPop {s' : WSt T} (h : TwoAt w0 N0 p r no Q wi s' l) (hF : Fits B no s l) : Calls Try.prog 35 #[.pointer (some ⟨r,0,none⟩)] wi fun e w' => e = .returned (.tuple #[tv (rpopT l).1, .int .i64 (rpopT l).2]) ∧ TwoAt w0 N0 p r no Q w' s' l.tail := rPop h hF.len
theorem fRAll {s' : WSt T} (h : TwoAt w0 N0 p r no Q wi s' l) (hF : Fits B no s l) : Calls Try.prog 27 #[.pointer (some ⟨r,0,none⟩)] wi fun e w' => e = .returned (tv (rallT l no)) ∧ TwoAt w0 N0 p r no Q w' s' l := rAll h hF.len

set_option maxHeartbeats 1000000 in
theorem step_push (h : TwoAt w0 N0 p r no Q wi s l) (hF : Fits B no s l) (hB : B + 10001 ≤ room) (a b n : Int) :
    Calls Try.prog 26 #[.pointer (some ⟨p,0,none⟩), .pointer (some ⟨r,0,none⟩), opv 1 a b n] wi (StepPost w0 N0 p r no Q (B + 10001)) := by
  have h1 := h.alloc (.cells #[.int .i64 1, .int .u64 a, .int .u64 b, .int .i64 n] 38)
  have hpush : Fits (B + 10001) no (pushR opT s (a, b)) (lpush l (a, b)) := (hF.push (a, b)).mono (by omega)
  have Hpush := Lib.hid hpush; have HF := Lib.hid hF; have HB := Lib.hid (show B ≤ room by omega); clear h hF hB hpush
  go_enter Try.func26, Try.ntmps26
  go_wp2
  generalize hW : World.alloc wi _ = W at *
  clear hW
  have h2 := h1.still ((World.Fr.refl W []).drew)
  obtain ⟨c0, c1, c2, c3, cf⟩ := four (h2.box (List.mem_cons_self ..))
  clear h1
  go_region_with (first | (go_at_call 23; refine (thing23 _ _ _ _ _).mono ?_; rintro e w2 ⟨rfl, hf2⟩; have hT := TwoAt.still (by assumption) hf2; obtain ⟨k0, k1, k2, k3, kf⟩ := four (hT.box (List.mem_cons_self ..))) | (go_at_call 9; refine (fPush (s := s) (l := l) (by assumption) HF.out HB.out _).mono ?_; rintro e w2 ⟨rfl, hT⟩; obtain ⟨k0, k1, k2, k3, kf⟩ := four (hT.box (List.mem_cons_self ..))) | (go_at_call 34; refine (fRPush (s := s) (l := l) (by assumption) HF.out _).mono ?_; rintro e w2 ⟨rfl, hT⟩; have hR := TwoAt.drop hT))
  all_goals
    have HR := Lib.hid hR
    clear hR
    go_wp2
    go_ret
    exact ⟨rfl, _, _, HR.out, Hpush.out⟩

end
end Go.Proofs.Ytikodccbecmjiaa
