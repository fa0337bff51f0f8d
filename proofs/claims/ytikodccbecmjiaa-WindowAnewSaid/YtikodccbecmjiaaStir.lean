/-
  The window's calls under one invariant ('Good'), and the walk of stir.
-/
import Derived.Test.YtikodccbecmjiaaPlain2
import Derived.Test.YtikodccbecmjiaaClone
namespace Go.Proofs.Ytikodccbecmjiaa
open Go.RowKit Go.Win

section
variable {F : FuncId} {cap : Array Value} {f : T → T → T} {J : Nat → World → Prop} {Lo : List Nat} {ok : T → Prop}

def room : Nat := 7000000000000000000
theorem room_lt {B n : Nat} (h : B ≤ room) (hn : n ≤ B) : n < 8000000000000000000 := by unfold room at h; omega

theorem Good.turnOk (hF : OpOk F cap f J Lo ok) {B : Nat} {s : WSt T} (h : Good ok B s) (hB : B ≤ room) : TurnOkT f ok s := by
  have hp := h.pot
  unfold Go.Proofs.Ytikodccbecmjiaa.pot at hp
  refine ⟨fun k => ?_, h.behind, fun k q hq => ?_⟩
  · rcases Nat.lt_or_ge k s.behind.length with hk | hk
    · have := (turnAt_good h hF.okf k (by omega)).1; exact room_lt hB (by omega)
    · rw [turnAt_past s k hk]; exact room_lt hB (by simp only; omega)
  · rcases Nat.lt_or_ge k s.behind.length with hk | hk
    · exact ((turnAt_good h hF.okf k (by omega)).2 q (List.mem_of_getLast? hq)).2
    · rw [turnAt_past s k hk] at hq; exact (h.ahead q (List.mem_of_getLast? hq)).2

def errP (s : WSt T) : Int := if s.len < 4096 then 0 else 3

theorem pushAny (hF : OpOk F cap f J Lo ok) {w : World} {p B : Nat} {L : List Nat} {s : WSt T} (h : THas F cap J Lo w p s L) (hG : Good ok B s) (hB : B ≤ room) (x : T) (hx : ok x) :
    Calls Try.prog 9 #[.pointer (some ⟨p,0,none⟩), tv x] w (TPost F cap J Lo p w L (pushR f s x) (.int .i64 (errP s))) := by
  have hp := hG.pot
  unfold pot at hp
  by_cases hl : s.len < 4096
  · have e1 : pushR f s x = s.push f x := if_pos hl
    have e2 : errP s = 0 := if_pos hl
    rw [e1, e2]
    exact push9 hF h hl (room_lt hB (by omega)) x hx hG.sum
  · have e1 : pushR f s x = s := if_neg hl
    have e2 : errP s = 3 := if_neg hl
    rw [e1, e2]
    exact push9_full hF h (by omega) (by have := hG.len; omega) x
theorem popAny (hF : OpOk F cap f J Lo ok) {w : World} {p B : Nat} {L : List Nat} {s : WSt T} (h : THas F cap J Lo w p s L) (hG : Good ok B s) (hB : B ≤ room) :
    Calls Try.prog 21 #[.pointer (some ⟨p,0,none⟩)] w (TPost F cap J Lo p w L (s.turned f).cut (popV (s.turned f))) :=
  pop21 hF h (by have := hG.len; omega) (fun _ => hG.turnOk hF hB)
theorem allAny (hF : OpOk F cap f J Lo ok) {w : World} {p B : Nat} {L : List Nat} {s : WSt T} (h : THas F cap J Lo w p s L) (hG : Good ok B s) (hB : B ≤ room) :
    Calls Try.prog 10 #[.pointer (some ⟨p,0,none⟩)] w (TPost F cap J Lo p w L s.asked (tv (s.all f))) := by
  have hp := hG.pot
  unfold pot at hp
  exact all10 hF h (by have := hG.len; omega) (room_lt hB (by omega)) (fun q hq => (hG.ahead q (List.mem_of_getLast? hq)).2) hG.sum

/-- a window in some blocks, all but these as they were -/
theorem TPost.fr_trans {w wi wj : World} {p : Nat} {L Li : List Nat} {s' : WSt T} {r : Value} {e : Ending} (h : TPost F cap J Lo p wi Li s' r e wj) (hf : w.Fr wi (L ++ Lo)) (hL : ∀ k, k ∈ Li → k ∈ L ∨ w.heap.size ≤ k) :
    e = .returned r ∧ ∃ Lj, THas F cap J Lo wj p s' Lj ∧ w.Fr wj (L ++ Lo) ∧ ∀ k, k ∈ Lj → k ∈ L ∨ w.heap.size ≤ k := by
  obtain ⟨he, Lj, hj, hfj, hLj⟩ := h
  refine ⟨he, Lj, hj, hf.trans hfj (fun j hj => ?_), fun k hk => (hLj k hk).elim (hL k) (fun hge => .inr (Nat.le_trans hf.size hge))⟩
  rcases List.mem_append.1 hj with h | h
  · exact (hL j h).imp (fun h => by simp [h]) id
  · exact .inl (by simp [h])

set_option maxHeartbeats 1000000 in
theorem stir25 (hF : OpOk F cap f J Lo ok) (hall : ∀ x, ok x) {w : World} {p B : Nat} {L : List Nat} {s : WSt T} (h : THas F cap J Lo w p s L) (hG : Good ok B s) (hB : B + 5 ≤ room) :
    Calls Try.prog 25 #[.pointer (some ⟨p,0,none⟩)] w fun e w' => e = .returned (.tuple #[]) ∧ w.Fr w' (L ++ Lo) := by
  have h1 := popAny hF h hG (by omega)
  have H1 := Lib.hid h1; clear h1
  go_enter Try.func25, Try.ntmps25
  go_wp2_with fail
  refine H1.out.mono ?_
  rintro e w1 hp1
  obtain ⟨rfl, L1, hT1, hf1, hL1⟩ := hp1.fr_trans (World.Fr.refl w _) (fun k hk => .inl hk)
  have hG1 := (hG.turned hF.okf).cut
  have h2 := Lib.hid (popAny hF hT1 hG1 (by omega)); have Hf1 := Lib.hid hf1; have HL1 := Lib.hid hL1; clear hp1 hT1 hf1 hL1 H1
  generalize (s.turned f).cut = s1 at *
  go_wp2_with fail
  refine h2.out.mono ?_
  rintro e w2 hp2
  obtain ⟨rfl, L2, hT2, hf2, hL2⟩ := hp2.fr_trans Hf1.out HL1.out
  have hG2 := (hG1.turned hF.okf).cut
  have h3 := Lib.hid (pushAny hF hT2 hG2 (by omega) (77, 0) (hall _)); have Hf2 := Lib.hid hf2; have HL2 := Lib.hid hL2; clear hp2 hT2 hf2 hL2 h2
  generalize (s1.turned f).cut = s2 at *
  go_wp2_with fail
  refine h3.out.mono ?_
  rintro e w3 hp3
  obtain ⟨rfl, L3, hT3, hf3, hL3⟩ := hp3.fr_trans Hf2.out HL2.out
  have hG3 := hG2.pushR hF.okf (hall (77, 0))
  have h4 := Lib.hid (allAny hF hT3 hG3 (by omega)); have Hf3 := Lib.hid hf3; have HL3 := Lib.hid hL3; clear hp3 hT3 hf3 hL3 h3
  generalize pushR f s2 (77, 0) = s3 at *
  go_wp2_with fail
  refine h4.out.mono ?_
  rintro e w4 hp4
  obtain ⟨rfl, L4, hT4, hf4, hL4⟩ := hp4.fr_trans Hf3.out HL3.out
  have hG4 := hG3.asked
  have h5 := Lib.hid (pushAny hF hT4 hG4 (by omega) (78, 0) (hall _)); have Hf4 := Lib.hid hf4; have HL4 := Lib.hid hL4; clear hp4 hT4 hf4 hL4 h4
  generalize s3.asked = s4 at *
  go_wp2_with fail
  refine h5.out.mono ?_
  rintro e w5 hp5
  obtain ⟨rfl, L5, hT5, hf5, hL5⟩ := hp5.fr_trans Hf4.out HL4.out
  have Hf5 := Lib.hid hf5; clear hp5 hT5 hf5 hL5 h5
  go_wp2
  go_end0
  exact ⟨rfl, Hf5.out⟩
end
end Go.Proofs.Ytikodccbecmjiaa
