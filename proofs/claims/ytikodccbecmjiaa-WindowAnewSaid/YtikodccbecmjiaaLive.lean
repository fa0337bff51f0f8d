/-
  The walk of live: it answers true.
-/
import Derived.Test.YtikodccbecmjiaaWalkS4
namespace Go.Proofs.Ytikodccbecmjiaa
open Go.RowKit Go.Win

abbrev str (l : List UInt8) : ByteArray := ⟨l.toArray⟩
def lv0 : WSt ByteArray := { nothing := str [45], ahead := [], behind := [], sum := ⟨#[]⟩, calls := 0 }
def lv1 : WSt ByteArray := { nothing := str [45], ahead := [], behind := [str [97]], sum := str [97], calls := 0 }
def lv2 : WSt ByteArray := { nothing := str [45], ahead := [], behind := [str [97], str [98]], sum := str [97, 98], calls := 1 }
def lv3 : WSt ByteArray := { nothing := str [45], ahead := [], behind := [str [97], str [98], str [99]], sum := str [97, 98, 99], calls := 2 }
def lv4 : WSt ByteArray := { nothing := str [45], ahead := [(str [99], str [99]), (str [98], str [98, 99])], behind := [], sum := str [97, 98, 99], calls := 4 }
def lv5 : WSt ByteArray := { nothing := str [45], ahead := [(str [99], str [99]), (str [98], str [98, 99])], behind := [str [100]], sum := str [100], calls := 4 }
def lv6 : WSt ByteArray := { nothing := str [45], ahead := [(str [99], str [99]), (str [98], str [98, 99])], behind := [str [100]], sum := str [100], calls := 5 }

theorem st1 : lv0.push (· ++ ·) (str [97]) = lv1 := by rfl
theorem st2 : lv1.push (· ++ ·) (str [98]) = lv2 := by rfl
theorem st3 : lv2.push (· ++ ·) (str [99]) = lv3 := by rfl
theorem st4 : (lv3.turned (· ++ ·)).cut = lv4 := by rfl
theorem st4v : popVal (lv3.turned (· ++ ·)) = .tuple #[.string (str [97]), .int .i64 0] := by rfl
theorem st5 : lv4.push (· ++ ·) (str [100]) = lv5 := by rfl
theorem st6 : lv5.asked = lv6 := by rfl
theorem st6v : lv5.all (· ++ ·) = str [98, 99, 100] := by rfl
theorem st0 : (lv0.turned (· ++ ·)).cut = lv0 := by rfl
theorem st0v : popVal (lv0.turned (· ++ ·)) = .tuple #[.string ⟨#[]⟩, .int .i64 110] := by rfl
theorem st0a : lv0.asked = lv0 := by rfl
theorem st0w : lv0.all (· ++ ·) = str [45] := by rfl

/-- a window of the call's own: all that it has is new, and all else is as it was -/
def Mine {α : Type} (K : Kind α) (opv : Value) (w wi : World) (p : Nat) (s : WSt α) (L : List Nat) : Prop := HasWin K opv wi p s L ∧ w.Fr wi [] ∧ ∀ k, k ∈ L → w.heap.size ≤ k
theorem Mine.step {α : Type} {K : Kind α} {opv : Value} {w wi wj : World} {p : Nat} {s s' : WSt α} {L : List Nat} {r : Value} {e : Ending} (h : Mine K opv w wi p s L) (hp : WPost K opv p wi L s' r e wj) :
    e = .returned r ∧ ∃ L', Mine K opv w wj p s' L' := by
  obtain ⟨he, L', hw, hf, hL⟩ := hp
  refine ⟨he, L', hw, h.2.1.trans (hf.mono (fun _ h => h)) (fun j hj => .inr (h.2.2 j hj)), fun k hk => (hL k hk).elim (h.2.2 k) (fun hge => Nat.le_trans h.2.1.size hge)⟩

set_option maxHeartbeats 1000000 in
theorem live11 (w : World) : Calls Try.prog 11 #[] w fun e w' => e = .returned (.bool true) ∧ w.Fr w' [] := by
  go_enter Try.func11, Try.ntmps11
  go_wp2_with fail
  refine (new12 (F := 30) _ _).mono ?_
  rintro e w1 ⟨p, rfl, hw, hfr, hp⟩
  have H1 : Mine strK (fv 30) w w1 p lv0 [p] := ⟨hw, hfr, by simpa using hp⟩
  clear hw hfr hp
  go_wp2_with fail
  refine (all17 (s := lv0) cat30 H1.1 (by decide) (by decide) (by intro q hq; cases hq)).mono ?_
  rintro e w2 hpost
  obtain ⟨rfl, L2, H2⟩ := H1.step hpost
  clear hpost H1
  rw [st0a] at H2
  rw [st0w]
  go_wp2_with fail
  refine (pop15 (s := lv0) cat30 H2.1 (by decide) (fun h => TurnOk.of h (by decide) (by decide))).mono ?_
  rintro e w3 hpost
  obtain ⟨rfl, L3, H3⟩ := H2.step hpost
  clear hpost H2
  rw [st0] at H3
  rw [st0v]
  go_wp2_with fail
  refine (push14 (s := lv0) cat30 H3.1 (by decide) (by decide) _ (by decide)).mono ?_
  rintro e w4 hpost
  obtain ⟨rfl, L4, H4⟩ := H3.step hpost
  clear hpost H3
  rw [show lv0.push (· ++ ·) _ = lv1 from st1] at H4
  go_wp2_with fail
  refine (push14 (s := lv1) cat30 H4.1 (by decide) (by decide) _ (by decide)).mono ?_
  rintro e w5 hpost
  obtain ⟨rfl, L5, H5⟩ := H4.step hpost
  clear hpost H4
  rw [show lv1.push (· ++ ·) _ = lv2 from st2] at H5
  go_wp2_with fail
  refine (push14 (s := lv2) cat30 H5.1 (by decide) (by decide) _ (by decide)).mono ?_
  rintro e w6 hpost
  obtain ⟨rfl, L6, H6⟩ := H5.step hpost
  clear hpost H5
  rw [show lv2.push (· ++ ·) _ = lv3 from st3] at H6
  go_wp2_with fail
  refine (pop15 (s := lv3) cat30 H6.1 (by decide) (fun h => TurnOk.of h (by decide) (by decide))).mono ?_
  rintro e w7 hpost
  obtain ⟨rfl, L7, H7⟩ := H6.step hpost
  clear hpost H6
  rw [st4] at H7
  rw [st4v]
  go_wp2_with fail
  refine (push14 (s := lv4) cat30 H7.1 (by decide) (by decide) _ (by decide)).mono ?_
  rintro e w8 hpost
  obtain ⟨rfl, L8, H8⟩ := H7.step hpost
  clear hpost H7
  rw [show lv4.push (· ++ ·) _ = lv5 from st5] at H8
  go_wp2_with fail
  refine (all17 (s := lv5) cat30 H8.1 (by decide) (by decide) (by intro q hq; cases hq; decide)).mono ?_
  rintro e w9 hpost
  obtain ⟨rfl, L9, H9⟩ := H8.step hpost
  clear hpost H8
  rw [st6] at H9
  rw [st6v]
  obtain ⟨va, vb, hlast, hLe⟩ := H9.1
  go_wp2_with fail
  refine (len18 hlast (by decide)).mono ?_
  rintro e w10 ⟨rfl, nq, rfl⟩
  go_wp2
  go_ret
  exact ⟨rfl, H9.2.1.of_drewN nq⟩
end Go.Proofs.Ytikodccbecmjiaa
