/-
  The walks of the window of strings, more: Pop, New.
-/
import Derived.Test.YtikodccbecmjiaaWalkS3
namespace Go.Proofs.Ytikodccbecmjiaa
open Go.RowKit Go.Win

/-- what Pop hands back and leaves, of a turned state -/
def popVal (s : WSt ByteArray) : Value :=
  match s.ahead.getLast? with
  | none => .tuple #[.string ⟨#[]⟩, .int .i64 110]
  | some q => .tuple #[.string q.1, .int .i64 0]

structure TurnOk (s : WSt ByteArray) : Prop where
  calls : ∀ k, (turnAt (· ++ ·) s k).2 < 8000000000000000000
  sizes : ∀ j q x, s.behind[j]? = some x → (turnAt (· ++ ·) s (j + 1)).1.getLast? = some q → x.size + q.2.size ≤ 9223372036854775807

theorem turnAt_len {α : Type} (f : α → α → α) (s : WSt α) (k : Nat) (hk : k ≤ s.behind.length) : (turnAt f s k).1.length = s.ahead.length + (s.behind.length - k) := by
  induction h : s.behind.length - k generalizing k with
  | zero => obtain rfl : k = s.behind.length := by omega
            rw [turnAt_end]; simp
  | succ d ih =>
    rw [turnAt_succ f s k (by omega)]
    have e := ih (k + 1) (by omega) (by omega)
    unfold turn1
    split <;> simp [e] <;> omega

def tot (l : List ByteArray) : Nat := (l.map ByteArray.size).sum
theorem tot_append (a b : List ByteArray) : tot (a ++ b) = tot a + tot b := by simp [tot]

theorem tot_cons (a : ByteArray) (b : List ByteArray) : tot (a :: b) = a.size + tot b := by simp [tot]

theorem TurnOk.of {s : WSt ByteArray} (hA : s.ahead = []) (hc : s.calls + s.behind.length < 8000000000000000000) (ht : tot s.behind ≤ 9223372036854775807) : TurnOk s := by
  have key : ∀ d k, k + d = s.behind.length → (turnAt (· ++ ·) s k).2 ≤ s.calls + d ∧ ∀ q, (turnAt (· ++ ·) s k).1.getLast? = some q → q.2.size = tot (s.behind.drop k) := by
    intro d
    induction d with
    | zero =>
      intro k hk
      obtain rfl : k = s.behind.length := by omega
      rw [turnAt_end, hA]
      exact ⟨by simp, by simp⟩
    | succ d ih =>
      intro k hk
      obtain ⟨h1, h2⟩ := ih (k + 1) (by omega)
      have hkl : k < s.behind.length := by omega
      rw [turnAt_succ _ s k hkl, List.drop_eq_getElem_cons hkl]
      have ht' : tot (s.behind[k] :: s.behind.drop (k + 1)) = s.behind[k].size + tot (s.behind.drop (k + 1)) := tot_cons _ _
      rw [ht']
      unfold turn1
      cases hT : (turnAt (· ++ ·) s (k + 1)).1.getLast? with
      | none =>
        have he := List.getLast?_eq_none_iff.1 hT
        have hl := turnAt_len (· ++ ·) s (k + 1) (by omega)
        rw [he, hA] at hl
        simp only [List.length_nil] at hl
        have hd : s.behind.drop (k + 1) = [] := List.drop_of_length_le (by omega)
        simp [hd, tot]
        omega
      | some q =>
        have := h2 q hT
        simp [ByteArray.size_append, this]
        omega
  refine ⟨fun k => ?_, fun j q x hj hq => ?_⟩
  · rcases Nat.lt_or_ge k s.behind.length with h | h
    · have := (key (s.behind.length - k) k (by omega)).1; omega
    · have : turnAt (· ++ ·) s k = (s.ahead, s.calls) := by unfold turnAt; rw [List.drop_of_length_le h]; rfl
      rw [this]; simp only; omega
  · obtain ⟨hjl, rfl⟩ := List.getElem?_eq_some_iff.1 hj
    have h1 := (key (s.behind.length - (j + 1)) (j + 1) (by omega)).2 q hq
    have h2 : tot s.behind = tot (s.behind.take j) + (s.behind[j].size + tot (s.behind.drop (j + 1))) := by
      conv => lhs; rw [← List.take_append_drop j s.behind, List.drop_eq_getElem_cons hjl]
      rw [tot_append, tot_cons]
    omega

theorem pop_end {F : FuncId} {w w1 : World} {p : Nat} {L : List Nat} {va vb : Value} {s1 : WSt ByteArray} {a0 : List (ByteArray × ByteArray)} {q : ByteArray × ByteArray} {g off cap : Nat}
    (h : IsWin strK (fv F) w1 p va vb s1) (hA : s1.ahead = a0 ++ [q]) (he : va = .slice (some ⟨g, off, none⟩) (a0.length + 1) cap) (hfr : w.Fr w1 L) (hL : ∀ k, k ∈ foot p va vb → k ∈ L ∨ w.heap.size ≤ k) :
    WPost strK (fv F) p w L s1.cut (.tuple #[.string q.1, .int .i64 0]) (.returned (.tuple #[.string q.1, .int .i64 0])) (w1.setCell ⟨p, 2, none⟩ (.slice (some ⟨g, off, none⟩) a0.length cap)) := by
  obtain ⟨hp1, ha1, hb1, hpa1, hpb1, hab1⟩ := h
  subst he
  have hn : s1.ahead.length = a0.length + 1 := by rw [hA]; simp
  rw [hn] at ha1
  have ha2 := ha1.take a0.length (by omega)
  have hcut : s1.cut.ahead = a0 := by unfold WSt.cut; simp only; rw [hA]; simp
  have htk : (s1.ahead.flatMap strK.pair).take (a0.length * 2) = a0.flatMap strK.pair := by
    rw [hA, List.flatMap_append, List.take_append_of_le_length (by rw [pair_len]; omega), List.take_of_length_le (by rw [pair_len]; omega)]
  refine ⟨rfl, _, ⟨.slice (some ⟨g, off, none⟩) a0.length cap, vb, ⟨?_, ?_, ?_, hpa1, hpb1, hab1⟩, rfl⟩, hfr.setCell (a := ⟨p, 2, none⟩) (hL p (by simp [foot])) _, hL⟩
  · exact heap_set_same hp1 2 _
  · rw [hcut]
    have := ha2.setCell (a := ⟨p, 2, none⟩) hpa1 (.slice (some ⟨g, off, none⟩) a0.length cap)
    simp only [Nat.mul_one] at this
    rw [htk] at this
    exact this
  · exact hb1.setCell hpb1 _

theorem pop15 {F : FuncId} (hF : Cat F) {w : World} {p : Nat} {L : List Nat} {s : WSt ByteArray} (h : HasWin strK (fv F) w p s L) (hl : s.len < 1000000) (ht : s.ahead = [] → TurnOk s) :
    Calls Try.prog 15 #[.pointer (some ⟨p,0,none⟩)] w (WPost strK (fv F) p w L (s.turned (· ++ ·)).cut (popVal (s.turned (· ++ ·)))) := by
  have hturn := fun hA => turn32 hF h hl (ht hA).calls (turnAt_len _ s) (ht hA).sizes
  have hlt := h.lt
  obtain ⟨va, vb, h, rfl⟩ := h
  have hpl := lt_of_heap h.cells
  have Hturn := Lib.hid hturn; clear hturn
  by_cases hA : s.ahead = []
  · have hturn := Hturn.out hA; clear Hturn; have Hturn := Lib.hid hturn; clear hturn
    have hst : s.turned (· ++ ·) = s.turn (· ++ ·) := by unfold WSt.turned; rw [if_pos hA]
    obtain ⟨hp, ha, hb, hpa, hpb, hab⟩ := h
    obtain ⟨aa, ca, hva, _, _⟩ := ha.shape
    obtain ⟨h0, h1, h2, h3, h4, h5, hf⟩ := six hp
    have hz : s.ahead.length = 0 := by rw [hA]; rfl
    rw [hz] at hva
    rw [hva] at h2
    have hs1l : (s.turn (· ++ ·)).ahead.length < 1000000 := by
      rw [turnAt_zero]; simp only; rw [turnAt_len _ s 0 (by omega)]; unfold WSt.len at hl; omega
    have Hst := Lib.hid hst; have HA := Lib.hid hA; have Hp := Lib.hid hp; have Ha := Lib.hid ha; have Hb := Lib.hid hb; have Hz := Lib.hid hz; have Hva := Lib.hid hva; have Hl := Lib.hid hl; have Ht := Lib.hid ht; clear hst hA hp ha hb hz hva hl ht
    generalize s.turn (· ++ ·) = s1 at *
    go_enter Try.func15, Try.ntmps15
    go_wp2_with fail
    refine Hturn.out.mono ?_
    rintro e w2 ⟨rfl, L', ⟨va1, vb1, hw1, rfl⟩, hfr, hL'⟩
    obtain ⟨hp1, ha1, hb1, hpa1, hpb1, hab1⟩ := hw1
    clear h0 h1 h2 h3 h4 h5 hf
    obtain ⟨aa1, ca1, hva1, _, _⟩ := ha1.shape
    obtain ⟨h0, h1, h2, h3, h4, h5, hf⟩ := six hp1
    rcases List.eq_nil_or_concat s1.ahead with hA1 | ⟨a0, q, hA1⟩
    · have hpv : popVal s1 = .tuple #[.string ⟨#[]⟩, .int .i64 110] := by unfold popVal; rw [hA1]; rfl
      have hcut : s1.cut = s1 := by unfold WSt.cut; rw [hA1, List.dropLast_nil, ← hA1]
      have hz1 : s1.ahead.length = 0 := by rw [hA1]; rfl
      rw [hva1, hz1] at h2
      have Hpv := Lib.hid hpv; have Hcut := Lib.hid hcut; have HA1 := Lib.hid hA1; have Hp1 := Lib.hid hp1; have Ha1 := Lib.hid ha1; have Hb1 := Lib.hid hb1; have Hva1 := Lib.hid hva1; have Hz1 := Lib.hid hz1; clear hpv hcut hA1 hp1 ha1 hb1 hva1 hz1
      have Hfr := Lib.hid hfr; have HL := Lib.hid hL'; clear hfr hL'
      go_wp2
      go_ret2
      rw [Hst.out, Hpv.out, Hcut.out]
      exact ⟨rfl, _, ⟨va1, vb1, ⟨Hp1.out, Ha1.out, Hb1.out, hpa1, hpb1, hab1⟩, rfl⟩, Hfr.out, HL.out⟩
    · rw [List.concat_eq_append] at hA1
      have hpv : popVal s1 = .tuple #[.string q.1, .int .i64 0] := by unfold popVal; rw [hA1]; simp
      have hn : s1.ahead.length = a0.length + 1 := by rw [hA1]; simp
      have hget : (s1.ahead.flatMap strK.pair)[2 * a0.length]? = some (.string q.1) := by
        rw [hA1, List.flatMap_append, List.getElem?_append_right (by rw [pair_len]; omega), pair_len]
        simp [Kind.pair]
      obtain ⟨g, off, cap, he, hnc, _, hgl, hcells, _⟩ := ha1.form (by omega)
      have hq := hcells (2 * a0.length) (by rw [hn]; simp; omega)
      rw [hget, Nat.mul_comm] at hq
      have hend := pop_end ⟨hp1, ha1, hb1, hpa1, hpb1, hab1⟩ hA1 (by rw [he, hn]) hfr hL'
      rw [he, hn] at h2
      rw [hn] at hnc
      have hnc : a0.length ≤ cap := by omega
      have Hend := Lib.hid hend; clear hend
      have Hpv := Lib.hid hpv; have HA1 := Lib.hid hA1; have Hp1 := Lib.hid hp1; have Ha1 := Lib.hid ha1; have Hb1 := Lib.hid hb1; have Hva1 := Lib.hid hva1; have Hn := Lib.hid hn; have He := Lib.hid he; clear hpv hA1 hp1 ha1 hb1 hva1 hn he hget hcells
      have Hfr := Lib.hid hfr; have HL := Lib.hid hL'; clear hfr hL'
      have hnl : a0.length < 1000000 := by have := Hn.out; omega
      generalize a0.length = n at *
      have hs1 : IntKind.i64.wrap ((n : Int) + 1 - 1) = n := by rw [IntWalk.i64_in _ (by omega)]; omega
      have hs2 : IntKind.i64.wrap (n : Int) = n := IntWalk.i64_in _ (by omega)
      have hs3 : (n : Int) < n + 1 := by omega
      have hs4 : ((n : Int) + 1 == 0) = false := beq_eq_false_iff_ne.2 (by omega)
      go_wp2
      go_ret2
      rw [Hst.out, Hpv.out]
      exact Hend.out
  · have hst : s.turned (· ++ ·) = s := by unfold WSt.turned; rw [if_neg hA]
    rcases List.eq_nil_or_concat s.ahead with hA1 | ⟨a0, q, hA1⟩
    · exact absurd hA1 hA
    · rw [List.concat_eq_append] at hA1
      obtain ⟨hp1, ha1, hb1, hpa1, hpb1, hab1⟩ := h
      obtain ⟨h0, h1, h2, h3, h4, h5, hf⟩ := six hp1
      have hpv : popVal s = .tuple #[.string q.1, .int .i64 0] := by unfold popVal; rw [hA1]; simp
      have hn : s.ahead.length = a0.length + 1 := by rw [hA1]; simp
      have hget : (s.ahead.flatMap strK.pair)[2 * a0.length]? = some (.string q.1) := by
        rw [hA1, List.flatMap_append, List.getElem?_append_right (by rw [pair_len]; omega), pair_len]
        simp [Kind.pair]
      obtain ⟨g, off, cap, he, hnc, _, hgl, hcells, _⟩ := ha1.form (by omega)
      have hq := hcells (2 * a0.length) (by rw [hn]; simp; omega)
      rw [hget, Nat.mul_comm] at hq
      have hend := pop_end ⟨hp1, ha1, hb1, hpa1, hpb1, hab1⟩ hA1 (by rw [he, hn]) (World.Fr.refl w _) (fun k hk => .inl hk)
      rw [he, hn] at h2
      rw [hn] at hnc
      have hnc : a0.length ≤ cap := by omega
      have hnl : a0.length < 1000000 := by unfold WSt.len at hl; omega
      have Hend := Lib.hid hend; clear hend
      have Hst := Lib.hid hst; have HA := Lib.hid hA; have Hl := Lib.hid hl; have Ht := Lib.hid ht; clear hst hA hl ht
      have Hpv := Lib.hid hpv; have HA1 := Lib.hid hA1; have Hp1 := Lib.hid hp1; have Ha1 := Lib.hid ha1; have Hb1 := Lib.hid hb1; have Hn := Lib.hid hn; have He := Lib.hid he; clear hpv hA1 hp1 ha1 hb1 hn he hget hcells
      generalize a0.length = n at *
      have hs1 : IntKind.i64.wrap ((n : Int) + 1 - 1) = n := by rw [IntWalk.i64_in _ (by omega)]; omega
      have hs2 : IntKind.i64.wrap (n : Int) = n := IntWalk.i64_in _ (by omega)
      have hs3 : (n : Int) < n + 1 := by omega
      have hs4 : ((n : Int) + 1 == 0) = false := beq_eq_false_iff_ne.2 (by omega)
      go_enter Try.func15, Try.ntmps15
      go_wp2
      go_ret2
      rw [Hst.out, Hpv.out]
      exact Hend.out

theorem new12 {F : FuncId} (no : ByteArray) (w : World) :
    Calls Try.prog 12 #[.func (.func F) #[] #[], .string no] w fun e w' => ∃ p, e = .returned (.pointer (some ⟨p, 0, none⟩)) ∧ HasWin strK (fv F) w' p { nothing := no, ahead := [], behind := [], sum := ⟨#[]⟩, calls := 0 } [p] ∧ w.Fr w' [] ∧ w.heap.size ≤ p := by
  go_enter Try.func12, Try.ntmps12
  go_wp2
  go_ret
  refine ⟨w.heap.size, rfl, ⟨.slice none 0 0, .slice none 0 0, ⟨?_, World.Sl.nil _ _ _, World.Sl.nil _ _ _, by simp [Value.blk], by simp [Value.blk], by simp [Value.blk]⟩, rfl⟩, (World.Fr.refl w []).alloc _, Nat.le_refl _⟩
  exact heap_alloc_at _ _ _ rfl
end Go.Proofs.Ytikodccbecmjiaa
