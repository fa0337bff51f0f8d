/-
  The document's names: find, unlike, picked.
-/
import Derived.Test.YtikodapgceokhaaGreatCopied
import Derived.Test.YtikodapgceokhaaGreatCol
namespace Go.Proofs.YtikodapgceokhaaGreat
open Go.RowKit

set_option maxHeartbeats 1000000 in
theorem rfind81 {w : World} {v : Value} {l : List BA} (x : BA) (h : RdStr w v l) (hl : l.length ≤ 8000000000000000000) :
    Calls Tryz.prog 81 #[v, .string x] w fun e w' => e = .returned (.int .i64 (idx l x)) ∧ w = w' := by
  obtain ⟨a1, c1, rfl, _, _⟩ := h.rd.shape
  have H := Lib.hid h; have Hl := Lib.hid hl; clear h hl
  generalize hR : idx l x = R
  have HR := Lib.hid hR; clear hR
  go_enter Tryz.func81, Tryz.ntmps81
  go_wp2
  go_loopw [5] (fun i wr => ∃ j : Nat, i = .int .i64 j ∧ j ≤ l.length ∧ Hid (∀ (i : Nat) (a : BA), i < j → l[i]? = some a → (x.toList == a.toList) = false) ∧ wr = w) (fun i _ => (l.length - intOf i).toNat)
  case atStart => exact ⟨0, rfl, Nat.zero_le _, Lib.hid (fun i a hi => by omega), rfl⟩
  case round =>
    obtain ⟨j, rfl, hj, HA, rfl⟩ := hrel
    by_cases hlt : j < l.length
    · obtain ⟨y, hy⟩ : ∃ y, l[j]? = some y := ⟨l[j], List.getElem?_eq_getElem (by omega)⟩
      obtain ⟨g, off, c, hv, hg, kx⟩ := H.out.at hy
      cases hv
      have hrI : (j : Int) < (l.length : Int) := by omega
      have hw1 : IntKind.i64.wrap ((j : Int) + 1) = (j : Int) + 1 := IntWalk.i64_in _ (by have := Hl.out; omega)
      have Hy := Lib.hid hy; clear hy
      have hyx : (y.toList == x.toList) = (x.toList == y.toList) := by rw [Bool.eq_iff_iff, beq_iff_eq, beq_iff_eq]; exact eq_comm
      cases hxy : x.toList == y.toList with
      | true =>
        rw [hxy] at hyx
        have hres : R = (j : Int) := by rw [← HR.out]; exact idx_at j Hy.out hxy HA.out
        subst hres
        go_wp2
        go_ret
        exact ⟨rfl, rfl⟩
      | false =>
        rw [hxy] at hyx
        have Hxy := Lib.hid hxy
        go_wp2
        go_roundw
        case rel => exact ⟨j + 1, by go_num, by omega, Lib.hid (fun k a hk ha => by
          rcases Nat.lt_or_ge k j with h | h
          · exact HA.out k a h ha
          · obtain rfl : k = j := by omega
            rw [Hy.out] at ha
            cases ha; exact Hxy.out), trivial⟩
        case measure => simp [intOf]; omega
    · have hres : R = -1 := by
        rw [← HR.out]
        exact idx_neg (fun y hy => by
          obtain ⟨i, hi⟩ := List.getElem?_of_mem hy
          exact HA.out i y (by have := (List.getElem?_eq_some_iff.1 hi).1; omega) hi)
      have hd : decide ((j : Int) < (l.length : Int)) = false := decide_eq_false (by omega)
      have hd2 : decide (j < l.length) = false := decide_eq_false hlt
      subst hres
      clear HA hlt hj HR
      go_wp2
      go_ret
      exact ⟨rfl, rfl⟩

theorem rd_take {w : World} {size g off n cap j : Nat} {xs : List Value} (h : w.Rd size (.slice (some ⟨g, off, none⟩) n cap) n xs) (hj : j ≤ n) : w.Rd size (.slice (some ⟨g, off, none⟩) j cap) j (xs.take (j * size)) := by
  have hle := Nat.mul_le_mul_right size hj
  refine ⟨by rw [List.length_take, h.1]; omega, ?_⟩
  rcases h.2 with ⟨h0, a, c, he, hm⟩ | ⟨g', off', cap', he, hc, hm, hg, hcell⟩
  · cases he
    exact .inl ⟨by omega, _, _, by rw [show j = 0 by omega], hm⟩
  · cases he
    refine .inr ⟨_, _, _, rfl, by omega, hm, hg, fun k hk => ?_⟩
    rw [hcell k (by omega), List.getElem?_take_of_lt hk]
theorem str_take {w : World} {g off cap j : Nat} {l : List BA} (h : RdStr w (.slice (some ⟨g, off, none⟩) l.length cap) l) (hj : j ≤ l.length) : RdStr w (.slice (some ⟨g, off, none⟩) (l.take j).length cap) (l.take j) := by
  have h1 := rd_take h.rd hj
  rw [Nat.mul_one, ← List.map_take] at h1
  have e : (l.take j).length = j := by simp; omega
  refine ⟨?_, fun s hs => h.wf s (List.mem_of_mem_take hs)⟩
  rw [e]; exact h1
theorem nodup_take_succ {l : List BA} {j : Nat} {x : BA} (hx : l[j]? = some x) (hn : (l.take j).Nodup) (h : x ∉ l.take j) : (l.take (j + 1)).Nodup := by
  have hj := (List.getElem?_eq_some_iff.1 hx).1
  rw [List.take_succ_eq_append_getElem hj, (List.getElem?_eq_some_iff.1 hx).2, List.nodup_append]
  refine ⟨hn, by simp, fun a ha b hb => ?_⟩
  simp at hb
  subst hb
  exact fun e => h (e ▸ ha)
theorem not_nodup {l : List BA} {j : Nat} {x : BA} (hx : l[j]? = some x) (h : x ∈ l.take j) : ¬ l.Nodup := fun hn => by
  have hj := (List.getElem?_eq_some_iff.1 hx).1
  have h2 : (l.take (j + 1)).Nodup := hn.sublist (List.take_sublist _ _)
  rw [List.take_succ_eq_append_getElem hj, (List.getElem?_eq_some_iff.1 hx).2, List.nodup_append] at h2
  exact h2.2.2 x h x (by simp) rfl

set_option maxRecDepth 100000 in
set_option maxHeartbeats 2000000 in
theorem runlike80 {w : World} {v : Value} {l : List BA} (h : RdStr w v l) (hl : l.length ≤ 8000000000000000000) :
    Calls Tryz.prog 80 #[v] w fun e w' => e = .returned (.bool (decide l.Nodup)) ∧ w.Fr w' [] := by
  obtain ⟨a1, c1, rfl, hc1, _⟩ := h.rd.shape
  have H := Lib.hid h; have Hl := Lib.hid hl; clear h hl
  generalize hR : decide l.Nodup = R
  have HR := Lib.hid hR; clear hR
  go_enter Tryz.func80, Tryz.ntmps80
  go_wp2
  go_loopw [3] (fun i wr => ∃ j : Nat, i = .int .i64 j ∧ j ≤ l.length ∧ Hid (l.take j).Nodup ∧ Hid (w.Fr wr [])) (fun i _ => (l.length - intOf i).toNat)
  case atStart => exact ⟨0, rfl, Nat.zero_le _, Lib.hid (by simp), Lib.hid (World.Fr.refl w [])⟩
  case round =>
    obtain ⟨j, rfl, hj, HA, HF⟩ := hrel
    by_cases hlt : j < l.length
    · obtain ⟨y, hy⟩ : ∃ y, l[j]? = some y := ⟨l[j], List.getElem?_eq_getElem (by omega)⟩
      obtain ⟨g, off, c, hv, hg, kx⟩ := (H.out.fr HF.out (by simp)).at hy
      cases hv
      have hrI : (j : Int) < (l.length : Int) := by omega
      have hw1 : IntKind.i64.wrap ((j : Int) + 1) = (j : Int) + 1 := IntWalk.i64_in _ (by have := Hl.out; omega)
      have hlen : (l.take j).length = j := by simp; omega
      have hc := fun w' (hf : wr.Fr w' []) => rfind81 (w := w') y ((str_take (H.out.fr HF.out (by simp)) hj).fr hf (by simp)) (by rw [hlen]; have := Hl.out; omega)
      rw [hlen] at hc
      have him := idx_mem (l := l.take j) (x := y)
      generalize hix : idx (l.take j) y = ix at *
      have Hc := Lib.hid hc; have Hy := Lib.hid hy; have Him := Lib.hid him; clear hc hy him hix
      have hq : ∀ n, Calls Tryz.prog 81 #[.slice (some ⟨g, off, none⟩) j c1, .string y] (wr.drewN n) fun e w' => e = .returned (.int .i64 ix) ∧ w' = wr.drewN n := fun n => (Hc.out (wr.drewN n) ((World.Fr.refl wr []).of_drewN n)).mono fun e w' ⟨h1, h2⟩ => ⟨h1, h2.symm⟩
      have hcap : j ≤ c1 := by omega
      have hcI : (j : Int) ≤ (c1 : Int) := by omega
      have hnn : (0 : Int) ≤ (j : Int) := by omega
      by_cases h0 : 0 ≤ ix
      · have hd : decide ((0 : Int) ≤ ix) = true := decide_eq_true h0
        have hr : R = false := by rw [← HR.out]; exact decide_eq_false (not_nodup Hy.out (Him.out.1 h0))
        subst hr
        clear h0
        go_wp2
        go_quiet (first | (go_at_call 81; with_reducible exact Calls.quiet_of_same (hq _)))
        go_wp2
        go_ret
        exact ⟨rfl, HF.out.of_drewN _⟩
      · have hd : decide ((0 : Int) ≤ ix) = false := decide_eq_false h0
        have hn := nodup_take_succ Hy.out HA.out (fun h => h0 (Him.out.2 h))
        have Hn := Lib.hid hn
        clear h0 hn
        go_wp2
        go_quiet (first | (go_at_call 81; with_reducible exact Calls.quiet_of_same (hq _)))
        go_wp2
        go_roundw
        case rel => exact ⟨j + 1, by go_num, by omega, Hn, Lib.hid (HF.out.of_drewN _)⟩
        case measure => simp [intOf]; omega
    · have hd : decide ((j : Int) < (l.length : Int)) = false := decide_eq_false (by omega)
      have hd2 : decide (j < l.length) = false := decide_eq_false hlt
      obtain rfl : j = l.length := by omega
      have hn := HA.out
      rw [List.take_of_length_le (Nat.le_refl _)] at hn
      have hr : R = true := by rw [← HR.out]; exact decide_eq_true hn
      subst hr
      clear hn HA
      go_wp2
      go_ret
      exact ⟨rfl, HF.out⟩
end Go.Proofs.YtikodapgceokhaaGreat
