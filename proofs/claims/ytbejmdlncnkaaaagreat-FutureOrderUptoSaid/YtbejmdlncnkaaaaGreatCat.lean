/-
  The walks of slices.Grow, Concat of names and of rows.
-/
import Derived.Test.YtbejmdlncnkaaaaGreatKys
import Derived.Lib.AppendZeros
namespace Go.Proofs.YtbejmdlncnkaaaaGreat
open Go.RowKit

set_option maxRecDepth 100000 in
/-- slices.Grow of nothing -/
theorem grow98 {w : World} (n : Nat) (hn : n ≤ 8796093021952) : Calls Tryz.prog 170 #[.slice none 0 0, .int .i64 n] w fun e w' => ∃ v, e = .returned v ∧ Own w w' 9 v [] := by
  obtain ⟨ie, hie, hi0, hi1, hi2⟩ := info_parts infoS
  have hpos : ¬ ((n : Int) < 0) := by omega
  have hw0 : IntKind.i64.wrap (n : Int) = (n : Int) := IntWalk.i64_in _ (by omega)
  by_cases h0 : n = 0
  · subst h0
    go_enter Tryz.func170, Tryz.ntmps170
    go_wp2
    go_ret
    exact ⟨_, rfl, Own.nil w 9⟩
  · have hp : (0 : Int) < (n : Int) := by omega
    have hr := fun ty => Lib.run_append_nil_zeros (P := Tryz.prog) w 24 3 ty 9 ie (.string .empty) .i64 .i64 Tryz.underlying24 Tryz.underlying3 hie hi0 n (by omega) (by rw [hi1]; decide) (by omega) (by rw [hi2]; omega)
    have hge := grownCap_ge w n 0 9
    have hcm := grownCap_le_maxLen w n 0 9 (by unfold maxLen; omega)
    have hown : Own w (w.drew.alloc (.cells (Builtin.zeroCells ((.string .empty) : Value).cells n ++ Builtin.zeroCells ((.string .empty) : Value).cells (grownCap w n 0 9 - n)) 9)) 9 (.slice (some ⟨w.heap.size, 0, none⟩) 0 (grownCap w n 0 9)) [] := by
      refine ⟨⟨rfl, .inr ⟨_, 0, _, _, rfl, heap_alloc_new w.drew _, Nat.zero_le _, hcm, ?_, rfl⟩⟩, by simp [Value.blk], ((World.Fr.refl w []).drew).alloc _⟩
      have hz : ((.string .empty) : Value).cells.size = 1 := rfl
      simp only [Array.size_append, size_zeroCells, hz]
      omega
    have Hown := Lib.hid hown
    clear hown h0
    generalize (w.drew.alloc (.cells (Builtin.zeroCells ((.string .empty) : Value).cells n ++ Builtin.zeroCells ((.string .empty) : Value).cells (grownCap w n 0 9 - n)) 9)) = W at *
    have hcm2 : grownCap w n 0 9 ≤ 9223372036854775807 := by unfold maxLen at hcm; exact hcm
    generalize grownCap w n 0 9 = C at *
    have hnC : n ≤ C := hge
    clear hcm hge
    go_enter Tryz.func170, Tryz.ntmps170
    go_wp2_with (at_builtin; refine Lib.wpList_append_run _ rfl (.tmp 20) (.tmp 21) 24 3 rfl (.slice none 0 0) (.int .i64 n) rfl rfl _ _ (hr _) ?_)
    go_wp2
    go_ret
    exact ⟨_, rfl, Hown.out⟩

def sumLen (xss : List (List Value)) : Nat := (xss.map List.length).sum
theorem sumLen_take (xss : List (List Value)) (j : Nat) : sumLen (xss.take j) ≤ sumLen xss := by
  induction xss generalizing j with
  | nil => simp [sumLen]
  | cons x t ih =>
    cases j with
    | zero => simp [sumLen]
    | succ j => have := ih j; simp [sumLen] at this ⊢; omega
theorem sumLen_succ (xss : List (List Value)) (j : Nat) {xs : List Value} (h : xss[j]? = some xs) : sumLen (xss.take (j + 1)) = sumLen (xss.take j) + xs.length := by
  obtain ⟨h1, rfl⟩ := List.getElem?_eq_some_iff.1 h
  unfold sumLen
  rw [List.take_succ_eq_append_getElem h1, List.map_append, List.sum_append]
  simp
theorem flatten_len (xss : List (List Value)) (j : Nat) : (xss.take j).flatten.length = sumLen (xss.take j) := by simp [sumLen, List.length_flatten]

set_option maxRecDepth 100000 in
set_option maxHeartbeats 4000000 in
theorem concat68 {w : World} {v : Value} {hs : List Value} (xss : List (List Value)) (h : w.Rd 1 v hs.length hs) (hlen : hs.length = xss.length) (hrow : ∀ (i : Nat) (hv : Value) (xs : List Value), hs[i]? = some hv → xss[i]? = some xs → w.Rd 1 hv xs.length xs ∧ xs.all Value.oneCell' = true) (hl : hs.length ≤ 100) (hsum : sumLen xss ≤ 8796093021952) :
    Calls Tryz.prog 117 #[v] w fun e w' => ∃ v', e = .returned v' ∧ Own w w' 9 v' xss.flatten := by
  obtain ⟨a1, c1, rfl, _, _⟩ := h.shape
  obtain ⟨ie, hie, hi0, hi1, hi2⟩ := info_parts infoS
  have H := Lib.hid h; have Hlen := Lib.hid hlen; have Hrow := Lib.hid hrow; have Hl := Lib.hid hl; have Hsum := Lib.hid hsum; clear h hlen hrow hl hsum
  go_enter Tryz.func117, Tryz.ntmps117
  go_wp2
  go_loopw [11, 3] (fun i s wr => ∃ j : Nat, i = .int .i64 j ∧ j ≤ hs.length ∧ s = .int .i64 (sumLen (xss.take j) : Nat) ∧ wr = w) (fun i _ _ => (hs.length - intOf i).toNat)
  case atStart => exact ⟨0, rfl, Nat.zero_le _, rfl, rfl⟩
  case round =>
    obtain ⟨j, rfl, hj, rfl, rfl⟩ := hrel
    have hle := sumLen_take xss j
    by_cases hlt : j < hs.length
    · obtain ⟨hv, hhv⟩ : ∃ hv, hs[j]? = some hv := ⟨hs[j], List.getElem?_eq_getElem hlt⟩
      obtain ⟨xs, hxs⟩ : ∃ xs, xss[j]? = some xs := ⟨xss[j]'(by have := Hlen.out; omega), List.getElem?_eq_getElem _⟩
      obtain ⟨hr1, hr2⟩ := Hrow.out j hv xs hhv hxs
      obtain ⟨ax, mx, rfl, _, _⟩ := hr1.shape
      obtain ⟨g, off, c, hve, _, _, hg, kcs⟩ := H.out.form (by omega)
      have kx := kcs j (by omega)
      clear kcs
      rw [hhv] at kx
      cases hve
      have hjI : (j : Int) < (hs.length : Int) := by omega
      have hw1 : IntKind.i64.wrap ((j : Int) + 1) = (j : Int) + 1 := IntWalk.i64_in _ (by have := Hl.out; omega)
      have hsn := sumLen_succ xss j hxs
      have hle2 := sumLen_take xss (j + 1)
      have hw2 : IntKind.i64.wrap ((sumLen (xss.take j) : Nat) + (xs.length : Int) : Int) = ((sumLen (xss.take (j + 1)) : Nat) : Int) := by
        rw [IntWalk.i64_in _ (by have := Hsum.out; omega), hsn]; omega
      have hnn : ¬ (((sumLen (xss.take (j + 1)) : Nat) : Int) < 0) := by omega
      have hnb : decide (((sumLen (xss.take (j + 1)) : Nat) : Int) < 0) = false := decide_eq_false hnn
      clear hsn hle hle2 hr1 hr2 hxs hhv
      generalize hS : sumLen (xss.take j) = S at *
      generalize hS2 : sumLen (xss.take (j + 1)) = S2 at *
      have HS2 := Lib.hid hS2; clear hS hS2
      go_wp2
      go_roundw
      case rel => exact ⟨j + 1, by go_num, by omega, by rw [HS2.out], trivial⟩
      case measure => simp [intOf]; omega
    · have hd : decide ((j : Int) < (hs.length : Int)) = false := decide_eq_false (by omega)
      have hd2 : decide (j < hs.length) = false := decide_eq_false hlt
      obtain rfl : j = hs.length := by omega
      rw [List.take_of_length_le (by rw [Hlen.out]; exact Nat.le_refl _)] at hle ⊢
      have hgr := grow98 (w := wr) (sumLen xss) Hsum.out
      have Hgr := Lib.hid hgr; clear hgr hle hlt hj
      generalize hS : sumLen xss = S at *
      have HS := Lib.hid hS; clear hS
      go_wp2_with fail
      refine Hgr.out.mono ?_
      rintro e w1 ⟨v1, rfl, ho⟩
      obtain ⟨b1, d1, rfl⟩ := ho.shape
      have HO0 := Lib.hid ho; clear ho
      go_wp2
      obtain ⟨wQ, rfl⟩ : ∃ wQ : World, wQ = wr := ⟨_, rfl⟩
      go_loopw [27, 6] (fun i vo wr => ∃ j : Nat, i = .int .i64 j ∧ j ≤ hs.length ∧ Hid (Own wQ wr 9 vo (xss.take j).flatten)) (fun i _ _ => (hs.length - intOf i).toNat)
      case atStart => exact ⟨0, rfl, Nat.zero_le _, HO0⟩
      case round =>
        obtain ⟨j, rfl, hj, HO⟩ := hrel
        obtain ⟨oa, oc, hov⟩ := HO.out.shape
        subst hov
        by_cases hlt : j < hs.length
        · obtain ⟨hv, hhv⟩ : ∃ hv, hs[j]? = some hv := ⟨hs[j], List.getElem?_eq_getElem hlt⟩
          obtain ⟨xs, hxs⟩ : ∃ xs, xss[j]? = some xs := ⟨xss[j]'(by have := Hlen.out; omega), List.getElem?_eq_getElem _⟩
          obtain ⟨hr1, hr2⟩ := Hrow.out j hv xs hhv hxs
          obtain ⟨ax, mx, rfl, _, _⟩ := hr1.shape
          obtain ⟨g, off, c, hve, _, _, hg, kcs⟩ := (H.out.fr HO.out.fr (by simp)).form (by omega)
          have kx := kcs j (by omega)
          clear kcs
          rw [hhv] at kx
          cases hve
          have hjI : (j : Int) < (hs.length : Int) := by omega
          have hw1 : IntKind.i64.wrap ((j : Int) + 1) = (j : Int) + 1 := IntWalk.i64_in _ (by have := Hl.out; omega)
          have hsn := sumLen_succ xss j hxs
          have hle2 := sumLen_take xss (j + 1)
          have hfl := flatten_len xss j
          have hfs : (xss.take (j + 1)).flatten = (xss.take j).flatten ++ xs := by
            rw [List.take_succ_eq_append_getElem (List.getElem?_eq_some_iff.1 hxs).1, (List.getElem?_eq_some_iff.1 hxs).2]; simp
          have hsrc := hr1.fr HO.out.fr (by simp)
          have hroom : (xss.take j).flatten.length + xs.length ≤ 8796093021952 := by have := Hsum.out; have := HS.out; omega
          have hsl := HO.out.sl
          have Hfs := Lib.hid hfs; have Hsrc := Lib.hid hsrc; have Hsl := Lib.hid hsl; have Hr2 := Lib.hid hr2
          clear hsn hle2 hfl hfs hsrc hsl hr1 hr2 hxs hhv
          generalize (xss.take j).flatten = zs at *
          generalize hzl : zs.length = zl at *
          have Hzl := Lib.hid hzl; clear hzl
          go_wp2_with (at_builtin; refine wpList_append_src _ rfl (.tmp 31) (.tmp 32) 24 rfl 9 ie (.string .empty) 1 16 Tryz.underlying24 hie hi0 hi1 hi2 rfl (.slice oa zl oc) zl zs rfl Hsl.out (.slice ax xs.length mx) xs.length xs rfl Hsrc.out Hr2.out ⟨by omega, by omega⟩ ?_)
          intro v' w5 hs5 hf5 hb5
          have hown : Own wQ w5 9 v' (zs ++ xs) := by
            refine ⟨by rw [List.length_append, Hzl.out]; exact hs5, fun k hk => ?_, HO.out.fr.trans hf5 (fun k hk => .inr (HO.out.new k hk))⟩
            rcases hb5 k hk with h | h
            · exact HO.out.new k h
            · have := HO.out.fr.size; omega
          rw [← Hfs.out] at hown
          have Hown := Lib.hid hown
          clear hown hs5 hf5 hb5
          go_wp2
          go_roundw
          case rel => exact ⟨j + 1, by go_num, by omega, Hown⟩
          case measure => simp [intOf]; omega
        · have hd : decide ((j : Int) < (hs.length : Int)) = false := decide_eq_false (by omega)
          have hd2 : decide (j < hs.length) = false := decide_eq_false hlt
          obtain rfl : j = hs.length := by omega
          rw [List.take_of_length_le (by rw [Hlen.out]; exact Nat.le_refl _)] at HO ⊢
          clear hlt hj
          go_wp2
          go_ret
          exact ⟨_, rfl, HO.out⟩

set_option maxRecDepth 100000 in
/-- slices.Grow of nothing -/
theorem grow108 {w : World} (n : Nat) (hn : n ≤ 5864062014634) : Calls Tryz.prog 167 #[.slice none 0 0, .int .i64 n] w fun e w' => ∃ v, e = .returned v ∧ Own w w' 81 v [] := by
  obtain ⟨ie, hie, hi0, hi1, hi2⟩ := info_parts infoH
  have hpos : ¬ ((n : Int) < 0) := by omega
  have hw0 : IntKind.i64.wrap (n : Int) = (n : Int) := IntWalk.i64_in _ (by omega)
  by_cases h0 : n = 0
  · subst h0
    go_enter Tryz.func167, Tryz.ntmps167
    go_wp2
    go_ret
    exact ⟨_, rfl, Own.nil w 81⟩
  · have hp : (0 : Int) < (n : Int) := by omega
    have hr := fun ty => Lib.run_append_nil_zeros (P := Tryz.prog) w 32 3 ty 81 ie (.slice none 0 0) .i64 .i64 Tryz.underlying32 Tryz.underlying3 hie hi0 n (by omega) (by rw [hi1]; decide) (by omega) (by rw [hi2]; omega)
    have hge := grownCap_ge w n 0 81
    have hcm := grownCap_le_maxLen w n 0 81 (by unfold maxLen; omega)
    have hown : Own w (w.drew.alloc (.cells (Builtin.zeroCells ((.slice none 0 0) : Value).cells n ++ Builtin.zeroCells ((.slice none 0 0) : Value).cells (grownCap w n 0 81 - n)) 81)) 81 (.slice (some ⟨w.heap.size, 0, none⟩) 0 (grownCap w n 0 81)) [] := by
      refine ⟨⟨rfl, .inr ⟨_, 0, _, _, rfl, heap_alloc_new w.drew _, Nat.zero_le _, hcm, ?_, rfl⟩⟩, by simp [Value.blk], ((World.Fr.refl w []).drew).alloc _⟩
      have hz : ((.slice none 0 0) : Value).cells.size = 1 := rfl
      simp only [Array.size_append, size_zeroCells, hz]
      omega
    have Hown := Lib.hid hown
    clear hown h0
    generalize (w.drew.alloc (.cells (Builtin.zeroCells ((.slice none 0 0) : Value).cells n ++ Builtin.zeroCells ((.slice none 0 0) : Value).cells (grownCap w n 0 81 - n)) 81)) = W at *
    have hcm2 : grownCap w n 0 81 ≤ 9223372036854775807 := by unfold maxLen at hcm; exact hcm
    generalize grownCap w n 0 81 = C at *
    have hnC : n ≤ C := hge
    clear hcm hge
    go_enter Tryz.func167, Tryz.ntmps167
    go_wp2_with (at_builtin; refine Lib.wpList_append_run _ rfl (.tmp 20) (.tmp 21) 32 3 rfl (.slice none 0 0) (.int .i64 n) rfl rfl _ _ (hr _) ?_)
    go_wp2
    go_ret
    exact ⟨_, rfl, Hown.out⟩


set_option maxRecDepth 100000 in
set_option maxHeartbeats 4000000 in
theorem concat86 {w : World} {v : Value} {hs : List Value} (xss : List (List Value)) (h : w.Rd 1 v hs.length hs) (hlen : hs.length = xss.length) (hrow : ∀ (i : Nat) (hv : Value) (xs : List Value), hs[i]? = some hv → xss[i]? = some xs → w.Rd 1 hv xs.length xs ∧ xs.all Value.oneCell' = true) (hl : hs.length ≤ 100) (hsum : sumLen xss ≤ 5864062014634) :
    Calls Tryz.prog 108 #[v] w fun e w' => ∃ v', e = .returned v' ∧ Own w w' 81 v' xss.flatten := by
  obtain ⟨a1, c1, rfl, _, _⟩ := h.shape
  obtain ⟨ie, hie, hi0, hi1, hi2⟩ := info_parts infoH
  have H := Lib.hid h; have Hlen := Lib.hid hlen; have Hrow := Lib.hid hrow; have Hl := Lib.hid hl; have Hsum := Lib.hid hsum; clear h hlen hrow hl hsum
  go_enter Tryz.func108, Tryz.ntmps108
  go_wp2
  go_loopw [11, 3] (fun i s wr => ∃ j : Nat, i = .int .i64 j ∧ j ≤ hs.length ∧ s = .int .i64 (sumLen (xss.take j) : Nat) ∧ wr = w) (fun i _ _ => (hs.length - intOf i).toNat)
  case atStart => exact ⟨0, rfl, Nat.zero_le _, rfl, rfl⟩
  case round =>
    obtain ⟨j, rfl, hj, rfl, rfl⟩ := hrel
    have hle := sumLen_take xss j
    by_cases hlt : j < hs.length
    · obtain ⟨hv, hhv⟩ : ∃ hv, hs[j]? = some hv := ⟨hs[j], List.getElem?_eq_getElem hlt⟩
      obtain ⟨xs, hxs⟩ : ∃ xs, xss[j]? = some xs := ⟨xss[j]'(by have := Hlen.out; omega), List.getElem?_eq_getElem _⟩
      obtain ⟨hr1, hr2⟩ := Hrow.out j hv xs hhv hxs
      obtain ⟨ax, mx, rfl, _, _⟩ := hr1.shape
      obtain ⟨g, off, c, hve, _, _, hg, kcs⟩ := H.out.form (by omega)
      have kx := kcs j (by omega)
      clear kcs
      rw [hhv] at kx
      cases hve
      have hjI : (j : Int) < (hs.length : Int) := by omega
      have hw1 : IntKind.i64.wrap ((j : Int) + 1) = (j : Int) + 1 := IntWalk.i64_in _ (by have := Hl.out; omega)
      have hsn := sumLen_succ xss j hxs
      have hle2 := sumLen_take xss (j + 1)
      have hw2 : IntKind.i64.wrap ((sumLen (xss.take j) : Nat) + (xs.length : Int) : Int) = ((sumLen (xss.take (j + 1)) : Nat) : Int) := by
        rw [IntWalk.i64_in _ (by have := Hsum.out; omega), hsn]; omega
      have hnn : ¬ (((sumLen (xss.take (j + 1)) : Nat) : Int) < 0) := by omega
      have hnb : decide (((sumLen (xss.take (j + 1)) : Nat) : Int) < 0) = false := decide_eq_false hnn
      clear hsn hle hle2 hr1 hr2 hxs hhv
      generalize hS : sumLen (xss.take j) = S at *
      generalize hS2 : sumLen (xss.take (j + 1)) = S2 at *
      have HS2 := Lib.hid hS2; clear hS hS2
      go_wp2
      go_roundw
      case rel => exact ⟨j + 1, by go_num, by omega, by rw [HS2.out], trivial⟩
      case measure => simp [intOf]; omega
    · have hd : decide ((j : Int) < (hs.length : Int)) = false := decide_eq_false (by omega)
      have hd2 : decide (j < hs.length) = false := decide_eq_false hlt
      obtain rfl : j = hs.length := by omega
      rw [List.take_of_length_le (by rw [Hlen.out]; exact Nat.le_refl _)] at hle ⊢
      have hgr := grow108 (w := wr) (sumLen xss) Hsum.out
      have Hgr := Lib.hid hgr; clear hgr hle hlt hj
      generalize hS : sumLen xss = S at *
      have HS := Lib.hid hS; clear hS
      go_wp2_with fail
      refine Hgr.out.mono ?_
      rintro e w1 ⟨v1, rfl, ho⟩
      obtain ⟨b1, d1, rfl⟩ := ho.shape
      have HO0 := Lib.hid ho; clear ho
      go_wp2
      obtain ⟨wQ, rfl⟩ : ∃ wQ : World, wQ = wr := ⟨_, rfl⟩
      go_loopw [27, 6] (fun i vo wr => ∃ j : Nat, i = .int .i64 j ∧ j ≤ hs.length ∧ Hid (Own wQ wr 81 vo (xss.take j).flatten)) (fun i _ _ => (hs.length - intOf i).toNat)
      case atStart => exact ⟨0, rfl, Nat.zero_le _, HO0⟩
      case round =>
        obtain ⟨j, rfl, hj, HO⟩ := hrel
        obtain ⟨oa, oc, hov⟩ := HO.out.shape
        subst hov
        by_cases hlt : j < hs.length
        · obtain ⟨hv, hhv⟩ : ∃ hv, hs[j]? = some hv := ⟨hs[j], List.getElem?_eq_getElem hlt⟩
          obtain ⟨xs, hxs⟩ : ∃ xs, xss[j]? = some xs := ⟨xss[j]'(by have := Hlen.out; omega), List.getElem?_eq_getElem _⟩
          obtain ⟨hr1, hr2⟩ := Hrow.out j hv xs hhv hxs
          obtain ⟨ax, mx, rfl, _, _⟩ := hr1.shape
          obtain ⟨g, off, c, hve, _, _, hg, kcs⟩ := (H.out.fr HO.out.fr (by simp)).form (by omega)
          have kx := kcs j (by omega)
          clear kcs
          rw [hhv] at kx
          cases hve
          have hjI : (j : Int) < (hs.length : Int) := by omega
          have hw1 : IntKind.i64.wrap ((j : Int) + 1) = (j : Int) + 1 := IntWalk.i64_in _ (by have := Hl.out; omega)
          have hsn := sumLen_succ xss j hxs
          have hle2 := sumLen_take xss (j + 1)
          have hfl := flatten_len xss j
          have hfs : (xss.take (j + 1)).flatten = (xss.take j).flatten ++ xs := by
            rw [List.take_succ_eq_append_getElem (List.getElem?_eq_some_iff.1 hxs).1, (List.getElem?_eq_some_iff.1 hxs).2]; simp
          have hsrc := hr1.fr HO.out.fr (by simp)
          have hroom : (xss.take j).flatten.length + xs.length ≤ 5864062014634 := by have := Hsum.out; have := HS.out; omega
          have hsl := HO.out.sl
          have Hfs := Lib.hid hfs; have Hsrc := Lib.hid hsrc; have Hsl := Lib.hid hsl; have Hr2 := Lib.hid hr2
          clear hsn hle2 hfl hfs hsrc hsl hr1 hr2 hxs hhv
          generalize (xss.take j).flatten = zs at *
          generalize hzl : zs.length = zl at *
          have Hzl := Lib.hid hzl; clear hzl
          go_wp2_with (at_builtin; refine wpList_append_src _ rfl (.tmp 31) (.tmp 32) 32 rfl 81 ie (.slice none 0 0) 1 24 Tryz.underlying32 hie hi0 hi1 hi2 rfl (.slice oa zl oc) zl zs rfl Hsl.out (.slice ax xs.length mx) xs.length xs rfl Hsrc.out Hr2.out ⟨by omega, by omega⟩ ?_)
          intro v' w5 hs5 hf5 hb5
          have hown : Own wQ w5 81 v' (zs ++ xs) := by
            refine ⟨by rw [List.length_append, Hzl.out]; exact hs5, fun k hk => ?_, HO.out.fr.trans hf5 (fun k hk => .inr (HO.out.new k hk))⟩
            rcases hb5 k hk with h | h
            · exact HO.out.new k h
            · have := HO.out.fr.size; omega
          rw [← Hfs.out] at hown
          have Hown := Lib.hid hown
          clear hown hs5 hf5 hb5
          go_wp2
          go_roundw
          case rel => exact ⟨j + 1, by go_num, by omega, Hown⟩
          case measure => simp [intOf]; omega
        · have hd : decide ((j : Int) < (hs.length : Int)) = false := decide_eq_false (by omega)
          have hd2 : decide (j < hs.length) = false := decide_eq_false hlt
          obtain rfl : j = hs.length := by omega
          rw [List.take_of_length_le (by rw [Hlen.out]; exact Nat.le_refl _)] at HO ⊢
          clear hlt hj
          go_wp2
          go_ret
          exact ⟨_, rfl, HO.out⟩
end Go.Proofs.YtbejmdlncnkaaaaGreat
