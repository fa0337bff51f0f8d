/-
  The walk of WindowPlays.
-/
import Derived.Test.YtikodccbecmjiaaPlays
namespace Go.Proofs.Ytikodccbecmjiaa
open Go.RowKit Go.Win

set_option maxHeartbeats 4000000 in
theorem plays6 (k a b m : Int) (v : Value) (ops : List O) (w : World) (hS : Script w v ops) (hn : ops.length ≤ 8000000000000) :
    Calls Try.prog 6 #[opv k a b m, v] w fun e w' => e = .returned (.bool true) ∧ w.Fr w' [] := by
  obtain ⟨va, vc, rfl⟩ := hS.shape
  have HS := Lib.hid hS; have Hn := Lib.hid hn; clear hS hn
  go_enter Try.func6, Try.ntmps6
  go_wp2_with fail
  refine (live11 _).mono ?_
  rintro e w1 ⟨rfl, hf1⟩
  have hb1 := hf1.heap (heap_alloc_at w (.cells #[.int .i64 k, .int .u64 a, .int .u64 b, .int .i64 m] 38) _ rfl) (by simp)
  have hg1 : w.Fr w1 [] := ((World.Fr.refl w []).alloc _).trans hf1 (by simp)
  obtain ⟨c0, c1, c2, c3, cf⟩ := four hb1
  have Hb1 := Lib.hid hb1; have Hg1 := Lib.hid hg1; clear hb1 hg1 hf1
  go_wp2_with fail
  refine (thing23 _ _ _ _ _).mono ?_
  rintro e w2 ⟨rfl, hf2⟩
  have Hb2 := Lib.hid (hf2.heap Hb1.out (by simp)); have Hg2 := Lib.hid (Hg1.out.trans hf2 (by simp)); clear hf2 c0 c1 c2 c3 cf Hb1 Hg1
  go_wp2_with fail
  refine (new7 ok8 (a, b) _ trivial).mono ?_
  rintro e w3 ⟨p, rfl, hw3, hf3, hp3⟩
  have hb3 := hf3.heap Hb2.out (by simp)
  obtain ⟨c0, c1, c2, c3, cf⟩ := four hb3
  have Hb3 := Lib.hid hb3; have Hg3 := Lib.hid (Hg2.out.trans hf3 (by simp)); have Hw3 := Lib.hid hw3; have Hp3 := Lib.hid (Nat.le_trans Hg2.out.size hp3); clear hf3 hb3 hw3 hp3 Hb2 Hg2
  go_wp2_with fail
  refine (thing23 _ _ _ _ _).mono ?_
  rintro e w4 ⟨rfl, hf4⟩
  have hg4 := Hg3.out.trans hf4 (by simp)
  have hw4 := Hw3.out.has.fr hf4 (by simp)
  have hT : TwoAt w [] p w4.heap.size (a, b) [] (w4.alloc (.cells #[.slice none 0 0, .int .u64 a, .int .u64 b] 53)) { nothing := (a, b), ahead := [], behind := [], sum := (0, 0), calls := 0 } [] := by
    refine two_start (L := [p]) (hg4.alloc _) ⟨hw4.fr ((World.Fr.refl w4 []).alloc _) (by simp), trivial, by simp⟩ (by simpa using Hp3.out) (heap_alloc_at _ _ _ rfl) (fun hk => ?_) hg4.size
    have := hw4.lt _ hk
    omega
  have hF : Fits 0 (a, b) { nothing := (a, b), ahead := [], behind := [], sum := (0, 0), calls := 0 } [] :=
    ⟨⟨rfl, trivial, by simp⟩, ⟨by simp [WSt.len], by simp [pot], by simp, by simp, by simp⟩, rfl⟩
  have HT := Lib.hid hT; have HF := Lib.hid hF; clear hT hF hf4 hg4 hw4 c0 c1 c2 c3 cf Hb3 Hg3 Hw3 Hp3
  go_wp2_with fail
  generalize hR : w4.heap.size = r at *
  generalize hW : World.alloc w4 _ = W at *
  clear hR hW
  go_loopw [6, 25] (fun pv i wr => ∃ (j p : Nat) (s : WSt T) (l : List T), j ≤ ops.length ∧ pv = .pointer (some ⟨p, 0, none⟩) ∧ i = .int .i64 j ∧ Hid (TwoAt w [] p r (a, b) [] wr s l) ∧ Hid (Fits (10001 * j) (a, b) s l)) (fun _ i _ => (ops.length - intOf i).toNat)
  case atStart => exact ⟨0, p, _, _, Nat.zero_le _, rfl, rfl, HT, HF⟩
  case round =>
    obtain ⟨j, p', s, l, hj, rfl, rfl, HTj, HFj⟩ := hrel
    by_cases hlt : j < ops.length
    · obtain ⟨⟨o1, o2, o3, o4⟩, ho⟩ : ∃ o, ops[j]? = some o := ⟨ops[j], List.getElem?_eq_getElem hlt⟩
      obtain ⟨g, off, c, hv, hg, k0, k1, k2, k3⟩ := (HS.out.fr HTj.out.base).cells j _ ho
      cases hv
      simp only at k0 k1 k2 k3
      have hltI : (j : Int) < (ops.length : Int) := by omega
      have hroom : 10001 * j + 10001 ≤ room := by unfold room; have := Hn.out; omega
      have hw1 : IntKind.i64.wrap ((j : Int) + 1) = (j : Int) + 1 := IntWalk.i64_in _ (by have := Hn.out; omega)
      have hgl1 : g < wr.heap.size + 1 := by omega
      have hA := HTj.out.alloc (.cells #[.int .i64 o1, .int .u64 o2, .int .u64 o3, .int .i64 o4] 38)
      have HA := Lib.hid hA; have Hroom := Lib.hid hroom; clear hA hroom HTj
      have hlen : s.len < 1000000 := by have := HFj.out.good.len; omega
      have Hlen := Lib.hid hlen; clear hlen
      have hB5 : 10001 * j + 5 ≤ room := by have := Hroom.out; omega
      have HB5 := Lib.hid hB5; clear hB5
      by_cases h6 : o1 = 6
      · subst h6
        go_wp2_with fail
        refine (tClone HA.out Hlen.out).mono ?_
        rintro e w7 ⟨q, rfl, hC⟩
        have Hst := Lib.hid (stirOld hC HFj.out.good HB5.out); clear hC
        go_wp2_with fail
        refine Hst.out.mono ?_
        rintro e w8 ⟨rfl, hT8⟩
        obtain ⟨d0, d1, d2, d3, df⟩ := four (hT8.box (List.mem_cons_self ..))
        have HT8 := Lib.hid hT8; clear hT8 Hst
        go_wp2_with fail
        refine (step26 HT8.out HFj.out Hroom.out _ _ _ _).mono ?_
        rintro e w9 ⟨rfl, s', l', hT9, hF9⟩
        have HT9 := Lib.hid hT9.drop; have HF9 := Lib.hid (hF9.mono (show 10001 * j + 10001 ≤ 10001 * (j + 1) by omega)); clear hT9 hF9
        go_wp2
        go_roundw
        case rel => exact ⟨j + 1, _, s', l', by omega, rfl, by go_num, HT9, HF9⟩
        case measure => simp [intOf]; omega

      · have h6b : (o1 == 6) = false := beq_eq_false_iff_ne.2 h6
        by_cases h7 : o1 = 7
        · subst h7
          clear h6 h6b
          go_wp2_with fail
          refine (tClone HA.out Hlen.out).mono ?_
          rintro e w7 ⟨q, rfl, hC⟩
          have Hst := Lib.hid (stirNew hC HFj.out.good HB5.out); clear hC
          go_wp2_with fail
          refine Hst.out.mono ?_
          rintro e w8 ⟨rfl, hT8⟩
          obtain ⟨d0, d1, d2, d3, df⟩ := four (hT8.box (List.mem_cons_self ..))
          have HT8 := Lib.hid hT8; clear hT8 Hst
          go_wp2_with fail
          refine (step26 HT8.out HFj.out Hroom.out _ _ _ _).mono ?_
          rintro e w9 ⟨rfl, s', l', hT9, hF9⟩
          have HT9 := Lib.hid hT9.drop; have HF9 := Lib.hid (hF9.mono (show 10001 * j + 10001 ≤ 10001 * (j + 1) by omega)); clear hT9 hF9
          go_wp2
          go_roundw
          case rel => exact ⟨j + 1, _, s', l', by omega, rfl, by go_num, HT9, HF9⟩
          case measure => simp [intOf]; omega

        · have h7b : (o1 == 7) = false := beq_eq_false_iff_ne.2 h7
          clear h6 h7
          go_wp2_with fail
          refine (step26 HA.out HFj.out Hroom.out _ _ _ _).mono ?_
          rintro e w9 ⟨rfl, s', l', hT9, hF9⟩
          have HT9 := Lib.hid hT9.drop; have HF9 := Lib.hid (hF9.mono (show 10001 * j + 10001 ≤ 10001 * (j + 1) by omega)); clear hT9 hF9
          go_wp2
          go_roundw
          case rel => exact ⟨j + 1, _, s', l', by omega, rfl, by go_num, HT9, HF9⟩
          case measure => simp [intOf]; omega

    · have hd : decide ((j : Int) < (ops.length : Int)) = false := decide_eq_false (by omega)
      have hd2 : decide (j < ops.length) = false := decide_eq_false hlt
      have hB : 10001 * j ≤ room := by unfold room; have := Hn.out; omega
      clear hlt hj
      have h2 := HTj.out.still ((World.Fr.refl wr []).drew)
      have hall := fAll h2 HFj.out hB
      have hrall := fun w' (ht : TwoAt w [] p' r (a, b) [] w' s.asked l) => fRAll ht HFj.out
      have hlen := fun w' (ht : TwoAt w [] p' r (a, b) [] w' s.asked l) => fLen ht HFj.out.asked
      generalize rallT l (a, b) = v at *
      have Hall := Lib.hid hall; have Hrall := Lib.hid hrall; have Hlen := Lib.hid hlen; clear hall hrall hlen HFj hB h2 HTj
      go_wp2
      go_region_with (first | (go_at_call 10; refine Hall.out.mono ?_; rintro e w2 ⟨rfl, hT⟩) | (go_at_call 27; refine (Hrall.out _ (by assumption)).mono ?_; rintro e w3 ⟨rfl, hT3⟩; obtain ⟨ra, rc, hr⟩ := hT3.refCells; obtain ⟨k0, k1, k2, kf⟩ := three hr; have Hr := Lib.hid hr; clear hr) | (go_at_call 28; refine (Hlen.out _ (by assumption)).mono ?_; rintro e w4 ⟨rfl, hT4⟩; obtain ⟨ra, rc, hr⟩ := hT4.refCells; obtain ⟨m0, m1, m2, mf⟩ := three hr; have Hr2 := Lib.hid hr; clear hr))
      all_goals
        have Hf := Lib.hid hT4.base
        clear hT4
        go_wp2
        go_ret
        exact ⟨rfl, Hf.out⟩
end Go.Proofs.Ytikodccbecmjiaa
