/-
  The walk of WindowCounts.
-/
import Derived.Test.YtikodccbecmjiaaCounts2
namespace Go.Proofs.Ytikodccbecmjiaa
open Go.RowKit Go.Win

set_option maxHeartbeats 4000000 in
theorem counts5 (v : Value) (ops : List O) (w : World) (hS : Script w v ops) (hn : ops.length ≤ 8000000000000) :
    Calls Try.prog 5 #[v] w fun e w' => e = .returned (.bool true) ∧ w.Fr w' [] := by
  obtain ⟨va, vc, rfl⟩ := hS.shape
  have HS := Lib.hid hS; have Hn := Lib.hid hn; clear hS hn
  go_enter Try.func5, Try.ntmps5
  go_wp2_with fail
  refine (live11 _).mono ?_
  rintro e w1 ⟨rfl, hf1⟩
  have Hf1 := Lib.hid hf1; clear hf1
  go_upto_region 5 with (fail)
  generalize hW : World.alloc (World.alloc (World.alloc w1 _) _) _ = W
  have q1 : W.heap[w1.heap.size]? = some (.cells #[.int .i64 (0 : Nat)] 3 (0, 0)) := by rw [← hW]; exact heap_alloc_some (heap_alloc_some (heap_alloc_at _ _ _ (by simp)) _) _
  have q2 : W.heap[w1.heap.size + 1]? = some (.cells #[.bool false] 4 (0, 0)) := by rw [← hW]; exact heap_alloc_some (heap_alloc_at _ _ _ (by simp)) _
  have q3 : W.heap[w1.heap.size + 1 + 1]? = some (.cells #[.int .u64 3, .int .u64 9223372036854775808] 26 (0, 0)) := by rw [← hW]; exact heap_alloc_at _ _ _ (by simp)
  have q4 : w.Fr W [] := by rw [← hW]; exact ((Hf1.out.alloc _).alloc _).alloc _
  clear hW
  obtain ⟨a3, b3, g3⟩ := two q3
  have hC := okC19 (c1 := w1.heap.size) (c2 := w1.heap.size + 1) (c3 := w1.heap.size + 1 + 1) (by omega) (by omega) (by omega)
  have hnew := new7 hC (3, 9223372036854775808) W ⟨q1, q2, q3⟩
  have hsz := Hf1.out.size
  generalize w1.heap.size = c1 at *
  have hd : c1 ≠ c1 + 1 ∧ c1 ≠ c1 + 1 + 1 ∧ c1 + 1 ≠ c1 + 1 + 1 := by omega
  have hge : w.heap.size ≤ c1 ∧ w.heap.size ≤ c1 + 1 ∧ w.heap.size ≤ c1 + 1 + 1 := by omega
  generalize c1 + 1 + 1 = c3 at *
  generalize c1 + 1 = c2 at *
  have Q4 := Lib.hid q4; have Hnew := Lib.hid hnew; have HC := Lib.hid hC; have Hd := Lib.hid hd; have Hge := Lib.hid hge; clear q1 q2 q3 q4 hC hnew hd hge hsz Hf1
  go_wp2_with fail
  refine Hnew.out.mono ?_
  rintro e w2 ⟨p, rfl, hw2, hf2, hp2⟩
  have hC0 : CAt w c1 c2 c3 p [] w2 { nothing := (3, 9223372036854775808), ahead := [], behind := [], sum := (0, 0), calls := 0 } := by
    refine ⟨[p], Hd.out, hw2, Q4.out.trans hf2 (by simp), fun k hk => ?_, by simp⟩
    have := Hge.out; have := Q4.out.size
    simp at hk
    rcases hk with rfl | rfl | rfl | rfl <;> omega
  have hG0 : Good okC 0 ({ nothing := (3, 9223372036854775808), ahead := [], behind := [], sum := (0, 0), calls := 0 } : WSt T) := ⟨by simp [WSt.len], by simp [pot], by simp, by simp, by simp⟩
  have HC0 := Lib.hid hC0; have HG0 := Lib.hid hG0; clear hC0 hG0 hf2 hw2 hp2 a3 b3 g3 HC Hd Hge Q4 Hnew
  go_wp2_with fail
  go_loopw [24, 8, 9] (fun i pu aq wr => ∃ (j P A : Nat) (s : WSt T), j ≤ ops.length ∧ P + A ≤ 5000 * j ∧ i = .int .i64 j ∧ pu = .int .i64 P ∧ aq = .int .i64 A ∧ Hid (CAt w c1 c2 c3 p [] wr s) ∧ Hid (Good okC (2 * P + A) s)) (fun i _ _ _ => (ops.length - intOf i).toNat)
  case atStart => exact ⟨0, 0, 0, _, Nat.zero_le _, by omega, rfl, rfl, rfl, HC0, HG0⟩
  case round =>
    obtain ⟨j, P, A, s, hj, hPA, rfl, rfl, rfl, HTj, HGj⟩ := hrel
    by_cases hlt : j < ops.length
    · obtain ⟨⟨o1, o2, o3, o4⟩, ho⟩ : ∃ o, ops[j]? = some o := ⟨ops[j], List.getElem?_eq_getElem hlt⟩
      obtain ⟨g, off, c, hv, hg, k0, k1, k2, k3⟩ := (HS.out.fr HTj.out.base).cells j _ ho
      cases hv
      simp only at k0 k1 k2 k3
      have hltI : (j : Int) < (ops.length : Int) := by omega
      have hw1 : IntKind.i64.wrap ((j : Int) + 1) = (j : Int) + 1 := IntWalk.i64_in _ (by have := Hn.out; omega)
      have hgl1 : g < wr.heap.size + 1 := by omega
      have hA := HTj.out.alloc (.cells #[.int .i64 o1, .int .u64 o2, .int .u64 o3, .int .i64 o4] 38)
      obtain ⟨d0, d1, d2, d3, df⟩ := four (hA.box (List.mem_cons_self ..))
      have HDif : Hid (c1 ≠ c2 ∧ c1 ≠ c3 ∧ c2 ≠ c3) := by obtain ⟨L, hh⟩ := HTj.out; exact Lib.hid hh.dif
      have HA := Lib.hid hA; clear hA HTj
      obtain ⟨N4, hN4⟩ : ∃ N : Nat, max 0 (min o4 5000) = (N : Int) := ⟨(max 0 (min o4 5000)).toNat, by omega⟩
      have hN5 : N4 ≤ 5000 := by omega
      have hlim : ∀ w, Calls Try.prog 20 #[.int .i64 o4] w fun e w' => e = .returned (.int .i64 N4) ∧ w = w' := fun w => by have := limit20 o4 w; rw [hN4] at this; exact this
      have Hlim := Lib.hid hlim; clear hlim hN4
      by_cases h4 : o1 = 4
      · subst h4
        obtain ⟨N, hN⟩ : ∃ N : Nat, N = N4 := ⟨_, rfl⟩
        have HN : Hid (N ≤ 5000) := Lib.hid (by omega)
        subst hN
        clear hN5
        go_upto_region 15 with (fail)
        clear hgl1 hg
        generalize hwb : wr.heap.size = wb at *
        generalize hW : World.alloc wr _ = W at *
        clear hwb hW
        go_wp2_with fail
        refine (Hlim.out _).mono ?_
        rintro e wl ⟨rfl, rfl⟩
        clear d0 d1 d2 d3 df
        go_wp2_with fail
        go_loopw [13, 8, 9] (fun i pu aq wr => ∃ (k P' A' : Nat) (s : WSt T), k ≤ N ∧ P' + A' ≤ P + A + k ∧ i = .int .i64 k ∧ pu = .int .i64 P' ∧ aq = .int .i64 A' ∧ Hid (CAt w c1 c2 c3 p [(wb, .cells #[.int .i64 4, .int .u64 o2, .int .u64 o3, .int .i64 o4] 38)] wr s) ∧ Hid (Good okC (2 * P' + A') s)) (fun i _ _ _ => (N - intOf i).toNat)
        case atStart => exact ⟨0, P, A, s, Nat.zero_le _, by omega, rfl, rfl, rfl, HA, HGj⟩
        case round =>
          obtain ⟨k, P', A', s', hk, hPk, rfl, rfl, rfl, HTk, HGk⟩ := hrel
          obtain ⟨c0, c1', c2', c3', cf⟩ := four (HTk.out.box (List.mem_cons_self ..))
          by_cases hkN : k < N
          · have hltk : (k : Int) < (N : Int) := by omega
            have HR : Hid (2 * P' + A' + 2 ≤ room) := Lib.hid (by have := Hn.out; have := HN.out; unfold room; omega)
            have hcontract := cPush HTk.out HGk.out (by have := HR.out; omega) (1, o3.tmod 4611686018427387904) rfl
            have HTkb := Lib.hid hcontract; clear hcontract
            by_cases hfull : s'.len < 4096
            · have he : errP s' = 0 := if_pos hfull
              obtain ⟨P2, hP2⟩ : ∃ P2, P2 = P' + 1 := ⟨_, rfl⟩
              have hwP : IntKind.i64.wrap ((P' : Int) + 1) = (P2 : Int) := by rw [IntWalk.i64_in _ (by have := HR.out; unfold room at this; omega)]; omega
              have HP2 := Lib.hid hP2
              have HR2 : Hid (2 * P2 + A' + 2 ≤ room + 2) := Lib.hid (by have := HR.out; omega)
              have HGX : Hid (Good okC (2 * P2 + A') (pushR opC s' (1, o3.tmod 4611686018427387904))) := Lib.hid ((HGk.out.pushR (okC19 HDif.out.1 HDif.out.2.1 HDif.out.2.2).okf (x := (1, o3.tmod 4611686018427387904)) rfl).mono (by omega))
              rw [he] at HTkb
              clear he HGk hfull hP2
              generalize pushR opC s' (1, o3.tmod 4611686018427387904) = sx at *
              obtain ⟨A2, hA2⟩ : ∃ A2, A2 = A' := ⟨_, rfl⟩
              subst hA2
              go_wp2_with fail
              refine HTkb.out.mono ?_
              rintro e wx ⟨rfl, hx⟩
              have HX := Lib.hid hx; clear hx HTkb c0 c1' c2' c3' cf HTk
              have hcell := HX.out.calls
              have hcc : ∀ nq, Calls Try.prog 22 #[.pointer (some ⟨p,0,none⟩)] (wx.drewN nq) fun e w' => e = .returned (.int .i64 sx.calls) ∧ w' = wx.drewN nq := fun nq => (cCalls (HX.out.still ((World.Fr.refl wx []).of_drewN nq))).mono fun _ _ hh => ⟨hh.1, hh.2.symm⟩
              have hle : sx.calls ≤ 2 * P2 + A2 := by have := HGX.out.pot; unfold pot at this; omega
              have HXd := fun nq => Lib.hid (HX.out.still ((World.Fr.refl wx []).of_drewN nq))
              generalize sx.calls = cn at hcell hcc hle
              have hb1 : ((cn : Int) != (cn : Int)) = false := by simp
              have hb2 : decide (2 * (P2 : Int) + (A2 : Int) < (cn : Int)) = false := decide_eq_false (by omega)
              have hwa : IntKind.i64.wrap (2 * (P2 : Int)) = 2 * (P2 : Int) := IntWalk.i64_in _ (by have := HR2.out; unfold room at this; omega)
              have hwb : IntKind.i64.wrap (2 * (P2 : Int) + (A2 : Int)) = 2 * (P2 : Int) + (A2 : Int) := IntWalk.i64_in _ (by have := HR2.out; unfold room at this; omega)
              have hwk : IntKind.i64.wrap ((k : Int) + 1) = (k : Int) + 1 := IntWalk.i64_in _ (by have := HN.out; omega)
              have Hcc := Lib.hid hcc; clear hcc hle HX
              go_wp2_with fail
              go_quiet (first | (go_at_call 22; exact Calls.quiet_of_same (Hcc.out _)))
              go_wp2
              go_roundw
              case rel => exact ⟨k + 1, P2, A2, _, by omega, by have := HP2.out; omega, by go_num, rfl, rfl, HXd _, HGX⟩
              case measure => simp [intOf]; omega
            · have he : errP s' = 3 := if_neg hfull
              have e1 : pushR opC s' (1, o3.tmod 4611686018427387904) = s' := if_neg hfull
              have HR2 : Hid (2 * P' + A' + 2 ≤ room + 2) := Lib.hid (by have := HR.out; omega)
              rw [he, e1] at HTkb
              clear he e1 hfull
              obtain ⟨A2, hA2⟩ : ∃ A2, A2 = A' := ⟨_, rfl⟩
              obtain ⟨P2, hP2⟩ : ∃ P2, P2 = P' := ⟨_, rfl⟩
              obtain ⟨sx, hsx⟩ : ∃ sx, sx = s' := ⟨_, rfl⟩
              subst hA2 hP2 hsx
              have HGX := HGk; clear HGk
              go_wp2_with fail
              refine HTkb.out.mono ?_
              rintro e wx ⟨rfl, hx⟩
              have HX := Lib.hid hx; clear hx HTkb c0 c1' c2' c3' cf HTk
              have hcell := HX.out.calls
              have hcc : ∀ nq, Calls Try.prog 22 #[.pointer (some ⟨p,0,none⟩)] (wx.drewN nq) fun e w' => e = .returned (.int .i64 sx.calls) ∧ w' = wx.drewN nq := fun nq => (cCalls (HX.out.still ((World.Fr.refl wx []).of_drewN nq))).mono fun _ _ hh => ⟨hh.1, hh.2.symm⟩
              have hle : sx.calls ≤ 2 * P2 + A2 := by have := HGX.out.pot; unfold pot at this; omega
              have HXd := fun nq => Lib.hid (HX.out.still ((World.Fr.refl wx []).of_drewN nq))
              generalize sx.calls = cn at hcell hcc hle
              have hb1 : ((cn : Int) != (cn : Int)) = false := by simp
              have hb2 : decide (2 * (P2 : Int) + (A2 : Int) < (cn : Int)) = false := decide_eq_false (by omega)
              have hwa : IntKind.i64.wrap (2 * (P2 : Int)) = 2 * (P2 : Int) := IntWalk.i64_in _ (by have := HR2.out; unfold room at this; omega)
              have hwb : IntKind.i64.wrap (2 * (P2 : Int) + (A2 : Int)) = 2 * (P2 : Int) + (A2 : Int) := IntWalk.i64_in _ (by have := HR2.out; unfold room at this; omega)
              have hwk : IntKind.i64.wrap ((k : Int) + 1) = (k : Int) + 1 := IntWalk.i64_in _ (by have := HN.out; omega)
              have Hcc := Lib.hid hcc; clear hcc hle HX
              go_wp2_with fail
              go_quiet (first | (go_at_call 22; exact Calls.quiet_of_same (Hcc.out _)))
              go_wp2
              go_roundw
              case rel => exact ⟨k + 1, P2, A2, _, by omega, by omega, by go_num, rfl, rfl, HXd _, HGX⟩
              case measure => simp [intOf]; omega
          · have hd : decide ((k : Int) < (N : Int)) = false := decide_eq_false (by omega)
            have hd2 : decide (k < N) = false := decide_eq_false hkN
            have HTf := Lib.hid HTk.out.drop
            have hPf : P' + A' ≤ 5000 * (j + 1) := by have := HN.out; omega
            clear hkN c0 c1' c2' c3' cf HTk
            go_wp2
            go_roundw
            case rel => exact ⟨j + 1, P', A', s', by omega, hPf, by go_num, rfl, rfl, HTf, HGk⟩
            case measure => simp [intOf]; omega

      · have h4b : (o1 == 4) = false := beq_eq_false_iff_ne.2 h4
        by_cases h5 : o1 = 5
        · subst h5
          clear h4 h4b
          obtain ⟨N, hN⟩ : ∃ N : Nat, N = N4 := ⟨_, rfl⟩
          have HN : Hid (N ≤ 5000) := Lib.hid (by omega)
          subst hN
          clear hN5
          go_upto_region 15 with (fail)
          clear hgl1 hg
          generalize hwb : wr.heap.size = wb at *
          generalize hW : World.alloc wr _ = W at *
          clear hwb hW
          go_wp2_with fail
          refine (Hlim.out _).mono ?_
          rintro e wl ⟨rfl, rfl⟩
          clear d0 d1 d2 d3 df
          go_wp2_with fail
          go_loopw [13, 8, 9] (fun i pu aq wr => ∃ (k P' A' : Nat) (s : WSt T), k ≤ N ∧ P' + A' ≤ P + A + k ∧ i = .int .i64 k ∧ pu = .int .i64 P' ∧ aq = .int .i64 A' ∧ Hid (CAt w c1 c2 c3 p [(wb, .cells #[.int .i64 5, .int .u64 o2, .int .u64 o3, .int .i64 o4] 38)] wr s) ∧ Hid (Good okC (2 * P' + A') s)) (fun i _ _ _ => (N - intOf i).toNat)
          case atStart => exact ⟨0, P, A, s, Nat.zero_le _, by omega, rfl, rfl, rfl, HA, HGj⟩
          case round =>
            obtain ⟨k, P', A', s', hk, hPk, rfl, rfl, rfl, HTk, HGk⟩ := hrel
            obtain ⟨c0, c1', c2', c3', cf⟩ := four (HTk.out.box (List.mem_cons_self ..))
            by_cases hkN : k < N
            · have hltk : (k : Int) < (N : Int) := by omega
              have HR : Hid (2 * P' + A' + 2 ≤ room) := Lib.hid (by have := Hn.out; have := HN.out; unfold room; omega)
              have HTkb := Lib.hid (cPop HTk.out HGk.out (by have := HR.out; omega))
              have HGX : Hid (Good okC (2 * P' + A') (s'.turned opC).cut) := Lib.hid ((HGk.out.turned (okC19 HDif.out.1 HDif.out.2.1 HDif.out.2.2).okf).cut)
              have HR2 : Hid (2 * P' + A' + 2 ≤ room + 2) := Lib.hid (by have := HR.out; omega)
              clear HGk
              generalize popV (s'.turned opC) = vv at *
              generalize (s'.turned opC).cut = sx at *
              obtain ⟨A2, hA2⟩ : ∃ A2, A2 = A' := ⟨_, rfl⟩
              obtain ⟨P2, hP2⟩ : ∃ P2, P2 = P' := ⟨_, rfl⟩
              subst hA2 hP2
              go_wp2_with fail
              refine HTkb.out.mono ?_
              rintro e wx ⟨rfl, hx⟩
              have HX := Lib.hid hx; clear hx HTkb c0 c1' c2' c3' cf HTk
              have hcell := HX.out.calls
              have hcc : ∀ nq, Calls Try.prog 22 #[.pointer (some ⟨p,0,none⟩)] (wx.drewN nq) fun e w' => e = .returned (.int .i64 sx.calls) ∧ w' = wx.drewN nq := fun nq => (cCalls (HX.out.still ((World.Fr.refl wx []).of_drewN nq))).mono fun _ _ hh => ⟨hh.1, hh.2.symm⟩
              have hle : sx.calls ≤ 2 * P2 + A2 := by have := HGX.out.pot; unfold pot at this; omega
              have HXd := fun nq => Lib.hid (HX.out.still ((World.Fr.refl wx []).of_drewN nq))
              generalize sx.calls = cn at hcell hcc hle
              have hb1 : ((cn : Int) != (cn : Int)) = false := by simp
              have hb2 : decide (2 * (P2 : Int) + (A2 : Int) < (cn : Int)) = false := decide_eq_false (by omega)
              have hwa : IntKind.i64.wrap (2 * (P2 : Int)) = 2 * (P2 : Int) := IntWalk.i64_in _ (by have := HR2.out; unfold room at this; omega)
              have hwb : IntKind.i64.wrap (2 * (P2 : Int) + (A2 : Int)) = 2 * (P2 : Int) + (A2 : Int) := IntWalk.i64_in _ (by have := HR2.out; unfold room at this; omega)
              have hwk : IntKind.i64.wrap ((k : Int) + 1) = (k : Int) + 1 := IntWalk.i64_in _ (by have := HN.out; omega)
              have Hcc := Lib.hid hcc; clear hcc hle HX
              go_wp2_with fail
              go_quiet (first | (go_at_call 22; exact Calls.quiet_of_same (Hcc.out _)))
              go_wp2
              go_roundw
              case rel => exact ⟨k + 1, P2, A2, _, by omega, by omega, by go_num, rfl, rfl, HXd _, HGX⟩
              case measure => simp [intOf]; omega
            · have hd : decide ((k : Int) < (N : Int)) = false := decide_eq_false (by omega)
              have hd2 : decide (k < N) = false := decide_eq_false hkN
              have HTf := Lib.hid HTk.out.drop
              have hPf : P' + A' ≤ 5000 * (j + 1) := by have := HN.out; omega
              clear hkN c0 c1' c2' c3' cf HTk
              go_wp2
              go_roundw
              case rel => exact ⟨j + 1, P', A', s', by omega, hPf, by go_num, rfl, rfl, HTf, HGk⟩
              case measure => simp [intOf]; omega

        · have h5b : (o1 == 5) = false := beq_eq_false_iff_ne.2 h5
          clear h4 h5 hN5 Hlim
          go_upto_region 16 with (fail)
          clear hgl1 hg
          generalize hwb : wr.heap.size = wb at *
          generalize hW : World.alloc wr _ = W at *
          clear hwb hW d0 d1 d2 d3 df
          go_wp2_with fail
          go_loopw [13, 8, 9] (fun i pu aq wr => ∃ (k P' A' : Nat) (s : WSt T), k ≤ 1 ∧ P' + A' ≤ P + A + k ∧ i = .int .i64 k ∧ pu = .int .i64 P' ∧ aq = .int .i64 A' ∧ Hid (CAt w c1 c2 c3 p [(wb, .cells #[.int .i64 o1, .int .u64 o2, .int .u64 o3, .int .i64 o4] 38)] wr s) ∧ Hid (Good okC (2 * P' + A') s)) (fun i _ _ _ => (1 - intOf i).toNat)
          case atStart => exact ⟨0, P, A, s, Nat.zero_le _, by omega, rfl, rfl, rfl, HA, HGj⟩
          case round =>
            obtain ⟨k, P', A', s', hk, hPk, rfl, rfl, rfl, HTk, HGk⟩ := hrel
            obtain ⟨c0, c1', c2', c3', cf⟩ := four (HTk.out.box (List.mem_cons_self ..))
            by_cases hkN : k < 1
            · have hltk : (k : Int) < (1 : Int) := by omega
              have HR : Hid (2 * P' + A' + 2 ≤ room) := Lib.hid (by have := Hn.out; unfold room; omega)
              by_cases h1 : o1 = 1
              · subst h1
                have hcontract := cPush HTk.out HGk.out (by have := HR.out; omega) (1, o3.tmod 4611686018427387904) rfl
                have HTkb := Lib.hid hcontract; clear hcontract
                by_cases hfull : s'.len < 4096
                · have he : errP s' = 0 := if_pos hfull
                  obtain ⟨P2, hP2⟩ : ∃ P2, P2 = P' + 1 := ⟨_, rfl⟩
                  have hwP : IntKind.i64.wrap ((P' : Int) + 1) = (P2 : Int) := by rw [IntWalk.i64_in _ (by have := HR.out; unfold room at this; omega)]; omega
                  have HP2 := Lib.hid hP2
                  have HR2 : Hid (2 * P2 + A' + 2 ≤ room + 2) := Lib.hid (by have := HR.out; omega)
                  have HGX : Hid (Good okC (2 * P2 + A') (pushR opC s' (1, o3.tmod 4611686018427387904))) := Lib.hid ((HGk.out.pushR (okC19 HDif.out.1 HDif.out.2.1 HDif.out.2.2).okf (x := (1, o3.tmod 4611686018427387904)) rfl).mono (by omega))
                  rw [he] at HTkb
                  clear he HGk hfull hP2
                  generalize pushR opC s' (1, o3.tmod 4611686018427387904) = sx at *
                  obtain ⟨A2, hA2⟩ : ∃ A2, A2 = A' := ⟨_, rfl⟩
                  subst hA2
                  go_wp2_with fail
                  refine HTkb.out.mono ?_
                  rintro e wx ⟨rfl, hx⟩
                  have HX := Lib.hid hx; clear hx HTkb c0 c1' c2' c3' cf HTk
                  have hcell := HX.out.calls
                  have hcc : ∀ nq, Calls Try.prog 22 #[.pointer (some ⟨p,0,none⟩)] (wx.drewN nq) fun e w' => e = .returned (.int .i64 sx.calls) ∧ w' = wx.drewN nq := fun nq => (cCalls (HX.out.still ((World.Fr.refl wx []).of_drewN nq))).mono fun _ _ hh => ⟨hh.1, hh.2.symm⟩
                  have hle : sx.calls ≤ 2 * P2 + A2 := by have := HGX.out.pot; unfold pot at this; omega
                  have HXd := fun nq => Lib.hid (HX.out.still ((World.Fr.refl wx []).of_drewN nq))
                  generalize sx.calls = cn at hcell hcc hle
                  have hb1 : ((cn : Int) != (cn : Int)) = false := by simp
                  have hb2 : decide (2 * (P2 : Int) + (A2 : Int) < (cn : Int)) = false := decide_eq_false (by omega)
                  have hwa : IntKind.i64.wrap (2 * (P2 : Int)) = 2 * (P2 : Int) := IntWalk.i64_in _ (by have := HR2.out; unfold room at this; omega)
                  have hwb : IntKind.i64.wrap (2 * (P2 : Int) + (A2 : Int)) = 2 * (P2 : Int) + (A2 : Int) := IntWalk.i64_in _ (by have := HR2.out; unfold room at this; omega)
                  have hwk : IntKind.i64.wrap ((k : Int) + 1) = (k : Int) + 1 := IntWalk.i64_in _ (by omega)
                  have Hcc := Lib.hid hcc; clear hcc hle HX
                  go_wp2_with fail
                  go_quiet (first | (go_at_call 22; exact Calls.quiet_of_same (Hcc.out _)))
                  go_wp2
                  go_roundw
                  case rel => exact ⟨k + 1, P2, A2, _, by omega, by have := HP2.out; omega, by go_num, rfl, rfl, HXd _, HGX⟩
                  case measure => simp [intOf]; omega
                · have he : errP s' = 3 := if_neg hfull
                  have e1 : pushR opC s' (1, o3.tmod 4611686018427387904) = s' := if_neg hfull
                  have HR2 : Hid (2 * P' + A' + 2 ≤ room + 2) := Lib.hid (by have := HR.out; omega)
                  rw [he, e1] at HTkb
                  clear he e1 hfull
                  obtain ⟨A2, hA2⟩ : ∃ A2, A2 = A' := ⟨_, rfl⟩
                  obtain ⟨P2, hP2⟩ : ∃ P2, P2 = P' := ⟨_, rfl⟩
                  obtain ⟨sx, hsx⟩ : ∃ sx, sx = s' := ⟨_, rfl⟩
                  subst hA2 hP2 hsx
                  have HGX := HGk; clear HGk
                  go_wp2_with fail
                  refine HTkb.out.mono ?_
                  rintro e wx ⟨rfl, hx⟩
                  have HX := Lib.hid hx; clear hx HTkb c0 c1' c2' c3' cf HTk
                  have hcell := HX.out.calls
                  have hcc : ∀ nq, Calls Try.prog 22 #[.pointer (some ⟨p,0,none⟩)] (wx.drewN nq) fun e w' => e = .returned (.int .i64 sx.calls) ∧ w' = wx.drewN nq := fun nq => (cCalls (HX.out.still ((World.Fr.refl wx []).of_drewN nq))).mono fun _ _ hh => ⟨hh.1, hh.2.symm⟩
                  have hle : sx.calls ≤ 2 * P2 + A2 := by have := HGX.out.pot; unfold pot at this; omega
                  have HXd := fun nq => Lib.hid (HX.out.still ((World.Fr.refl wx []).of_drewN nq))
                  generalize sx.calls = cn at hcell hcc hle
                  have hb1 : ((cn : Int) != (cn : Int)) = false := by simp
                  have hb2 : decide (2 * (P2 : Int) + (A2 : Int) < (cn : Int)) = false := decide_eq_false (by omega)
                  have hwa : IntKind.i64.wrap (2 * (P2 : Int)) = 2 * (P2 : Int) := IntWalk.i64_in _ (by have := HR2.out; unfold room at this; omega)
                  have hwb : IntKind.i64.wrap (2 * (P2 : Int) + (A2 : Int)) = 2 * (P2 : Int) + (A2 : Int) := IntWalk.i64_in _ (by have := HR2.out; unfold room at this; omega)
                  have hwk : IntKind.i64.wrap ((k : Int) + 1) = (k : Int) + 1 := IntWalk.i64_in _ (by omega)
                  have Hcc := Lib.hid hcc; clear hcc hle HX
                  go_wp2_with fail
                  go_quiet (first | (go_at_call 22; exact Calls.quiet_of_same (Hcc.out _)))
                  go_wp2
                  go_roundw
                  case rel => exact ⟨k + 1, P2, A2, _, by omega, by omega, by go_num, rfl, rfl, HXd _, HGX⟩
                  case measure => simp [intOf]; omega
              · have h1b : (o1 == 1) = false := beq_eq_false_iff_ne.2 h1
                by_cases h2 : o1 = 2
                · subst h2
                  clear h1 h1b
                  have HTkb := Lib.hid (cPop HTk.out HGk.out (by have := HR.out; omega))
                  have HGX : Hid (Good okC (2 * P' + A') (s'.turned opC).cut) := Lib.hid ((HGk.out.turned (okC19 HDif.out.1 HDif.out.2.1 HDif.out.2.2).okf).cut)
                  have HR2 : Hid (2 * P' + A' + 2 ≤ room + 2) := Lib.hid (by have := HR.out; omega)
                  clear HGk
                  generalize popV (s'.turned opC) = vv at *
                  generalize (s'.turned opC).cut = sx at *
                  obtain ⟨A2, hA2⟩ : ∃ A2, A2 = A' := ⟨_, rfl⟩
                  obtain ⟨P2, hP2⟩ : ∃ P2, P2 = P' := ⟨_, rfl⟩
                  subst hA2 hP2
                  go_wp2_with fail
                  refine HTkb.out.mono ?_
                  rintro e wx ⟨rfl, hx⟩
                  have HX := Lib.hid hx; clear hx HTkb c0 c1' c2' c3' cf HTk
                  have hcell := HX.out.calls
                  have hcc : ∀ nq, Calls Try.prog 22 #[.pointer (some ⟨p,0,none⟩)] (wx.drewN nq) fun e w' => e = .returned (.int .i64 sx.calls) ∧ w' = wx.drewN nq := fun nq => (cCalls (HX.out.still ((World.Fr.refl wx []).of_drewN nq))).mono fun _ _ hh => ⟨hh.1, hh.2.symm⟩
                  have hle : sx.calls ≤ 2 * P2 + A2 := by have := HGX.out.pot; unfold pot at this; omega
                  have HXd := fun nq => Lib.hid (HX.out.still ((World.Fr.refl wx []).of_drewN nq))
                  generalize sx.calls = cn at hcell hcc hle
                  have hb1 : ((cn : Int) != (cn : Int)) = false := by simp
                  have hb2 : decide (2 * (P2 : Int) + (A2 : Int) < (cn : Int)) = false := decide_eq_false (by omega)
                  have hwa : IntKind.i64.wrap (2 * (P2 : Int)) = 2 * (P2 : Int) := IntWalk.i64_in _ (by have := HR2.out; unfold room at this; omega)
                  have hwb : IntKind.i64.wrap (2 * (P2 : Int) + (A2 : Int)) = 2 * (P2 : Int) + (A2 : Int) := IntWalk.i64_in _ (by have := HR2.out; unfold room at this; omega)
                  have hwk : IntKind.i64.wrap ((k : Int) + 1) = (k : Int) + 1 := IntWalk.i64_in _ (by omega)
                  have Hcc := Lib.hid hcc; clear hcc hle HX
                  go_wp2_with fail
                  go_quiet (first | (go_at_call 22; exact Calls.quiet_of_same (Hcc.out _)))
                  go_wp2
                  go_roundw
                  case rel => exact ⟨k + 1, P2, A2, _, by omega, by omega, by go_num, rfl, rfl, HXd _, HGX⟩
                  case measure => simp [intOf]; omega
                · have h2b : (o1 == 2) = false := beq_eq_false_iff_ne.2 h2
                  by_cases h3 : o1 = 3
                  · subst h3
                    clear h1 h1b h2 h2b
                    have HTkb := Lib.hid (cAll HTk.out HGk.out (by have := HR.out; omega))
                    obtain ⟨A2, hA2⟩ : ∃ A2, A2 = A' + 1 := ⟨_, rfl⟩
                    have hwA : IntKind.i64.wrap ((A' : Int) + 1) = (A2 : Int) := by rw [IntWalk.i64_in _ (by have := HR.out; unfold room at this; omega)]; omega
                    have HP2 := Lib.hid hA2
                    have HGX : Hid (Good okC (2 * P' + A2) s'.asked) := Lib.hid (HGk.out.asked.mono (by omega))
                    have HR2 : Hid (2 * P' + A2 + 2 ≤ room + 2) := Lib.hid (by have := HR.out; omega)
                    clear HGk hA2
                    generalize s'.all opC = vv at *
                    generalize s'.asked = sx at *
                    obtain ⟨P2, hP2⟩ : ∃ P2, P2 = P' := ⟨_, rfl⟩
                    subst hP2
                    go_wp2_with fail
                    refine HTkb.out.mono ?_
                    rintro e wx ⟨rfl, hx⟩
                    have HX := Lib.hid hx; clear hx HTkb c0 c1' c2' c3' cf HTk
                    have hcell := HX.out.calls
                    have hcc : ∀ nq, Calls Try.prog 22 #[.pointer (some ⟨p,0,none⟩)] (wx.drewN nq) fun e w' => e = .returned (.int .i64 sx.calls) ∧ w' = wx.drewN nq := fun nq => (cCalls (HX.out.still ((World.Fr.refl wx []).of_drewN nq))).mono fun _ _ hh => ⟨hh.1, hh.2.symm⟩
                    have hle : sx.calls ≤ 2 * P2 + A2 := by have := HGX.out.pot; unfold pot at this; omega
                    have HXd := fun nq => Lib.hid (HX.out.still ((World.Fr.refl wx []).of_drewN nq))
                    generalize sx.calls = cn at hcell hcc hle
                    have hb1 : ((cn : Int) != (cn : Int)) = false := by simp
                    have hb2 : decide (2 * (P2 : Int) + (A2 : Int) < (cn : Int)) = false := decide_eq_false (by omega)
                    have hwa : IntKind.i64.wrap (2 * (P2 : Int)) = 2 * (P2 : Int) := IntWalk.i64_in _ (by have := HR2.out; unfold room at this; omega)
                    have hwb : IntKind.i64.wrap (2 * (P2 : Int) + (A2 : Int)) = 2 * (P2 : Int) + (A2 : Int) := IntWalk.i64_in _ (by have := HR2.out; unfold room at this; omega)
                    have hwk : IntKind.i64.wrap ((k : Int) + 1) = (k : Int) + 1 := IntWalk.i64_in _ (by omega)
                    have Hcc := Lib.hid hcc; clear hcc hle HX
                    go_wp2_with fail
                    go_quiet (first | (go_at_call 22; exact Calls.quiet_of_same (Hcc.out _)))
                    go_wp2
                    go_roundw
                    case rel => exact ⟨k + 1, P2, A2, _, by omega, by have := HP2.out; omega, by go_num, rfl, rfl, HXd _, HGX⟩
                    case measure => simp [intOf]; omega
                  · have h3b : (o1 == 3) = false := beq_eq_false_iff_ne.2 h3
                    clear h1 h2 h3
                    obtain ⟨A2, hA2⟩ : ∃ A2, A2 = A' := ⟨_, rfl⟩
                    obtain ⟨P2, hP2⟩ : ∃ P2, P2 = P' := ⟨_, rfl⟩
                    obtain ⟨sx, hsx⟩ : ∃ sx, sx = s' := ⟨_, rfl⟩
                    obtain ⟨wx, hwx⟩ : ∃ wx, wx = wr := ⟨_, rfl⟩
                    have HR2 : Hid (2 * P' + A' + 2 ≤ room + 2) := Lib.hid (by have := HR.out; omega)
                    subst hA2 hP2 hsx hwx
                    have HGX := HGk; have HX := HTk; clear HGk
                    have hcell := HX.out.calls
                    have hcc : ∀ nq, Calls Try.prog 22 #[.pointer (some ⟨p,0,none⟩)] (wx.drewN nq) fun e w' => e = .returned (.int .i64 sx.calls) ∧ w' = wx.drewN nq := fun nq => (cCalls (HX.out.still ((World.Fr.refl wx []).of_drewN nq))).mono fun _ _ hh => ⟨hh.1, hh.2.symm⟩
                    have hle : sx.calls ≤ 2 * P2 + A2 := by have := HGX.out.pot; unfold pot at this; omega
                    have HXd := fun nq => Lib.hid (HX.out.still ((World.Fr.refl wx []).of_drewN nq))
                    generalize sx.calls = cn at hcell hcc hle
                    have hb1 : ((cn : Int) != (cn : Int)) = false := by simp
                    have hb2 : decide (2 * (P2 : Int) + (A2 : Int) < (cn : Int)) = false := decide_eq_false (by omega)
                    have hwa : IntKind.i64.wrap (2 * (P2 : Int)) = 2 * (P2 : Int) := IntWalk.i64_in _ (by have := HR2.out; unfold room at this; omega)
                    have hwb : IntKind.i64.wrap (2 * (P2 : Int) + (A2 : Int)) = 2 * (P2 : Int) + (A2 : Int) := IntWalk.i64_in _ (by have := HR2.out; unfold room at this; omega)
                    have hwk : IntKind.i64.wrap ((k : Int) + 1) = (k : Int) + 1 := IntWalk.i64_in _ (by omega)
                    have Hcc := Lib.hid hcc; clear hcc hle HX
                    go_wp2_with fail
                    go_quiet (first | (go_at_call 22; exact Calls.quiet_of_same (Hcc.out _)))
                    go_wp2
                    go_roundw
                    case rel => exact ⟨k + 1, P2, A2, _, by omega, by omega, by go_num, rfl, rfl, HXd _, HGX⟩
                    case measure => simp [intOf]; omega
            · have hd : decide ((k : Int) < (1 : Int)) = false := decide_eq_false (by omega)
              have hd2 : decide (k < 1) = false := decide_eq_false hkN
              have HTf := Lib.hid HTk.out.drop
              have hPf : P' + A' ≤ 5000 * (j + 1) := by omega
              clear hkN c0 c1' c2' c3' cf HTk
              go_wp2
              go_roundw
              case rel => exact ⟨j + 1, P', A', s', by omega, hPf, by go_num, rfl, rfl, HTf, HGk⟩
              case measure => simp [intOf]; omega

    · have hd : decide ((j : Int) < (ops.length : Int)) = false := decide_eq_false (by omega)
      have hd2 : decide (j < ops.length) = false := decide_eq_false hlt
      have hstr := HTj.out.strange
      have HTf := Lib.hid HTj.out.base
      clear hlt HTj HGj
      go_wp2
      go_ret
      exact ⟨rfl, HTf.out⟩
end Go.Proofs.Ytikodccbecmjiaa
