/-
  The walk of WindowAnew.
-/
import Derived.Test.YtikodccbecmjiaaAnew
import Derived.Laws.EntriesVeiled
import Derived.Laws.BytesArg
namespace Go.Proofs.Ytikodccbecmjiaa
open Go.RowKit Go.Win

abbrev none0 : BA := ⟨#[110, 111, 110, 101]⟩
set_option maxRecDepth 100000 in
set_option maxHeartbeats 4000000 in
theorem anew4 (v : Value) (ops : List O) (w : World) (hS : Script w v ops) (hn : ops.length ≤ 8000000000000) (hcap : ∀ a n c, v = .slice a n c → n ≤ c) :
    Calls Try.prog 4 #[v] w fun e w' => e = .returned (.bool true) ∧ w.Fr w' [] := by
  obtain ⟨va, vc, rfl⟩ := hS.shape
  have hvc := hcap _ _ _ rfl; clear hcap
  have HS := Lib.hid hS; have Hn := Lib.hid hn; clear hS hn
  go_enter Try.func4, Try.ntmps4
  go_wp2_with fail
  refine (live11 _).mono ?_
  rintro e w1 ⟨rfl, hf1⟩
  have Hf1 := Lib.hid hf1; clear hf1
  go_wp2_with fail
  refine (new12 (F := 13) _ _).mono ?_
  rintro e w2 ⟨p, rfl, hw2, hf2, hp2⟩
  have hA0 : ANt w p (.slice none 0 0) [] w2 { nothing := none0, ahead := [], behind := [], sum := ⟨#[]⟩, calls := 0 } [] := by
    refine ⟨[p], hw2, World.Sl.nil _ _ _, Hf1.out.trans hf2 (by simp), fun k hk => ?_, fun k _ => by simp [Value.blk], by simp⟩
    have := Hf1.out.size
    simp [Value.blk] at hk
    subst hk
    omega
  have HA0 := Lib.hid hA0; clear hA0 hw2 hf2 hp2 Hf1
  have hF0 := Lib.hid (SFit.new none0)
  go_upto_if 23 with (fail)
  go_cut [0] from 24 (fun s0 wc => ∃ l', Script w s0 l' ∧ l'.length ≤ 200 ∧ wc = w2)
  case first =>
    by_cases hlen : 200 < ops.length
    · obtain ⟨g, off, c, hv, hg, hrest⟩ := HS.out.cells 0 ops[0] (List.getElem?_eq_getElem (by omega))
      cases hv
      have hd : (200 : Int) < (ops.length : Int) := by omega
      have hc1 : (200 : Int) ≤ (vc : Int) := by omega
      have HT := Lib.hid (HS.out.take 200 (by omega))
      clear hrest; have Hlen := Lib.hid hlen; have Hvc := Lib.hid hvc; clear hlen hvc
      go_wp2_with fail
      go_meet
      case rel => exact ⟨ops.take 200, by simpa [show min 200 ops.length = 200 by have := Hlen.out; omega] using HT.out, by simp; omega, rfl⟩
    · have hd : ¬ (200 : Int) < (ops.length : Int) := by omega
      have HT : Hid (ops.length ≤ 200) := Lib.hid (by omega)
      clear hvc hlen
      go_wp2_with fail
      go_meet
      case rel => exact ⟨ops, HS.out, HT.out, rfl⟩
  case rest =>
    obtain ⟨l', hS', hl', rfl⟩ := hcut
    obtain ⟨a, c, rfl⟩ := hS'.shape
    have HS1 := Lib.hid hS'; have Hl := Lib.hid hl'; clear hS' HS Hn hvc hl'
    go_wp2_with fail
    go_loopw [28, 5] (fun i t wr => ∃ (j : Nat) (s : WSt BA) (l : List BA), j ≤ l'.length ∧ i = .int .i64 j ∧ Hid (ANt w p t [] wr s l) ∧ Hid (SFit none0 j (10 * j) s l)) (fun i _ _ => (l'.length - intOf i).toNat)
    case atStart => exact ⟨0, _, _, Nat.zero_le _, rfl, HA0, hF0⟩
    case round =>
      obtain ⟨j, s, l, hj, rfl, HAj, HFj⟩ := hrel
      by_cases hlt : j < l'.length
      · obtain ⟨ta, tc, rfl, htc, _⟩ := HAj.out.list.shape
        obtain ⟨⟨o1, o2, o3, o4⟩, ho⟩ : ∃ o, l'[j]? = some o := ⟨l'[j], List.getElem?_eq_getElem hlt⟩
        obtain ⟨g, off, c, hv, hg, k0, k1, k2, k3⟩ := (HS1.out.fr HAj.out.base).cells j _ ho
        cases hv
        simp only at k0 k1 k2 k3
        have hltI : (j : Int) < (l'.length : Int) := by omega
        have hw1 : IntKind.i64.wrap ((j : Int) + 1) = (j : Int) + 1 := IntWalk.i64_in _ (by have := Hl.out; omega)
        have hgl1 : g < wr.heap.size + 1 := by omega
        have hA := HAj.out.alloc (.cells #[.int .i64 o1, .int .u64 o2, .int .u64 o3, .int .i64 o4] 38)
        obtain ⟨d0, d1, d2, d3, df⟩ := four (hA.boxed (List.mem_cons_self ..))
        have HA := Lib.hid hA; clear hA HAj
        go_upto_region 11 with (fail)
        clear hgl1 hg
        generalize hwb : wr.heap.size = wb at *
        generalize hW : World.alloc wr _ = W at *
        clear hwb hW
        have hwl : wb < W.heap.size := lt_of_heap (HA.out.boxed (List.mem_cons_self ..))
        have hwl1 : wb < W.heap.size + 1 := by omega
        have hconv : ∀ z, Sem.run Try.prog (convert 39 9 (.slice (some ⟨W.heap.size, 0, none⟩) 1 1)) (W.alloc (.cells #[.int .u8 z] 5)) = .ok (.string (strOfNums [z])) (W.alloc (.cells #[.int .u8 z] 5)) := fun z =>
          run_convert_bytes_arg _ 39 5 Try.underlying39 Try.underlying5 W.heap.size 0 1 1 [z] rfl (fun i hi => by
            obtain rfl : i = 0 := by omega
            have := (one1 (heap_alloc_at W (.cells #[.int .u8 z] 5) _ rfl)).1
            simp [this]) 9 Try.underlying9
        have hx1 : ∀ z, (strOfNums [z]).size = 1 := fun z => rfl
        go_upto_region 12 with (fail)
        clear hconv
        have HA1 := Lib.hid (HA.out.still ((World.Fr.refl W []).alloc (.cells #[.int .u8 (IntKind.u64.wrap (97 + o2.tmod 26) % 256)] 5)))
        have Hx := Lib.hid (hx1 (IntKind.u64.wrap (97 + o2.tmod 26) % 256))
        generalize strOfNums [IntKind.u64.wrap (97 + o2.tmod 26) % 256] = x at *
        clear hx1 hwl HA d0 d1 d2 d3 df
        generalize hW : World.alloc W _ = W1 at *
        clear hW hwl1
        obtain ⟨d0, d1, d2, d3, df⟩ := four (HA1.out.boxed (List.mem_cons_self ..))
        have hwl := lt_of_heap (HA1.out.boxed (List.mem_cons_self ..))
        by_cases h1 : o1 = 1
        · subst h1
          have hc := Lib.hid (aPush HA1.out HFj.out (by have := Hl.out; omega) (by have := Hl.out; omega) x Hx.out)
          go_wp2_with fail
          refine hc.out.mono ?_
          rintro e w5 ⟨rfl, hA5⟩
          have HF5 : Hid (SFit none0 (j + 1) (10 * j + 4) (s.push cat x) (l ++ [x])) := Lib.hid ((HFj.out.push Hx.out).mono (by omega) (by omega))
          have HA5 := Lib.hid hA5; clear hA5 hc d0 d1 d2 d3 df HA1
          have hn : l.length < 1000 := by have := HFj.out.len; have := Hl.out; omega
          obtain ⟨i0, hi, hz0, hz1, hz2⟩ := info_parts infoS
          generalize s.push cat x = s5 at *
          go_wp2_with (at_builtin; refine wpList_append_one _ rfl (.tmp 48) (.tmp 50) 36 rfl 9 i0 (.string .empty) 1 16 Try.underlying36 hi hz0 hz1 hz2 rfl (.slice ta l.length tc) l.length (l.flatMap strK.enc) rfl ?qhb w5.heap.size 1 [.string x] 9 rfl ?qB rfl rfl ⟨?qc1, ?qc2⟩ ?_)
          case qhb => exact (HA5.out.list).alloc _
          case qB => exact heap_alloc_at _ _ _ (by simp)
          case qc1 => omega
          case qc2 => omega
          intro g2 off2 c6 w6 hsl hfr hat hlt6
          have HA6 := Lib.hid ((HA5.out.still ((World.Fr.refl w5 []).alloc (.cells #[.string x] 9))).appended hsl hfr (by simpa using hat))
          have hlen6 : l.length + 1 = (l ++ [x]).length := by simp
          rw [hlen6] at HA6 ⊢
          clear hsl hfr hat HA5 hlen6 hn HFj htc
          generalize l ++ [x] = l6 at *
          generalize (some (⟨g2, off2, none⟩ : Addr)) = t6 at *
          have hl6 : l6.length ≤ 201 := by have := HF5.out.len; have := Hl.out; omega
          go_wp2_with fail
          refine (new12 (F := 16) _ _).mono ?_
          rintro e w7 ⟨q, rfl, hw7, hf7, hq7⟩
          have HT0 := Lib.hid (HA6.out.two hw7 hf7 hq7); clear hw7 hf7 hq7 HA6
          have HS0 := Lib.hid (SFit.new none0)
          go_wp2_with fail
          go_loopw [86] (fun i wr => ∃ (k : Nat) (s2 : WSt BA), k ≤ l6.length ∧ i = .int .i64 k ∧ Hid (AN2t w p q (.slice t6 l6.length c6) [(wb, .cells #[.int .i64 1, .int .u64 o2, .int .u64 o3, .int .i64 o4] 38)] wr s5 l6 s2) ∧ Hid (SFit none0 k (2 * k) s2 (l6.take k))) (fun i _ => (l6.length - intOf i).toNat)
          case atStart => exact ⟨0, _, Nat.zero_le _, rfl, HT0, HS0⟩
          case round =>
            obtain ⟨k, s2, hk, rfl, HTk, HSk⟩ := hrel
            by_cases hkn : k < l6.length
            · obtain ⟨g6, off6, c66, hv6, _, _, hg6, hc6, _⟩ := HTk.out.fst.list.form (by omega)
              cases hv6
              have hck := hc6 k (by omega)
              rw [flat1, List.getElem?_eq_getElem hkn] at hck
              simp only [Option.map_some] at hck
              have hltk : (k : Int) < (l6.length : Int) := by omega
              have hwk : IntKind.i64.wrap ((k : Int) + 1) = (k : Int) + 1 := IntWalk.i64_in _ (by omega)
              have hcall := Lib.hid (aPush2 HTk.out HSk.out (by omega) (by omega) l6[k] (HF5.out.ones _ (List.getElem_mem hkn)))
              have HSn : Hid (SFit none0 (k + 1) (2 * (k + 1)) (s2.push cat l6[k]) (l6.take (k + 1))) := Lib.hid (by
                have := HSk.out.push (HF5.out.ones _ (List.getElem_mem hkn))
                rw [List.take_succ_eq_append_getElem hkn]
                exact this.mono (by omega) (by omega))
              clear hc6 HSk HTk
              generalize s2.push cat l6[k] = sn at *
              generalize l6[k] = xk at *
              go_wp2_with fail
              refine hcall.out.mono ?_
              rintro e w8 ⟨rfl, hT8⟩
              have HT8 := Lib.hid hT8; clear hT8 hcall hck
              go_wp2
              go_roundw
              case rel => exact ⟨k + 1, sn, by omega, by go_num, HT8, HSn⟩
              case measure => simp [intOf]; omega
            · have hkz : k = l6.length := by omega
              have HSk2 : Hid (SFit none0 k (2 * k) s2 l6) := Lib.hid (by have := HSk.out; rw [hkz, List.take_length, ← hkz] at this; exact this)
              have hd : decide ((k : Int) < (l6.length : Int)) = false := decide_eq_false (by omega)
              have hd2 : decide (k < l6.length) = false := decide_eq_false hkn
              have hcB : k ≤ 1000 := by omega
              have hcC : 2 * k ≤ 100000 := by omega
              have hB1 : j + 1 ≤ 1000 := by have := Hl.out; omega
              have hC1 : 10 * j + 6 ≤ 100000 := by have := Hl.out; omega
              clear hkn hkz HSk
              have HB1 := Lib.hid hB1; have HC1 := Lib.hid hC1; have HcB := Lib.hid hcB; have HcC := Lib.hid hcC; clear hB1 hC1 hcB hcC
              have ha1 := Lib.hid (aAll1 HTk.out HF5.out HB1.out (by have := HC1.out; omega))
              have HF6 := Lib.hid (HF5.out.asked)
              go_wp2_with fail
              refine ha1.out.mono ?_
              rintro e w8 ⟨rfl, hT8⟩
              have HT8 := Lib.hid hT8; clear hT8 ha1 HTk hd hd2
              have ha2 := Lib.hid (aAll1 HT8.out HF6.out HB1.out (by have := HC1.out; omega))
              have HF7 := Lib.hid (HF6.out.asked)
              go_wp2_with fail
              refine ha2.out.mono ?_
              rintro e w9 ⟨rfl, hT9⟩
              have HT9 := Lib.hid hT9; clear hT9 ha2 HT8
              have ha3 := Lib.hid (aAll2 HT9.out HSk2.out HcB.out HcC.out)
              generalize allL cat none0 l6 = al at *
              have hb1 : (al.toList == al.toList) = true := beq_self_eq_true _
              go_wp2_with fail
              refine ha3.out.mono ?_
              rintro e w10 ⟨rfl, hT10⟩
              have HT10 := Lib.hid hT10; clear hT10 ha3 HT9
              have ha4 := Lib.hid (aLen1 HT10.out HF7.out HB1.out (by have := HC1.out; omega))
              have hb3 : ((l6.length : Int) != (l6.length : Int)) = false := by simp
              have hb4 : ((l6.length : Int) == (l6.length : Int)) = true := by simp
              go_wp2_with fail
              refine ha4.out.mono ?_
              rintro e w11 ⟨rfl, hT11⟩
              have HT11 := Lib.hid hT11; clear hT11 ha4 HT10
              have ha5 := Lib.hid (aLen2 HT11.out HSk2.out.asked HcB.out (by have := HcC.out; omega))
              go_wp2_with fail
              refine ha5.out.mono ?_
              rintro e w12 ⟨rfl, hT12⟩
              have HA12 := Lib.hid (hT12.fst.drop); clear hT12 ha5 HT11
              have HFn := Lib.hid (HF7.out.mono (show j + 1 ≤ j + 1 by omega) (show 10 * j + 4 + 1 + 1 ≤ 10 * (j + 1) by omega))
              go_wp2
              go_roundw
              case rel => exact ⟨j + 1, _, l6, by omega, by go_num, HA12, HFn⟩
              case measure => simp [intOf]; omega
        · have h1b : (o1 == 1) = false := beq_eq_false_iff_ne.2 h1
          by_cases h2 : o1 = 2
          · clear h1 h1b
            subst h2
            have hc := Lib.hid (aPop HA1.out HFj.out (by have := Hl.out; omega) (by have := Hl.out; omega))
            have hF5 : SFit none0 (j + 1) (10 * j + 4) (s.turned cat).cut l.tail := (HFj.out.pop (by have := Hl.out; omega)).mono (by omega) (by omega)
            generalize (s.turned cat).cut = s5 at *
            cases l with
            | nil =>
              have hr : rpopS [] = (⟨#[]⟩, 110) := rfl
              rw [hr] at hc
              simp only [List.tail_nil] at hF5
              simp only [List.length_nil] at *
              have HF5 := Lib.hid hF5; clear hF5 hr
              go_wp2_with fail
              refine hc.out.mono ?_
              rintro e w5 ⟨rfl, hA5⟩
              have HA6 := Lib.hid hA5; clear hA5 hc d0 d1 d2 d3 df HA1
              go_upto_region 24 with (fail)
              obtain ⟨l6, hl6'⟩ : ∃ l6 : List BA, l6 = [] := ⟨_, rfl⟩
              have hn6 : 0 = l6.length := by rw [hl6']; rfl
              rw [← hl6'] at HA6 HF5
              have hv6 : Value.slice ta 0 tc = Value.slice ta l6.length tc := by rw [← hn6]
              rw [hv6] at HA6 ⊢
              clear hn6 hl6' HFj htc hv6
              obtain ⟨t6, ht6⟩ : ∃ t6, t6 = ta := ⟨_, rfl⟩
              obtain ⟨c6, hc6⟩ : ∃ c6, c6 = tc := ⟨_, rfl⟩
              subst ht6 hc6
              have hl6 : l6.length ≤ 201 := by have := HF5.out.len; have := Hl.out; omega
              go_wp2_with fail
              refine (new12 (F := 16) _ _).mono ?_
              rintro e w7 ⟨q, rfl, hw7, hf7, hq7⟩
              have HT0 := Lib.hid (HA6.out.two hw7 hf7 hq7); clear hw7 hf7 hq7 HA6
              have HS0 := Lib.hid (SFit.new none0)
              go_wp2_with fail
              go_loopw [86] (fun i wr => ∃ (k : Nat) (s2 : WSt BA), k ≤ l6.length ∧ i = .int .i64 k ∧ Hid (AN2t w p q (.slice t6 l6.length c6) [(wb, .cells #[.int .i64 2, .int .u64 o2, .int .u64 o3, .int .i64 o4] 38)] wr s5 l6 s2) ∧ Hid (SFit none0 k (2 * k) s2 (l6.take k))) (fun i _ => (l6.length - intOf i).toNat)
              case atStart => exact ⟨0, _, Nat.zero_le _, rfl, HT0, HS0⟩
              case round =>
                obtain ⟨k, s2, hk, rfl, HTk, HSk⟩ := hrel
                by_cases hkn : k < l6.length
                · obtain ⟨g6, off6, c66, hv6, _, _, hg6, hc6, _⟩ := HTk.out.fst.list.form (by omega)
                  cases hv6
                  have hck := hc6 k (by omega)
                  rw [flat1, List.getElem?_eq_getElem hkn] at hck
                  simp only [Option.map_some] at hck
                  have hltk : (k : Int) < (l6.length : Int) := by omega
                  have hwk : IntKind.i64.wrap ((k : Int) + 1) = (k : Int) + 1 := IntWalk.i64_in _ (by omega)
                  have hcall := Lib.hid (aPush2 HTk.out HSk.out (by omega) (by omega) l6[k] (HF5.out.ones _ (List.getElem_mem hkn)))
                  have HSn : Hid (SFit none0 (k + 1) (2 * (k + 1)) (s2.push cat l6[k]) (l6.take (k + 1))) := Lib.hid (by
                    have := HSk.out.push (HF5.out.ones _ (List.getElem_mem hkn))
                    rw [List.take_succ_eq_append_getElem hkn]
                    exact this.mono (by omega) (by omega))
                  clear hc6 HSk HTk
                  generalize s2.push cat l6[k] = sn at *
                  generalize l6[k] = xk at *
                  go_wp2_with fail
                  refine hcall.out.mono ?_
                  rintro e w8 ⟨rfl, hT8⟩
                  have HT8 := Lib.hid hT8; clear hT8 hcall hck
                  go_wp2
                  go_roundw
                  case rel => exact ⟨k + 1, sn, by omega, by go_num, HT8, HSn⟩
                  case measure => simp [intOf]; omega
                · have hkz : k = l6.length := by omega
                  have HSk2 : Hid (SFit none0 k (2 * k) s2 l6) := Lib.hid (by have := HSk.out; rw [hkz, List.take_length, ← hkz] at this; exact this)
                  have hd : decide ((k : Int) < (l6.length : Int)) = false := decide_eq_false (by omega)
                  have hd2 : decide (k < l6.length) = false := decide_eq_false hkn
                  have hcB : k ≤ 1000 := by omega
                  have hcC : 2 * k ≤ 100000 := by omega
                  have hB1 : j + 1 ≤ 1000 := by have := Hl.out; omega
                  have hC1 : 10 * j + 6 ≤ 100000 := by have := Hl.out; omega
                  clear hkn hkz HSk
                  have HB1 := Lib.hid hB1; have HC1 := Lib.hid hC1; have HcB := Lib.hid hcB; have HcC := Lib.hid hcC; clear hB1 hC1 hcB hcC
                  have ha1 := Lib.hid (aAll1 HTk.out HF5.out HB1.out (by have := HC1.out; omega))
                  have HF6 := Lib.hid (HF5.out.asked)
                  go_wp2_with fail
                  refine ha1.out.mono ?_
                  rintro e w8 ⟨rfl, hT8⟩
                  have HT8 := Lib.hid hT8; clear hT8 ha1 HTk hd hd2
                  have ha2 := Lib.hid (aAll1 HT8.out HF6.out HB1.out (by have := HC1.out; omega))
                  have HF7 := Lib.hid (HF6.out.asked)
                  go_wp2_with fail
                  refine ha2.out.mono ?_
                  rintro e w9 ⟨rfl, hT9⟩
                  have HT9 := Lib.hid hT9; clear hT9 ha2 HT8
                  have ha3 := Lib.hid (aAll2 HT9.out HSk2.out HcB.out HcC.out)
                  generalize allL cat none0 l6 = al at *
                  have hb1 : (al.toList == al.toList) = true := beq_self_eq_true _
                  go_wp2_with fail
                  refine ha3.out.mono ?_
                  rintro e w10 ⟨rfl, hT10⟩
                  have HT10 := Lib.hid hT10; clear hT10 ha3 HT9
                  have ha4 := Lib.hid (aLen1 HT10.out HF7.out HB1.out (by have := HC1.out; omega))
                  have hb3 : ((l6.length : Int) != (l6.length : Int)) = false := by simp
                  have hb4 : ((l6.length : Int) == (l6.length : Int)) = true := by simp
                  go_wp2_with fail
                  refine ha4.out.mono ?_
                  rintro e w11 ⟨rfl, hT11⟩
                  have HT11 := Lib.hid hT11; clear hT11 ha4 HT10
                  have ha5 := Lib.hid (aLen2 HT11.out HSk2.out.asked HcB.out (by have := HcC.out; omega))
                  go_wp2_with fail
                  refine ha5.out.mono ?_
                  rintro e w12 ⟨rfl, hT12⟩
                  have HA12 := Lib.hid (hT12.fst.drop); clear hT12 ha5 HT11
                  have HFn := Lib.hid (HF7.out.mono (show j + 1 ≤ j + 1 by omega) (show 10 * j + 4 + 1 + 1 ≤ 10 * (j + 1) by omega))
                  go_wp2
                  go_roundw
                  case rel => exact ⟨j + 1, _, l6, by omega, by go_num, HA12, HFn⟩
                  case measure => simp [intOf]; omega
            | cons a1 t1 =>
              have hr : rpopS (a1 :: t1) = (a1, 0) := rfl
              rw [hr] at hc
              simp only [List.tail_cons] at hF5
              simp only [List.length_cons] at *
              have HF5 := Lib.hid hF5; clear hF5 hr
              have hd0 : decide ((0 : Int) < (t1.length : Int) + 1) = true := decide_eq_true (by omega)
              have hd00 : (0 : Int) < (t1.length : Int) + 1 := by omega
              have hba : (a1.toList == a1.toList) = true := beq_self_eq_true _
              have htl : t1.length < 1000 := by have h9 := HFj.out.len; have := Hl.out; rw [List.length_cons] at h9; omega
              go_wp2_with fail
              refine hc.out.mono ?_
              rintro e w5 ⟨rfl, hA5⟩
              have hlist := hA5.list
              simp only [List.length_cons] at hlist
              obtain ⟨g2, off2, c2, hv2, hcap2, hmax2, hg2, hcells2, _⟩ := hlist.form (by omega)
              cases hv2
              have hx2 := hcells2 0 (by omega)
              simp only [List.flatMap_cons, List.cons_append, List.nil_append, List.getElem?_cons_zero, Nat.add_zero] at hx2
              have hfl : ((a1 :: t1).flatMap strK.enc).drop (1 * 1) = t1.flatMap strK.enc := by simp
              have hcm : tc ≤ 9223372036854775807 := by unfold maxLen at hmax2; omega
              by_cases hc1 : tc = 1
              · subst hc1
                have hz : t1 = [] := List.eq_nil_of_length_eq_zero (by omega)
                have hs := hlist.drop_all 1 (by omega)
                rw [hfl] at hs
                subst hz
                have HA6 := Lib.hid (hA5.sub (v' := .slice (some ⟨g2, off2, none⟩) ([] : List BA).length 0) (l' := []) rfl (by simpa using hs))
                clear hA5 hc d0 d1 d2 d3 df HA1 hs hfl hlist hcells2
                simp only [List.length_nil] at *
                go_upto_region 24 with (fail)
                obtain ⟨l6, hl6'⟩ : ∃ l6 : List BA, l6 = [] := ⟨_, rfl⟩
                have hn6 : 0 = l6.length := by rw [hl6']; rfl
                have hv6 : Value.slice (some (⟨g2, off2, none⟩ : Addr)) 0 0 = Value.slice (some (⟨g2, off2, none⟩ : Addr)) l6.length 0 := by rw [← hn6]
                rw [← hl6'] at HA6 HF5
                rw [hv6] at HA6 ⊢
                clear hn6 hl6' HFj htc hv6 hx2 hba hd0 hd00
                generalize (some (⟨g2, off2, none⟩ : Addr)) = t6 at *
                obtain ⟨c6, hc6⟩ : ∃ c6, c6 = 0 := ⟨_, rfl⟩
                have hv7 : Value.slice t6 l6.length 0 = Value.slice t6 l6.length c6 := by rw [hc6]
                rw [hv7] at HA6 ⊢
                clear hv7 hc6
                have hl6 : l6.length ≤ 201 := by have := HF5.out.len; have := Hl.out; omega
                go_wp2_with fail
                refine (new12 (F := 16) _ _).mono ?_
                rintro e w7 ⟨q, rfl, hw7, hf7, hq7⟩
                have HT0 := Lib.hid (HA6.out.two hw7 hf7 hq7); clear hw7 hf7 hq7 HA6
                have HS0 := Lib.hid (SFit.new none0)
                go_wp2_with fail
                go_loopw [86] (fun i wr => ∃ (k : Nat) (s2 : WSt BA), k ≤ l6.length ∧ i = .int .i64 k ∧ Hid (AN2t w p q (.slice t6 l6.length c6) [(wb, .cells #[.int .i64 2, .int .u64 o2, .int .u64 o3, .int .i64 o4] 38)] wr s5 l6 s2) ∧ Hid (SFit none0 k (2 * k) s2 (l6.take k))) (fun i _ => (l6.length - intOf i).toNat)
                case atStart => exact ⟨0, _, Nat.zero_le _, rfl, HT0, HS0⟩
                case round =>
                  obtain ⟨k, s2, hk, rfl, HTk, HSk⟩ := hrel
                  by_cases hkn : k < l6.length
                  · obtain ⟨g6, off6, c66, hv6, _, _, hg6, hc6, _⟩ := HTk.out.fst.list.form (by omega)
                    cases hv6
                    have hck := hc6 k (by omega)
                    rw [flat1, List.getElem?_eq_getElem hkn] at hck
                    simp only [Option.map_some] at hck
                    have hltk : (k : Int) < (l6.length : Int) := by omega
                    have hwk : IntKind.i64.wrap ((k : Int) + 1) = (k : Int) + 1 := IntWalk.i64_in _ (by omega)
                    have hcall := Lib.hid (aPush2 HTk.out HSk.out (by omega) (by omega) l6[k] (HF5.out.ones _ (List.getElem_mem hkn)))
                    have HSn : Hid (SFit none0 (k + 1) (2 * (k + 1)) (s2.push cat l6[k]) (l6.take (k + 1))) := Lib.hid (by
                      have := HSk.out.push (HF5.out.ones _ (List.getElem_mem hkn))
                      rw [List.take_succ_eq_append_getElem hkn]
                      exact this.mono (by omega) (by omega))
                    clear hc6 HSk HTk
                    generalize s2.push cat l6[k] = sn at *
                    generalize l6[k] = xk at *
                    go_wp2_with fail
                    refine hcall.out.mono ?_
                    rintro e w8 ⟨rfl, hT8⟩
                    have HT8 := Lib.hid hT8; clear hT8 hcall hck
                    go_wp2
                    go_roundw
                    case rel => exact ⟨k + 1, sn, by omega, by go_num, HT8, HSn⟩
                    case measure => simp [intOf]; omega
                  · have hkz : k = l6.length := by omega
                    have HSk2 : Hid (SFit none0 k (2 * k) s2 l6) := Lib.hid (by have := HSk.out; rw [hkz, List.take_length, ← hkz] at this; exact this)
                    have hd : decide ((k : Int) < (l6.length : Int)) = false := decide_eq_false (by omega)
                    have hd2 : decide (k < l6.length) = false := decide_eq_false hkn
                    have hcB : k ≤ 1000 := by omega
                    have hcC : 2 * k ≤ 100000 := by omega
                    have hB1 : j + 1 ≤ 1000 := by have := Hl.out; omega
                    have hC1 : 10 * j + 6 ≤ 100000 := by have := Hl.out; omega
                    clear hkn hkz HSk
                    have HB1 := Lib.hid hB1; have HC1 := Lib.hid hC1; have HcB := Lib.hid hcB; have HcC := Lib.hid hcC; clear hB1 hC1 hcB hcC
                    have ha1 := Lib.hid (aAll1 HTk.out HF5.out HB1.out (by have := HC1.out; omega))
                    have HF6 := Lib.hid (HF5.out.asked)
                    go_wp2_with fail
                    refine ha1.out.mono ?_
                    rintro e w8 ⟨rfl, hT8⟩
                    have HT8 := Lib.hid hT8; clear hT8 ha1 HTk hd hd2
                    have ha2 := Lib.hid (aAll1 HT8.out HF6.out HB1.out (by have := HC1.out; omega))
                    have HF7 := Lib.hid (HF6.out.asked)
                    go_wp2_with fail
                    refine ha2.out.mono ?_
                    rintro e w9 ⟨rfl, hT9⟩
                    have HT9 := Lib.hid hT9; clear hT9 ha2 HT8
                    have ha3 := Lib.hid (aAll2 HT9.out HSk2.out HcB.out HcC.out)
                    generalize allL cat none0 l6 = al at *
                    have hb1 : (al.toList == al.toList) = true := beq_self_eq_true _
                    go_wp2_with fail
                    refine ha3.out.mono ?_
                    rintro e w10 ⟨rfl, hT10⟩
                    have HT10 := Lib.hid hT10; clear hT10 ha3 HT9
                    have ha4 := Lib.hid (aLen1 HT10.out HF7.out HB1.out (by have := HC1.out; omega))
                    have hb3 : ((l6.length : Int) != (l6.length : Int)) = false := by simp
                    have hb4 : ((l6.length : Int) == (l6.length : Int)) = true := by simp
                    go_wp2_with fail
                    refine ha4.out.mono ?_
                    rintro e w11 ⟨rfl, hT11⟩
                    have HT11 := Lib.hid hT11; clear hT11 ha4 HT10
                    have ha5 := Lib.hid (aLen2 HT11.out HSk2.out.asked HcB.out (by have := HcC.out; omega))
                    go_wp2_with fail
                    refine ha5.out.mono ?_
                    rintro e w12 ⟨rfl, hT12⟩
                    have HA12 := Lib.hid (hT12.fst.drop); clear hT12 ha5 HT11
                    have HFn := Lib.hid (HF7.out.mono (show j + 1 ≤ j + 1 by omega) (show 10 * j + 4 + 1 + 1 ≤ 10 * (j + 1) by omega))
                    go_wp2
                    go_roundw
                    case rel => exact ⟨j + 1, _, l6, by omega, by go_num, HA12, HFn⟩
                    case measure => simp [intOf]; omega
              · have hs := hlist.drop 1 (by omega)
                rw [hfl] at hs
                have HA6 := Lib.hid (hA5.sub (v' := .slice (some ⟨g2, off2 + 1, none⟩) t1.length (tc - 1)) (l' := t1) rfl (by simpa using hs))
                have hcc : 1 ≤ tc := by omega
                have hcn : 1 < tc := by omega
                have hd1 : decide ((1 : Int) < (tc : Int)) = true := decide_eq_true (by omega)
                clear hA5 hc d0 d1 d2 d3 df HA1 hs hfl hlist hcells2
                go_upto_region 24 with (fail)
                obtain ⟨l6, hl6'⟩ : ∃ l6 : List BA, l6 = t1 := ⟨_, rfl⟩
                subst hl6'
                clear HFj htc hx2 hba hd0 hd00 hcc hcn hd1
                generalize (some (⟨g2, off2 + 1, none⟩ : Addr)) = t6 at *
                generalize tc - 1 = c6 at *
                have hl6 : l6.length ≤ 201 := by have := HF5.out.len; have := Hl.out; omega
                go_wp2_with fail
                refine (new12 (F := 16) _ _).mono ?_
                rintro e w7 ⟨q, rfl, hw7, hf7, hq7⟩
                have HT0 := Lib.hid (HA6.out.two hw7 hf7 hq7); clear hw7 hf7 hq7 HA6
                have HS0 := Lib.hid (SFit.new none0)
                go_wp2_with fail
                go_loopw [86] (fun i wr => ∃ (k : Nat) (s2 : WSt BA), k ≤ l6.length ∧ i = .int .i64 k ∧ Hid (AN2t w p q (.slice t6 l6.length c6) [(wb, .cells #[.int .i64 2, .int .u64 o2, .int .u64 o3, .int .i64 o4] 38)] wr s5 l6 s2) ∧ Hid (SFit none0 k (2 * k) s2 (l6.take k))) (fun i _ => (l6.length - intOf i).toNat)
                case atStart => exact ⟨0, _, Nat.zero_le _, rfl, HT0, HS0⟩
                case round =>
                  obtain ⟨k, s2, hk, rfl, HTk, HSk⟩ := hrel
                  by_cases hkn : k < l6.length
                  · obtain ⟨g6, off6, c66, hv6, _, _, hg6, hc6, _⟩ := HTk.out.fst.list.form (by omega)
                    cases hv6
                    have hck := hc6 k (by omega)
                    rw [flat1, List.getElem?_eq_getElem hkn] at hck
                    simp only [Option.map_some] at hck
                    have hltk : (k : Int) < (l6.length : Int) := by omega
                    have hwk : IntKind.i64.wrap ((k : Int) + 1) = (k : Int) + 1 := IntWalk.i64_in _ (by omega)
                    have hcall := Lib.hid (aPush2 HTk.out HSk.out (by omega) (by omega) l6[k] (HF5.out.ones _ (List.getElem_mem hkn)))
                    have HSn : Hid (SFit none0 (k + 1) (2 * (k + 1)) (s2.push cat l6[k]) (l6.take (k + 1))) := Lib.hid (by
                      have := HSk.out.push (HF5.out.ones _ (List.getElem_mem hkn))
                      rw [List.take_succ_eq_append_getElem hkn]
                      exact this.mono (by omega) (by omega))
                    clear hc6 HSk HTk
                    generalize s2.push cat l6[k] = sn at *
                    generalize l6[k] = xk at *
                    go_wp2_with fail
                    refine hcall.out.mono ?_
                    rintro e w8 ⟨rfl, hT8⟩
                    have HT8 := Lib.hid hT8; clear hT8 hcall hck
                    go_wp2
                    go_roundw
                    case rel => exact ⟨k + 1, sn, by omega, by go_num, HT8, HSn⟩
                    case measure => simp [intOf]; omega
                  · have hkz : k = l6.length := by omega
                    have HSk2 : Hid (SFit none0 k (2 * k) s2 l6) := Lib.hid (by have := HSk.out; rw [hkz, List.take_length, ← hkz] at this; exact this)
                    have hd : decide ((k : Int) < (l6.length : Int)) = false := decide_eq_false (by omega)
                    have hd2 : decide (k < l6.length) = false := decide_eq_false hkn
                    have hcB : k ≤ 1000 := by omega
                    have hcC : 2 * k ≤ 100000 := by omega
                    have hB1 : j + 1 ≤ 1000 := by have := Hl.out; omega
                    have hC1 : 10 * j + 6 ≤ 100000 := by have := Hl.out; omega
                    clear hkn hkz HSk
                    have HB1 := Lib.hid hB1; have HC1 := Lib.hid hC1; have HcB := Lib.hid hcB; have HcC := Lib.hid hcC; clear hB1 hC1 hcB hcC
                    have ha1 := Lib.hid (aAll1 HTk.out HF5.out HB1.out (by have := HC1.out; omega))
                    have HF6 := Lib.hid (HF5.out.asked)
                    go_wp2_with fail
                    refine ha1.out.mono ?_
                    rintro e w8 ⟨rfl, hT8⟩
                    have HT8 := Lib.hid hT8; clear hT8 ha1 HTk hd hd2
                    have ha2 := Lib.hid (aAll1 HT8.out HF6.out HB1.out (by have := HC1.out; omega))
                    have HF7 := Lib.hid (HF6.out.asked)
                    go_wp2_with fail
                    refine ha2.out.mono ?_
                    rintro e w9 ⟨rfl, hT9⟩
                    have HT9 := Lib.hid hT9; clear hT9 ha2 HT8
                    have ha3 := Lib.hid (aAll2 HT9.out HSk2.out HcB.out HcC.out)
                    generalize allL cat none0 l6 = al at *
                    have hb1 : (al.toList == al.toList) = true := beq_self_eq_true _
                    go_wp2_with fail
                    refine ha3.out.mono ?_
                    rintro e w10 ⟨rfl, hT10⟩
                    have HT10 := Lib.hid hT10; clear hT10 ha3 HT9
                    have ha4 := Lib.hid (aLen1 HT10.out HF7.out HB1.out (by have := HC1.out; omega))
                    have hb3 : ((l6.length : Int) != (l6.length : Int)) = false := by simp
                    have hb4 : ((l6.length : Int) == (l6.length : Int)) = true := by simp
                    go_wp2_with fail
                    refine ha4.out.mono ?_
                    rintro e w11 ⟨rfl, hT11⟩
                    have HT11 := Lib.hid hT11; clear hT11 ha4 HT10
                    have ha5 := Lib.hid (aLen2 HT11.out HSk2.out.asked HcB.out (by have := HcC.out; omega))
                    go_wp2_with fail
                    refine ha5.out.mono ?_
                    rintro e w12 ⟨rfl, hT12⟩
                    have HA12 := Lib.hid (hT12.fst.drop); clear hT12 ha5 HT11
                    have HFn := Lib.hid (HF7.out.mono (show j + 1 ≤ j + 1 by omega) (show 10 * j + 4 + 1 + 1 ≤ 10 * (j + 1) by omega))
                    go_wp2
                    go_roundw
                    case rel => exact ⟨j + 1, _, l6, by omega, by go_num, HA12, HFn⟩
                    case measure => simp [intOf]; omega
          · have h2b : (o1 == 2) = false := beq_eq_false_iff_ne.2 h2
            clear h1 h2
            have HF5 : Hid (SFit none0 (j + 1) (10 * j + 4) s l) := Lib.hid (HFj.out.mono (by omega) (by omega))
            obtain ⟨s5, hs5⟩ : ∃ s5, s5 = s := ⟨_, rfl⟩
            obtain ⟨l6, hl6'⟩ : ∃ l6, l6 = l := ⟨_, rfl⟩
            obtain ⟨t6, ht6⟩ : ∃ t6, t6 = ta := ⟨_, rfl⟩
            obtain ⟨c6, hc6⟩ : ∃ c6, c6 = tc := ⟨_, rfl⟩
            subst hs5 hl6' ht6 hc6
            have HA6 := HA1
            clear HA1 HFj htc
            have hl6 : l6.length ≤ 201 := by have := HF5.out.len; have := Hl.out; omega
            go_wp2_with fail
            refine (new12 (F := 16) _ _).mono ?_
            rintro e w7 ⟨q, rfl, hw7, hf7, hq7⟩
            have HT0 := Lib.hid (HA6.out.two hw7 hf7 hq7); clear hw7 hf7 hq7 HA6
            have HS0 := Lib.hid (SFit.new none0)
            go_wp2_with fail
            go_loopw [86] (fun i wr => ∃ (k : Nat) (s2 : WSt BA), k ≤ l6.length ∧ i = .int .i64 k ∧ Hid (AN2t w p q (.slice t6 l6.length c6) [(wb, .cells #[.int .i64 o1, .int .u64 o2, .int .u64 o3, .int .i64 o4] 38)] wr s5 l6 s2) ∧ Hid (SFit none0 k (2 * k) s2 (l6.take k))) (fun i _ => (l6.length - intOf i).toNat)
            case atStart => exact ⟨0, _, Nat.zero_le _, rfl, HT0, HS0⟩
            case round =>
              obtain ⟨k, s2, hk, rfl, HTk, HSk⟩ := hrel
              by_cases hkn : k < l6.length
              · obtain ⟨g6, off6, c66, hv6, _, _, hg6, hc6, _⟩ := HTk.out.fst.list.form (by omega)
                cases hv6
                have hck := hc6 k (by omega)
                rw [flat1, List.getElem?_eq_getElem hkn] at hck
                simp only [Option.map_some] at hck
                have hltk : (k : Int) < (l6.length : Int) := by omega
                have hwk : IntKind.i64.wrap ((k : Int) + 1) = (k : Int) + 1 := IntWalk.i64_in _ (by omega)
                have hcall := Lib.hid (aPush2 HTk.out HSk.out (by omega) (by omega) l6[k] (HF5.out.ones _ (List.getElem_mem hkn)))
                have HSn : Hid (SFit none0 (k + 1) (2 * (k + 1)) (s2.push cat l6[k]) (l6.take (k + 1))) := Lib.hid (by
                  have := HSk.out.push (HF5.out.ones _ (List.getElem_mem hkn))
                  rw [List.take_succ_eq_append_getElem hkn]
                  exact this.mono (by omega) (by omega))
                clear hc6 HSk HTk
                generalize s2.push cat l6[k] = sn at *
                generalize l6[k] = xk at *
                go_wp2_with fail
                refine hcall.out.mono ?_
                rintro e w8 ⟨rfl, hT8⟩
                have HT8 := Lib.hid hT8; clear hT8 hcall hck
                go_wp2
                go_roundw
                case rel => exact ⟨k + 1, sn, by omega, by go_num, HT8, HSn⟩
                case measure => simp [intOf]; omega
              · have hkz : k = l6.length := by omega
                have HSk2 : Hid (SFit none0 k (2 * k) s2 l6) := Lib.hid (by have := HSk.out; rw [hkz, List.take_length, ← hkz] at this; exact this)
                have hd : decide ((k : Int) < (l6.length : Int)) = false := decide_eq_false (by omega)
                have hd2 : decide (k < l6.length) = false := decide_eq_false hkn
                have hcB : k ≤ 1000 := by omega
                have hcC : 2 * k ≤ 100000 := by omega
                have hB1 : j + 1 ≤ 1000 := by have := Hl.out; omega
                have hC1 : 10 * j + 6 ≤ 100000 := by have := Hl.out; omega
                clear hkn hkz HSk
                have HB1 := Lib.hid hB1; have HC1 := Lib.hid hC1; have HcB := Lib.hid hcB; have HcC := Lib.hid hcC; clear hB1 hC1 hcB hcC
                have ha1 := Lib.hid (aAll1 HTk.out HF5.out HB1.out (by have := HC1.out; omega))
                have HF6 := Lib.hid (HF5.out.asked)
                go_wp2_with fail
                refine ha1.out.mono ?_
                rintro e w8 ⟨rfl, hT8⟩
                have HT8 := Lib.hid hT8; clear hT8 ha1 HTk hd hd2
                have ha2 := Lib.hid (aAll1 HT8.out HF6.out HB1.out (by have := HC1.out; omega))
                have HF7 := Lib.hid (HF6.out.asked)
                go_wp2_with fail
                refine ha2.out.mono ?_
                rintro e w9 ⟨rfl, hT9⟩
                have HT9 := Lib.hid hT9; clear hT9 ha2 HT8
                have ha3 := Lib.hid (aAll2 HT9.out HSk2.out HcB.out HcC.out)
                generalize allL cat none0 l6 = al at *
                have hb1 : (al.toList == al.toList) = true := beq_self_eq_true _
                go_wp2_with fail
                refine ha3.out.mono ?_
                rintro e w10 ⟨rfl, hT10⟩
                have HT10 := Lib.hid hT10; clear hT10 ha3 HT9
                have ha4 := Lib.hid (aLen1 HT10.out HF7.out HB1.out (by have := HC1.out; omega))
                have hb3 : ((l6.length : Int) != (l6.length : Int)) = false := by simp
                have hb4 : ((l6.length : Int) == (l6.length : Int)) = true := by simp
                go_wp2_with fail
                refine ha4.out.mono ?_
                rintro e w11 ⟨rfl, hT11⟩
                have HT11 := Lib.hid hT11; clear hT11 ha4 HT10
                have ha5 := Lib.hid (aLen2 HT11.out HSk2.out.asked HcB.out (by have := HcC.out; omega))
                go_wp2_with fail
                refine ha5.out.mono ?_
                rintro e w12 ⟨rfl, hT12⟩
                have HA12 := Lib.hid (hT12.fst.drop); clear hT12 ha5 HT11
                have HFn := Lib.hid (HF7.out.mono (show j + 1 ≤ j + 1 by omega) (show 10 * j + 4 + 1 + 1 ≤ 10 * (j + 1) by omega))
                go_wp2
                go_roundw
                case rel => exact ⟨j + 1, _, l6, by omega, by go_num, HA12, HFn⟩
                case measure => simp [intOf]; omega
      · have hd : decide ((j : Int) < (l'.length : Int)) = false := decide_eq_false (by omega)
        have hd2 : decide (j < l'.length) = false := decide_eq_false hlt
        have Hbase := Lib.hid HAj.out.base
        clear hlt HAj HFj
        go_wp2
        go_ret
        exact ⟨rfl, Hbase.out⟩
end Go.Proofs.Ytikodccbecmjiaa
