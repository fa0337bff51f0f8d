/-
  The statements of the future: xs, and what live's calls answer, plainly. The statements of the future: the points in a slice, and their many. Package future: two operators apart; the calls of the statements' live.
-/
import Derived.Test.YtbejmdlncnkaaaaGreatFuB
import Derived.Test.YtbejmdlncnkaaaaGreatPaF
import Derived.Test.YtbejmdlncnkaaaaGreatPaE
set_option maxRecDepth 100000
set_option maxHeartbeats 16000000
set_option linter.unusedSimpArgs false
namespace Go.Proofs.YtbejmdlncnkaaaaGreat
section
open Go.RowKit
theorem xs78 {w : World} {v : Value} {l : List Int} (h : w.Rd 1 v l.length (icells l)) (hn : l.length <= 100) (hi : ∀ x, x ∈ l -> inI64 x) :
  Calls Tryz.prog 78 #[v] w fun e w' => ∃ v', e = .returned v' /\ OwnTab w w' v' ⟨[nmX], xsR l⟩ := by
 obtain ⟨a1, c1, rfl, _, _⟩ := h.shape
 obtain ⟨n, hl⟩ : ∃ n, l.length = n := ⟨_, rfl⟩
 rw [hl] at h ⊢
 rw [hl] at hn
 have H := Hz h; have Hl := Hz hl; have Hn := Hz hn; have Hi := Hz hi; clear h hl hn hi
 go_enter Tryz.func78, Tryz.ntmps78
 go_upto_region 3 with (fail)
 generalize hW : World.alloc (World.alloc (World.alloc w _) _) _ = W
 have q1 : W.heap[w.heap.size]? = some (.cells #[.slice none 0 0, .slice none 0 0] 34 (0, 0)) := by rw [<- hW]; exact heap_alloc_some (heap_alloc_some (heap_alloc_at _ _ _ rfl) _) _
 have q2 : W.Sl 9 1 (.slice (some ⟨w.heap.size + 1, 0, none⟩) 1 1) 1 [.string ⟨#[120]⟩] := by
  rw [<- hW]
  have := (World.Sl.lit (w.alloc (.cells #[.slice none 0 0, .slice none 0 0] 34)) 9 #[.string ⟨#[120]⟩] 1 1 (by simp [maxLen]) rfl).alloc (.cells #[.slice (some ⟨w.heap.size + 1, 0, none⟩) 1 1, .slice none 0 0] 34)
  simpa using this
 have q4 : W.heap[w.heap.size + 1 + 1]? = some (.cells #[.slice (some ⟨w.heap.size + 1, 0, none⟩) 1 1, .slice none 0 0] 34 (0, 0)) := by rw [<- hW]; exact heap_alloc_at _ _ _ (by simp)
 have q3 : w.Fr W [] := by rw [<- hW]; exact (((World.Fr.refl w []).alloc _).alloc _).alloc _
 clear hW
 have HR0 : Hid (RV W W (w.heap.size + 1 + 1) (.slice (some ⟨w.heap.size + 1, 0, none⟩) 1 1) (.slice none 0 0) [] []) := Hz ⟨q4, World.Sl.nil _ _ _, rfl, by simp [Value.blk], by simp, World.Fr.refl _ _⟩
 have hlb := lt_of_heap q4
 generalize hb1 : w.heap.size = b1 at *
 generalize hb3 : b1 + 1 + 1 = b3 at *
 have Hb1 := Hz hb1; have Hb3 := Hz hb3; have Q1 := Hz q1; have Q2 := Hz q2; have Q3 := Hz q3; have Hlb := Hz hlb
 clear hb1 hb3 q1 q2 q3 q4 hlb
 go_loopw [10] (fun i wr => ∃ (j : Nat) (vb : Value) (hsn : List Value), i = .int .i64 j /\ j <= n /\ Hid (RV W wr b3 (.slice (some ⟨b1 + 1, 0, none⟩) 1 1) vb hsn (xsR (l.take j)))) (fun i _ => (n - intOf i).toNat)
 case atStart => exact ⟨0, _, [], rfl, Nat.zero_le _, HR0⟩
 case round =>
  obtain ⟨j, vb, hsn, rfl, hj, HR⟩ := hrel
  obtain ⟨xa, xc, rfl, _, _⟩ := HR.out.sl.shape
  by_cases hlt : j < n
  ·have hjI : (j : Int) < (n : Int) := by omega
   have hw1 : IntKind.i64.wrap ((j : Int) + 1) = (j : Int) + 1 := IntWalk.i64_in _ (by have := Hn.out; omega)
   have hnn : (0 : Int) <= (j : Int) := by omega
   obtain ⟨a, ha⟩ : ∃ a, l[j]? = some a := ⟨l[j]'(by have := Hl.out; omega), List.getElem?_eq_getElem _⟩
   have hsn1 := xsR_take ha
   obtain ⟨p0, p1, pf⟩ := two HR.out.box
   have hfw := Q3.out.trans HR.out.fr (fun k hk => .inr (by simp at hk; subst hk; have := Hb1.out; have := Hb3.out; omega))
   obtain ⟨g, off, c, hv, _, _, hg, kcs⟩ := (H.out.fr hfw (by simp)).form (by omega)
   cases hv
   have ka := kcs j (by omega)
   clear kcs
   rw [List.getElem?_map, ha] at ka
   simp only [Option.map_some] at ka
   have hl3 : b3 < wr.heap.size := lt_of_heap HR.out.box
   have hnb3 : b3 ∉ (Value.slice xa hsn.length xc).blk := fun hk => sl_box HR.out.sl HR.out.box (by decide) b3 hk rfl
   have Hsn1 := Hz hsn1; have Hbox := Hz HR.out.box
   have Hnb3 := Hz hnb3
   clear hsn1 ha hnb3 hfw
   have Hslr := Hz HR.out.sl
   generalize hhn : hsn.length = hn at *
   have Hhn := Hz hhn; clear hhn
   have hroom : hn < 210 := by
    have e1 := Hhn.out
    have e2 := HR.out.len
    have e4 : (l.take j).length <= j := List.length_take_le _ _
    have e3 : (xsR (l.take j)).length = (l.take j).length := by simp [xsR]
    have := Hn.out
    omega
   obtain ⟨ih, hih, hh0, hh1, hh2⟩ := info_parts infoH
   go_wp2_with (at_builtin; refine wpList_append_one _ rfl (.tmp 15) (.tmp 19) 32 rfl 81 ih (.slice none 0 0) 1 24 Tryz.underlying32 hih hh0 hh1 hh2 rfl (.slice xa hn xc) hn hsn rfl (World.Sl.alloc (World.Sl.alloc Hslr.out _) _) (wr.heap.size + 1) 1 [.slice (some ⟨wr.heap.size, 0, none⟩) 1 1] 81 rfl (heap_alloc_at _ _ _ (by simp)) rfl rfl ⟨by omega, by omega⟩ ?_)
   intro g3 off3 c3 w7 hsl7 hfr7 hat hlt7
   have how : OwnRow wr ((wr.alloc (.cells #[.int .i64 (vI a).k, .int .i64 (vI a).n, .int .i64 (vI a).d, .string (vI a).s] 83)).alloc (.cells #[.slice (some ⟨wr.heap.size, 0, none⟩) 1 1] 81)) (.slice (some ⟨wr.heap.size, 0, none⟩) 1 1) [vI a] :=
    ⟨(World.Sl.lit wr 83 #[.int .i64 (vI a).k, .int .i64 (vI a).n, .int .i64 (vI a).d, .string (vI a).s] 1 4 (by simp [maxLen]) rfl).alloc _, fun k hk => by simp [Value.blk] at hk; subst hk; exact Nat.le_refl _, ((World.Fr.refl wr []).alloc _).alloc _⟩
   have hpush := HR.out.push how (g := g3) (off := off3) (c := c3) (by rw [Hhn.out]; exact hsl7) hfr7 (by rcases hat with h | h; exact .inl h; exact .inr (by simp; omega))
   rw [<- Hsn1.out, Hhn.out] at hpush
   have hW1 := hfr7.heap (heap_alloc_some (heap_alloc_some Hbox.out _) _) Hnb3.out
   have Hpush := Hz hpush
   clear hpush how hsl7 hfr7 hat p0 p1 pf ka
   obtain ⟨r0, r1, rf⟩ := two hW1
   have hl6 := lt_of_heap hW1
   clear hW1
   go_wp2
   go_roundw
   case rel => exact ⟨j + 1, _, _, by go_num, by omega, Hpush⟩
   case measure => simp [intOf]; omega
  ·have hd : decide ((j : Int) < (n : Int)) = false := decide_eq_false (by omega)
   have hd2 : decide (j < n) = false := decide_eq_false hlt
   obtain rfl : j = n := by omega
   rw [List.take_of_length_le (by rw [Hl.out]; exact Nat.le_refl _)] at HR
   obtain ⟨p0, p1, pf⟩ := two HR.out.box
   have hb4 : w.heap.size <= b3 := by have := Hb1.out; have := Hb3.out; omega
   have hq1 := HR.out.fr.heap Q1.out (by simp; have := Hb3.out; omega)
   obtain ⟨r0, r1, rf⟩ := two hq1
   have hl3 := lt_of_heap HR.out.box
   have hl1 := lt_of_heap hq1
   have htab : OwnTab w wr (.agg #[.slice (some ⟨b1 + 1, 0, none⟩) 1 1, .slice xa hsn.length xc]) ⟨[nmX], xsR l⟩ := by
    have hfw := Q3.out.trans HR.out.fr (fun k hk => .inr (by simp at hk; subst hk; exact hb4))
    have hz := Q3.out.size
    refine ⟨⟨_, _, hsn, rfl, ?_, HR.out.sl, HR.out.len, fun k hk => ?_, fun k hk => Nat.le_trans hz (HR.out.new k hk), fun i hv r h1 h2 => ⟨(HR.out.row i hv r h1 h2).1, fun k hk => Nat.le_trans hz ((HR.out.row i hv r h1 h2).2 k hk)⟩⟩, ⟨fun s hs => ?_, fun r hr => ?_⟩, hfw⟩
    ·exact Q2.out.fr HR.out.fr (by simp [Value.blk]; have := Hb3.out; omega)
    ·simp [Value.blk] at hk; have := Hb1.out; omega
    ·simp at hs; subst hs; simp [nmX, ByteArray.size]
    ·obtain ⟨a, ha, rfl⟩ := List.mem_map.1 hr
     simp only [List.mem_cons, List.not_mem_nil, or_false]
     rintro v rfl
     exact vI_wf (Hi.out a ha)
   have ho2 := htab.put hq1 (by have := Hb1.out; omega)
   obtain ⟨f0, f1, _⟩ := two ho2.2
   have Hfin := Hz ho2.1
   clear ho2 htab hq1 hlt hj
   go_wp2
   refine bodyPost_ret (v := .agg #[.slice (some ⟨b1 + 1, 0, none⟩) 1 1, .slice xa hsn.length xc]) (by simp [results, Tryz.results78, go_sem, f0, f1]) rfl ⟨_, rfl, Hfin.out⟩
theorem in3 : inI64 3 := by unfold inI64; omega
abbrev nilSn (t : Int) (tr : Tb) : Sn := ⟨t, nilV, nilV, nilV, nilV, ⟨[], []⟩, tr⟩
abbrev nxX : FS := ⟨⟨1, 2, false⟩, false, [], [nmX], [], 0, -1, 1, true⟩
abbrev soX : FS := ⟨⟨0, 1, false⟩, false, [], [nmX], [], 0, -1, 1, false⟩
theorem nx_begin : beginF ⟨1, 2, false⟩ [] [nmX] = 0 := by
 unfold beginF
 rw [if_pos (by simp [fivB])]
 unfold beginE
 rw [if_neg (by simp [ivB]), if_neg (fun h => h.elim (fun h => h namesN) (fun h => h namesX)), if_pos (by simp)]
theorem so_begin : beginF ⟨0, 1, false⟩ [] [nmX] = 0 := by
 unfold beginF
 rw [if_pos (by simp [fivB])]
 unfold beginE
 rw [if_neg (by simp [ivB]), if_neg (fun h => h.elim (fun h => h namesN) (fun h => h namesX)), if_pos (by simp)]
theorem op_begin : beginF ⟨0, 0, true⟩ [] [nmX] = 1 := by
 unfold beginF
 rw [if_neg (by simp [fivB])]
theorem nx_px : fbeginX ⟨1, 2, false⟩ false [] [nmX] 1 true = nxX := by simp [fbeginX, fbeginS, sortN, sortX]
theorem so_px : fbeginX ⟨0, 1, false⟩ false [] [nmX] 1 false = soX := by simp [fbeginX, fbeginS, sortN, sortX]
section
variable {cf : V -> V -> Int}
theorem fwrong_one {X : FS} {n : Int} {t : Tb} (hn : 0 <= n /\ n <= 1099511627776) (hx : X.time <= n) (hp : X.parts = 1) (ht : Good cf t) (hv : t.vars = X.right) : wrongE cf X.ps n [t] = 0 := wrong_one (X := X.ps.px) hn hx hp ht hv
theorem nx_step0 : stepX cf nxX 0 [xT [1]] = (0, [], { nxX with pts := [nilSn 0 (xT [1])], time := 0 }) := by
 have hw : wrongE cf nxX.ps 0 [xT [1]] = 0 := fwrong_one (by decide) (by decide) rfl (xT1_good in1) rfl
 unfold stepX stepF
 rw [hw, if_pos rfl, drainF_no (k0 := nilSn 0 (xT [1])) rfl rfl]
 rfl
theorem nx_step1 : stepX cf { nxX with pts := [nilSn 0 (xT [1])], time := 0 } 1 [xT [2]] = (0, [(0, 0, xT [2])], { nxX with pts := [nilSn 1 (xT [2])], time := 1, told := 1 }) := by
 have hw : wrongE cf ({ nxX with pts := [nilSn 0 (xT [1])], time := 0 } : FS).ps 1 [xT [2]] = 0 := fwrong_one (by decide) (by decide) rfl (xT1_good in2) rfl
 unfold stepX stepF
 rw [hw, if_pos rfl, drainF_yes (k0 := nilSn 0 (xT [1])) rfl rfl, drainF_no (k0 := nilSn 1 (xT [2])) rfl rfl]
 rfl
theorem so_step0 : stepX cf soX 0 [xT [1]] = (0, [], { soX with pts := [nilSn 0 (xT [1])], time := 0 }) := by
 have hw : wrongE cf soX.ps 0 [xT [1]] = 0 := fwrong_one (by decide) (by decide) rfl (xT1_good in1) rfl
 unfold stepX stepF
 rw [hw, if_pos rfl, drainF_no (k0 := nilSn 0 (xT [1])) rfl rfl]
 rfl
theorem so_step1 : stepX cf { soX with pts := [nilSn 0 (xT [1])], time := 0 } 1 [xT [2]] = (0, [], { soX with pts := [nilSn 0 (xT [1]), nilSn 1 (xT [2])], time := 1 }) := by
 have hw : wrongE cf ({ soX with pts := [nilSn 0 (xT [1])], time := 0 } : FS).ps 1 [xT [2]] = 0 := fwrong_one (by decide) (by decide) rfl (xT1_good in2) rfl
 unfold stepX stepF
 rw [hw, if_pos rfl, drainF_no (k0 := nilSn 0 (xT [1])) rfl rfl]
 rfl
theorem xT2_good (h : cf (vI 1) (vI 2) < 0) : Good cf (xT [1, 2]) :=
 ⟨by simp [xT], by simp [xT], by simp [xT, xsR], by
  simp only [xT, xsR, List.map_cons, List.map_nil, List.mem_cons, List.not_mem_nil, or_false]
  rintro r (rfl | rfl) x hx
  ·simp at hx; subst hx; exact vI_okW 1 in1
  ·simp at hx; subst hx; exact vI_okW 2 in2, by
  simp only [xT, xsR, List.map_cons, List.map_nil, List.pairwise_cons, List.mem_cons, List.not_mem_nil, or_false, forall_eq, List.Pairwise.nil, and_true, false_implies, implies_true]
  unfold rlt rcmp
  have : cf (vI 1) (vI 2) ≠ 0 := by omega
  simp [this, h]⟩
theorem so_step2 (hO : OrdOk okW cf) (h12 : cf (vI 1) (vI 2) < 0) : stepX cf { soX with pts := [nilSn 0 (xT [1]), nilSn 1 (xT [2])], time := 1 } 2 [xT [3]] = (0, [(0, 0, xT [1, 2])], { soX with pts := [nilSn 1 (xT [2]), nilSn 2 (xT [3])], time := 2, told := 1 }) := by
 have hw : wrongE cf ({ soX with pts := [nilSn 0 (xT [1]), nilSn 1 (xT [2])], time := 1 } : FS).ps 2 [xT [3]] = 0 := fwrong_one (by decide) (by decide) rfl (xT1_good in3) rfl
 have ht : tellF cf ({ soX with pts := [nilSn 0 (xT [1]), nilSn 1 (xT [2]), nilSn 2 (xT [3])], time := 2 } : FS) (nilSn 0 (xT [1])) = xT [1, 2] := by
  unfold tellF
  rw [if_neg (by decide)]
  show untilTo cf _ 0 3 = _
  rw [untilTo_step (k := nilSn 2 (xT [3])) rfl, if_neg (by decide), untilTo_step (k := nilSn 1 (xT [2])) rfl, if_pos (by decide), untilTo_step (k := nilSn 0 (xT [1])) rfl, if_pos (by decide), heldU_one rfl, heldU_one rfl]
  show (unionT cf (unionT cf ⟨[nmX], []⟩ (xT [1])).2 (xT [2])).2 = _
  rw [show (unionT cf ⟨[nmX], []⟩ (xT [1])).2 = xT [1] from union_none (t := xT [1]) hO (xT1_good in1)]
  obtain ⟨h1, h2, h3, h4⟩ := union_small hO (a := xT [1]) (b := xT [2]) (xT1_good in1) (xT1_good in2) rfl
  exact good_ext hO h1 (xT2_good h12) (fun s => by rw [h2]; rfl) (fun r => by rw [h4]; simp [xT, xsR])
 unfold stepX stepF
 rw [hw, if_pos rfl, drainF_yes (k0 := nilSn 0 (xT [1])) rfl rfl, drainF_no (k0 := nilSn 1 (xT [2])) rfl rfl]
 show (0, [(0, 0, tellF cf _ _)], _) = _
 rw [<- ht]
 rfl
end
end
section
open Go.RowKit Go.ChangeShapes Go.WideShapes Go.ChangeAt Go.Joins
section
variable {H : Type} {enc : TypeId × Value -> H} {w : World} {fuel : Nat} {x : DataW H × List MemPlace}
theorem cellsOf61 : Tryz.prog.cellsOf 61 = 3 := by kernel_rfl
local instance instInhS14 : Inhabited (SD × Value) := ⟨(⟨0, [], false⟩, .slice none 0 0)⟩
theorem open_stepU14 {cs : List Value} (h : tr enc w fuel 61 cs = some x) : ∃ q : SD × Value, cs = [.int .i64 q.1.time, q.2, .bool q.1.clone] /\ RdTabs w q.2 q.1.tabs /\ (Bk x.1 -> SDU q.1) := by
 obtain ⟨y0, y1, y2, n, rfl, hl, h0, h1, h2⟩ := Go.Deep.trod_struct3 Tryz.underlying61 h
 rw [cellsOf61] at hl
 match cs, hl with
 | [c0, c1, c2], _ =>
  simp only [cellsOf37, cellsOf2, cellsOf4, List.drop_zero, List.drop_succ_cons, List.take_succ_cons, List.take_zero] at h0 h1 h2
  obtain ⟨a, e0, _, w0⟩ := DataW.trod_int Tryz.underlying2 h0
  obtain ⟨ts, hv, hvu⟩ := open_tabsU h1
  obtain ⟨b, e2, _⟩ := DataW.trod_bool Tryz.underlying4 h2
  simp only [List.cons.injEq, and_true] at e0 e2
  subst e0 e2
  refine ⟨(⟨a, ts, b⟩, c1), rfl, hv, fun hB => ?_⟩
  have b1 := hvu (bk_agg hB _ (by simp))
  exact ⟨b1.1, b1.2⟩
theorem open_stepsU14 {v : Value} (h : tr enc w fuel 55 [v] = some x) : ∃ ss : List SD, RdSteps w v ss /\ (Bk x.1 -> ss.length <= 1048576 /\ ∀ s, s ∈ ss -> SDU s) := by
 obtain ⟨l, D, hr, hn, hp⟩ := open_rd (α := SD × Value) Tryz.underlying55 cellsOf61 (by decide) (fun q => [.int .i64 q.1.time, q.2, .bool q.1.clone]) (fun _ => rfl) (fun q d => RdTabs w q.2 q.1.tabs /\ (Bk d -> SDU q.1)) (fun _ _ _ h => open_stepU14 h) h
 refine ⟨l.map (·.1), ⟨l, rfl, by rw [List.length_map]; exact hr, fun q hq => ?_⟩, fun hL => ?_⟩
 ·obtain ⟨i, hi⟩ := List.getElem?_of_mem hq
  exact (hp i q hi).1
 ·have := bk_nil hn hL
  refine ⟨by rw [List.length_map]; exact this.1, fun t ht => ?_⟩
  obtain ⟨q, hq, rfl⟩ := List.mem_map.1 ht
  obtain ⟨i, hi⟩ := List.getElem?_of_mem hq
  exact (hp i q hi).2 (this.2 i (List.getElem?_eq_some_iff.1 hi).1)
end
theorem many30 {w : World} {v : Value} {ss : List SD} (h : RdSteps w v ss) (hl : ss.length <= 1048576) (hu : ∀ s, s ∈ ss -> SDU s) :
  Calls Tryz.prog 30 #[v] w fun e w' => e = .returned (.int .i64 (rowsAll ss : Int)) /\ w.Fr w' [] := by
 have hall : rowsAll ss <= 1048576 * 1099511627776 := Nat.le_trans (rowsAll_le ss hu) (Nat.mul_le_mul_right _ hl)
 obtain ⟨v1, v2, rfl⟩ := h.shape
 obtain ⟨N, hN⟩ : ∃ N, ss.length = N := ⟨_, rfl⟩
 rw [hN] at h ⊢
 have H := Hz h; have HN := Hz hN; have HU := Hz hu; have HA := Hz hall; have HL := Hz hl
 have HF0 := Hz (World.Fr.refl w [])
 clear h hN hu hall hl
 go_enter Tryz.func30, Tryz.ntmps30
 go_wp2
 go_loopw [3, 8] (fun n i wr => ∃ (j m : Nat), i = .int .i64 j /\ n = .int .i64 m /\ j <= N /\ Hid (rowsAll (ss.take j) = m) /\ Hid (w.Fr wr [])) (fun _ i _ => (N - intOf i).toNat)
 case atStart => exact ⟨0, 0, rfl, rfl, Nat.zero_le _, Hz rfl, HF0⟩
 case round =>
  obtain ⟨j, m, rfl, rfl, hj, HM, HF⟩ := hrel
  clear HF0
  by_cases hlt : j < N
  ·obtain ⟨s, hs⟩ : ∃ s, ss[j]? = some s := ⟨ss[j]'(by have := HN.out; omega), List.getElem?_eq_getElem _⟩
   obtain ⟨g, off, c, a, mm, hv, hg, k0, k1, k2, hrd⟩ := (H.out.still HF.out).at hs
   rw [HN.out] at hv
   cases hv
   have hjI : (j : Int) < (N : Int) := by omega
   have hw1 : IntKind.i64.wrap ((j : Int) + 1) = (j : Int) + 1 := IntWalk.i64_in _ (by have := HN.out; have := HL.out; omega)
   have hnn : (0 : Int) <= (j : Int) := by omega
   have hu := HU.out s (List.mem_of_getElem? hs)
   have hst := rowsAll_take hs
   rw [HM.out] at hst
   have hle : m + rowsOf s.tabs <= 1048576 * 1099511627776 := by
    rw [<- hst]
    refine Nat.le_trans ?_ HA.out
    unfold rowsAll
    conv => rhs; rw [<- List.take_append_drop (j + 1) ss, List.map_append, List.sum_append]
    omega
   obtain ⟨k, hk⟩ : ∃ k, rowsOf s.tabs = k := ⟨_, rfl⟩
   rw [hk] at hst hle
   have hw2 : IntKind.i64.wrap ((m : Int) + (k : Int)) = (m : Int) + (k : Int) := IntWalk.i64_in _ (by omega)
   have hf9 := (World.Fr.refl wr []).alloc (.cells #[.int .i64 s.time, .slice a s.tabs.length mm, .bool s.clone] 61)
   have q9 := heap_alloc_at wr (.cells #[.int .i64 s.time, .slice a s.tabs.length mm, .bool s.clone] 61) _ rfl
   have hc := many57 (hrd.still hf9) hu.len (fun t ht => (hu.tab t ht).rows)
   rw [hk] at hc
   have Hc := Hz hc; have Hst := Hz hst; have HF := Hz (HF.out.trans hf9 (by simp))
   clear hc hst hle hk hu hs hrd hf9
   go_upto_region 5 with (fail)
   generalize hWW : World.alloc wr _ = w5 at *
   clear hWW
   obtain ⟨t0, t1, t2, tf⟩ := tri q9
   have hz9 := lt_of_heap q9
   clear q9 k0 k1 k2 hg
   go_wp2_with fail
   (with_reducible refine Hc.out.mono ?_)
   rintro e w6 ⟨rfl, rfl⟩
   go_wp2
   go_roundw
   case rel => exact ⟨j + 1, m + k, by go_num, by go_num, by omega, Hst, HF⟩
   case measure => simp [intOf]; omega
  ·have hd : decide ((j : Int) < (N : Int)) = false := decide_eq_false (by omega)
   have hd2 : decide (j < N) = false := decide_eq_false hlt
   have hm := HM.out
   rw [List.take_of_length_le (by rw [HN.out]; omega)] at hm
   have Hm := Hz hm; clear hm HM hlt hj
   go_wp2
   go_ret
   exact ⟨by rw [Hm.out]; rfl, HF.out⟩
end
section
open Go.RowKit
abbrev anyB : Nat -> Prop := fun _ => True
theorem VdAt.off {P Q : Nat -> Prop} {w w' : World} {v : Value} {ks : List Vd} {p : Nat} {X : FS} {B : List Nat} (h : VdAt P w v ks) (ho : FutOp Q w p X B) (hf : w.Fr w' B) : VdAt P w' v ks := by
 refine h.fr hf ho.odd (fun k hk => ?_)
 rcases h.sl.2 with ⟨rfl, _⟩ | ⟨g, off, cap, cur, rfl, hg, _⟩
 ·simp [Value.blk] at hk
 ·simp [Value.blk] at hk
  subst hk
  exact ho.ne hg (by decide) (by decide)
theorem FutOp.keep {Q : Nat -> Prop} {w w' : World} {p : Nat} {X : FS} {B : List Nat} (ho : FutOp Q w p X B) (hf : w.Fr w' B) {g : Nat} {cs : Array Value} {T : TypeId} (hg : w.heap[g]? = some (.cells cs T (0, 0))) (h1 : T ≠ 119) (h2 : T ≠ 121) : w'.heap[g]? = some (.cells cs T (0, 0)) := hf.heap hg (ho.ne hg h1 h2)
structure FV (w W : World) (k1 : Nat) (X : FS) (B1 : List Nat) (k2 : Nat) (Y : FS) (B2 : List Nat) : Prop where
 p : FutOp anyB W k1 X B1
 s : FutOp anyB W k2 Y B2
 dj : ∀ k, k ∈ B1 -> k ∉ B2
 b1 : ∀ k, k ∈ B1 -> w.heap.size <= k
 b2 : ∀ k, k ∈ B2 -> w.heap.size <= k
 fr : w.Fr W []
theorem FV.still {w W W' : World} {k1 : Nat} {X : FS} {B1 : List Nat} {k2 : Nat} {Y : FS} {B2 : List Nat} (h : FV w W k1 X B1 k2 Y B2) (hf : W.Fr W' []) : FV w W' k1 X B1 k2 Y B2 :=
 ⟨h.p.still hf, h.s.still hf, h.dj, h.b1, h.b2, h.fr.trans hf (by simp)⟩
theorem FV.stepP {w W W' : World} {k1 : Nat} {X X' : FS} {B1 B1' : List Nat} {k2 : Nat} {Y : FS} {B2 : List Nat} (h : FV w W k1 X B1 k2 Y B2) (ho : FutOp anyB W' k1 X' B1') (hb : ∀ k, k ∈ B1' -> k ∈ B1 ∨ W.heap.size <= k) (hf : W.Fr W' B1) : FV w W' k1 X' B1' k2 Y B2 :=
 ⟨ho, h.s.fr hf h.p.odd (fun k hk hm => h.dj k hm hk), fun k hk hm => (hb k hk).elim (fun h1 => h.dj k h1 hm) (fun h1 => by have := h.s.lt k hm; omega), fun k hk => (hb k hk).elim (h.b1 k) (fun h1 => Nat.le_trans h.fr.size h1), h.b2,
  h.fr.trans hf (fun k hk => .inr (h.b1 k hk))⟩
theorem FV.stepS {w W W' : World} {k1 : Nat} {X : FS} {B1 : List Nat} {k2 : Nat} {Y Y' : FS} {B2 B2' : List Nat} (h : FV w W k1 X B1 k2 Y B2) (ho : FutOp anyB W' k2 Y' B2') (hb : ∀ k, k ∈ B2' -> k ∈ B2 ∨ W.heap.size <= k) (hf : W.Fr W' B2) : FV w W' k1 X B1 k2 Y' B2' :=
 ⟨h.p.fr hf h.s.odd (fun k hk hm => h.dj k hk hm), ho, fun k hk hm => (hb k hm).elim (fun h1 => h.dj k hk h1) (fun h1 => by have := h.p.lt k hk; omega), h.b1, fun k hk => (hb k hk).elim (h.b2 k) (fun h1 => Nat.le_trans h.fr.size h1),
  h.fr.trans hf (fun k hk => .inr (h.b2 k hk))⟩
theorem xs78_lit (n : Int) (hi : inI64 n) (W : World) : Calls Tryz.prog 78 #[.slice (some ⟨W.heap.size, 0, none⟩) 1 1] (W.alloc (.cells #[.int .i64 n] 2)) fun e w' => ∃ x1 y1 x2 y2, e = .returned (.agg #[.slice x1 1 y1, .slice x2 1 y2]) /\ Hid (OwnTab W w' (.agg #[.slice x1 1 y1, .slice x2 1 y2]) (xT [n])) := by
 have hs := World.Sl.lit W 2 #[.int .i64 n] 1 1 (by simp [maxLen]) rfl
 refine (xs78 (l := [n]) hs.rd (by simp) (by simpa using hi)).mono fun e w' ⟨v, he, ho⟩ => ?_
 obtain ⟨x1, y1, x2, y2, rfl⟩ := ho.shape
 exact ⟨x1, y1, x2, y2, he, Hz (ho.since ((World.Fr.refl W []).alloc _))⟩
theorem xs78_at {l : List Int} (n : Nat) (hl : l.length = n) (h10 : n <= 10) (hi : ∀ x, x ∈ l -> inI64 x) {W : World} {B : Nat} (hB : W.heap[B]? = some (.cells (icells l).toArray 2 (0, 0))) : Calls Tryz.prog 78 #[.slice (some ⟨B, 0, none⟩) n n] W fun e w' => ∃ x1 y1 x2 y2, e = .returned (.agg #[.slice x1 1 y1, .slice x2 n y2]) /\ Hid (OwnTab W w' (.agg #[.slice x1 1 y1, .slice x2 n y2]) (xT l)) := by
 subst hl
 have hs : W.Sl 2 1 (.slice (some ⟨B, 0, none⟩) l.length l.length) l.length (icells l) := ⟨by simp [icells], .inr ⟨B, 0, l.length, _, rfl, hB, Nat.le_refl _, by unfold maxLen; omega, by simp [icells], by have h : (icells l).take l.length = icells l := List.take_of_length_le (by simp [icells]); simp [h]⟩⟩
 refine (xs78 (l := l) hs.rd (by omega) hi).mono fun e w' ⟨v, he, ho⟩ => ?_
 obtain ⟨x1, y1, x2, y2, rfl⟩ := ho.shape
 have hlen : (xsR l).length = l.length := by simp [xsR]
 simp only [hlen, List.length_cons, List.length_nil] at he ho
 exact ⟨x1, y1, x2, y2, he, Hz ho⟩
theorem nx_call {cf : V -> V -> Int} (hK : Ctx V.wf cf) (W : World) : Calls Tryz.prog 77 #[.agg #[.int .i64 1, .int .i64 2, .bool false], .slice (some ⟨W.heap.size, 0, none⟩) 1 1] (W.alloc (.cells #[.string ⟨#[120]⟩] 9)) fun e w' => ∃ k, e = .returned (.tuple #[.pointer (some ⟨k, 0, none⟩), .int .i64 0]) /\ Hid (FutOp anyB w' k nxX [k] /\ W.heap.size <= k /\ W.Fr w' []) := by
 have hc := next77 hK (Q := anyB) (fun _ _ => trivial) (i := ⟨1, 2, false⟩) (strx W) (by simp)
 rw [nx_begin] at hc
 refine hc.mono fun e w' ⟨⟨p, he, hp⟩, hf⟩ => ?_
 rcases hp with ⟨h, _⟩ | ⟨_, k, vl, vr, rfl, hk, hpa⟩
 ·exact absurd rfl h
 ·have hf1 := (World.Fr.refl W []).alloc (.cells #[.string ⟨#[120]⟩] 9)
  refine ⟨k, he, Hz ⟨?_, Nat.le_trans hf1.size hk, hf1.trans hf (by simp)⟩⟩
  have := FutOp.begun hpa
  rw [nx_px] at this
  exact this
theorem so_call {cf : V -> V -> Int} (hK : Ctx V.wf cf) (W : World) : Calls Tryz.prog 31 #[.agg #[.int .i64 0, .int .i64 1, .bool false], .slice (some ⟨W.heap.size, 0, none⟩) 1 1] (W.alloc (.cells #[.string ⟨#[120]⟩] 9)) fun e w' => ∃ k, e = .returned (.tuple #[.pointer (some ⟨k, 0, none⟩), .int .i64 0]) /\ Hid (FutOp anyB w' k soX [k] /\ W.heap.size <= k /\ W.Fr w' []) := by
 have hc := soon31 hK (Q := anyB) (fun _ _ => trivial) (i := ⟨0, 1, false⟩) (strx W) (by simp)
 rw [so_begin] at hc
 refine hc.mono fun e w' ⟨⟨p, he, hp⟩, hf⟩ => ?_
 rcases hp with ⟨h, _⟩ | ⟨_, k, vl, vr, rfl, hk, hpa⟩
 ·exact absurd rfl h
 ·have hf1 := (World.Fr.refl W []).alloc (.cells #[.string ⟨#[120]⟩] 9)
  refine ⟨k, he, Hz ⟨?_, Nat.le_trans hf1.size hk, hf1.trans hf (by simp)⟩⟩
  have := FutOp.begun hpa
  rw [so_px] at this
  exact this
theorem op_call {cf : V -> V -> Int} (hK : Ctx V.wf cf) (W : World) : Calls Tryz.prog 31 #[.agg #[.int .i64 0, .int .i64 0, .bool true], .slice (some ⟨W.heap.size, 0, none⟩) 1 1] (W.alloc (.cells #[.string ⟨#[120]⟩] 9)) fun e w' => e = .returned (.tuple #[.pointer none, .int .i64 1]) /\ W.Fr w' [] := by
 have hc := soon31 hK (Q := anyB) (fun _ _ => trivial) (i := ⟨0, 0, true⟩) (strx W) (by simp)
 rw [op_begin] at hc
 refine hc.mono fun e w' ⟨⟨p, he, hp⟩, hf⟩ => ?_
 rcases hp with ⟨_, rfl⟩ | ⟨h, _⟩
 ·exact ⟨he, ((World.Fr.refl W []).alloc _).trans hf (by simp)⟩
 ·cases h
theorem fstep_one {cf : V -> V -> Int} (hK : Ctx V.wf cf) {Q : Nat -> Prop} {w : World} (hQ : ∀ b, w.heap.size <= b -> Q b) {p : Nat} {X X' : FS} {B : List Nat} {a b : Value} {t : Tb} {g : Nat} {n E : Int} {L : List (Int × Int × Tb)} {ln : Nat} (h : FutOp Q w p X B) (hO : FOk cf X) (hm : X.told + X.pts.length + 1 <= 1000) (hg : w.heap[g]? = some (.cells #[a, b] 34 (0, 0))) (h1 : SlTab w (.agg #[a, b]) t) (f1 : Fits V.wf t) (r1 : t.rows.length <= 600) (hst : stepX cf X n [t] = (E, L, X')) (hln : L.length = ln) :
  Calls Tryz.prog 33 #[.pointer (some ⟨p, 0, none⟩), .int .i64 n, .slice (some ⟨g, 0, none⟩) 1 1] w fun e w' => ∃ z1 z2 B', e = .returned (.tuple #[.slice z1 ln z2, .int .i64 E]) /\ Hid (FOk cf X' /\ FutOp Q w' p X' B' /\ (∃ vs, VdAt anyB w' (.slice z1 ln z2) vs /\ vs.map Vd.tt = L) /\ (∀ k, k ∈ B' -> k ∈ B ∨ w.heap.size <= k) /\ w.Fr w' B) := by
 have hc := fstep33 hK hQ (v := .slice (some ⟨g, 0, none⟩) 1 1) (ts := [t]) (n := n) h (tabs_one hg h1) hO (by simp) (by simp only [List.mem_cons, List.not_mem_nil, or_false]; rintro t rfl; assumption) hm (fun _ => by simp only [List.mem_cons, List.not_mem_nil, or_false]; rintro t rfl; assumption)
 rw [hst] at hc
 refine hc.mono fun e w' ⟨u, m, B', vs, he, hd⟩ => ?_
 obtain ⟨z1, z2, rfl⟩ := hd.told.shape
 have hl : vs.length = L.length := by have := congrArg List.length hd.eq; rw [hst] at this; simpa using this
 have e1 := hd.eq
 have e2 := hd.ok
 have e3 := hd.op
 rw [hst] at e1 e2 e3
 rw [hl, hln] at he hd
 exact ⟨z1, z2, B', he, Hz ⟨e2, e3.imp (fun k _ h => h.1), ⟨vs, ⟨hd.told.sl, fun k hk => (hd.told.tab k hk).imp (fun _ _ _ => trivial)⟩, e1⟩, fun k hk => (hd.blk k hk).2, hd.fr⟩⟩
theorem Half.two {cf : V -> V -> Int} {X : FS} (h : Half cf X) (ho : FOk cf X) : FOk cf (twoF X) :=
 ⟨ho.upl, ho.up, ho.le8, .inr rfl, ho.sub, ho.time, ho.times, ho.good, fun _ k hk => by
  have h1 := h.no k hk
  show Good cf k.tl /\ k.tl.vars = X.left /\ k.tl.rows.length <= 600
  rw [h1, h.left]
  exact ⟨noT_good, rfl, by simp⟩, ho.many, ho.told, ho.iv⟩
theorem fwaits35 {Q : Nat -> Prop} {w : World} {p : Nat} {X : FS} {B : List Nat} (h : FutOp Q w p X B) :
  Calls Tryz.prog 35 #[.pointer (some ⟨p, 0, none⟩)] w fun e w' => e = .returned (.int .i64 X.pts.length) /\ w = w' := by
 obtain ⟨S, vl, vr, vp, rfl, hp, rfl⟩ := h
 have := waits35 hp
 rwa [show S.pts.length = (bareF S).pts.length by simp [bareF]] at this
theorem nxX_ok {cf : V -> V -> Int} : FOk cf nxX := by
 have := beginF_ok (cf := cf) (nt := false) (nx := true) nx_begin (.inl rfl)
 rwa [nx_px] at this
theorem soX_ok {cf : V -> V -> Int} : FOk cf soX := by
 have := beginF_ok (cf := cf) (nt := false) (nx := false) so_begin (.inl rfl)
 rwa [so_px] at this
structure SnI (cf : V -> V -> Int) (w wr : World) (p1 : Nat) (X : FS) (B1 : List Nat) (p2 : Nat) (B2 : List Nat) (j : Nat) : Prop where
 lv : FV w wr p1 X B1 p2 (twoF X) B2
 ok : FOk cf X
 half : Half cf X
 few : X.told + X.pts.length <= j
theorem SnI.still {cf : V -> V -> Int} {w wr w' : World} {p1 : Nat} {X : FS} {B1 : List Nat} {p2 : Nat} {B2 : List Nat} {j : Nat} (h : SnI cf w wr p1 X B1 p2 B2 j) (hf : wr.Fr w' []) : SnI cf w w' p1 X B1 p2 B2 j := ⟨h.lv.still hf, h.ok, h.half, h.few⟩
theorem SnI.more {cf : V -> V -> Int} {w wr : World} {p1 : Nat} {X : FS} {B1 : List Nat} {p2 : Nat} {B2 : List Nat} {j : Nat} (h : SnI cf w wr p1 X B1 p2 B2 j) : SnI cf w wr p1 X B1 p2 B2 (j + 1) := ⟨h.lv, h.ok, h.half, by have := h.few; omega⟩
end
end Go.Proofs.YtbejmdlncnkaaaaGreat
