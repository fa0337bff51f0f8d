/-
  The statements' xs: the table of x with some rows. Package past: what live's calls answer, plainly; tables in a slice of the call's own. Package past: the walk of the statements' live.
-/
import Derived.Test.YtbejmdlncnkaaaaGreatTbY
import Derived.Test.YtbejmdlncnkaaaaGreatPaD
import Derived.Test.YtbejmdlncnkaaaaGreatRsr
import Derived.Deep.RegionHeld3
set_option maxRecDepth 100000
set_option maxHeartbeats 16000000
set_option linter.unusedSimpArgs false
namespace Go.Proofs.YtbejmdlncnkaaaaGreat
section
open Go.RowKit
def xsR (l : List Int) : List Row := l.map fun n => [vI n]
theorem xsR_take {l : List Int} {j : Nat} {a : Int} (h : l[j]? = some a) : xsR (l.take (j + 1)) = xsR (l.take j) ++ [[vI a]] := by
 have hlt := (List.getElem?_eq_some_iff.1 h).1
 unfold xsR
 rw [List.take_succ_eq_append_getElem hlt, (List.getElem?_eq_some_iff.1 h).2, List.map_append]
 rfl
theorem xs56 {w : World} {v : Value} {l : List Int} (h : w.Rd 1 v l.length (icells l)) (hn : l.length <= 100) (hi : ∀ x, x ∈ l -> inI64 x) :
  Calls Tryz.prog 56 #[v] w fun e w' => ∃ v', e = .returned v' /\ OwnTab w w' v' ⟨[nmX], xsR l⟩ := by
 obtain ⟨a1, c1, rfl, _, _⟩ := h.shape
 obtain ⟨n, hl⟩ : ∃ n, l.length = n := ⟨_, rfl⟩
 rw [hl] at h ⊢
 rw [hl] at hn
 have H := Hz h; have Hl := Hz hl; have Hn := Hz hn; have Hi := Hz hi; clear h hl hn hi
 go_enter Tryz.func56, Tryz.ntmps56
 go_upto_region 3 with (fail)
 generalize hW : World.alloc (World.alloc (World.alloc w _) _) _ = W
 have q1 : W.heap[w.heap.size]? = some (.cells #[.slice none 0 0, .slice none 0 0] 34 (0, 0)) := by rw [<- hW]; exact heap_alloc_some (heap_alloc_some (heap_alloc_at _ _ _ rfl) _) _
 have q2 : W.Sl 9 1 (.slice (some ⟨w.heap.size + 1, 0, none⟩) 1 1) 1 [.string ⟨#[120]⟩] := by
  rw [<- hW]
  have := (World.Sl.lit (w.alloc (.cells #[.slice none 0 0, .slice none 0 0] 34)) 9 #[.string ⟨#[120]⟩] 1 1 (by simp [maxLen]) rfl).alloc (.cells #[.slice (some ⟨w.heap.size + 1, 0, none⟩) 1 1, .slice none 0 0] 34)
  simpa using this
 have q4 : W.heap[w.heap.size + 1 + 1]? = some (.cells #[.slice (some ⟨w.heap.size + 1, 0, none⟩) 1 1, .slice none 0 0] 34 (0, 0)) := by rw [<- hW]; exact heap_alloc_at _ _ _ (by simp)
 have q3 : w.Fr W [] := by rw [<- hW]; exact (((World.Fr.refl w []).alloc _).alloc _).alloc _
 clear hW
 have HR0 : Hid (RV W W (w.heap.size + 1 + 1) (.slice (some ⟨w.heap.size + 1, 0, none⟩) 1 1) (.slice none 0 0) [] []) := Hz ⟨q4, World.Sl.nil _ _ _, rfl, by simp [Value.blk], by simp, World.Fr.refl _ _⟩
 have hlb := lt_of_heap q4
 generalize hb1 : w.heap.size = b1 at *
 generalize hb3 : b1 + 1 + 1 = b3 at *
 have Hb1 := Hz hb1; have Hb3 := Hz hb3; have Q1 := Hz q1; have Q2 := Hz q2; have Q3 := Hz q3; have Hlb := Hz hlb
 clear hb1 hb3 q1 q2 q3 q4 hlb
 go_loopw [10] (fun i wr => ∃ (j : Nat) (vb : Value) (hsn : List Value), i = .int .i64 j /\ j <= n /\ Hid (RV W wr b3 (.slice (some ⟨b1 + 1, 0, none⟩) 1 1) vb hsn (xsR (l.take j)))) (fun i _ => (n - intOf i).toNat)
 case atStart => exact ⟨0, _, [], rfl, Nat.zero_le _, HR0⟩
 case round =>
  obtain ⟨j, vb, hsn, rfl, hj, HR⟩ := hrel
  obtain ⟨xa, xc, rfl, _, _⟩ := HR.out.sl.shape
  by_cases hlt : j < n
  ·have hjI : (j : Int) < (n : Int) := by omega
   have hw1 : IntKind.i64.wrap ((j : Int) + 1) = (j : Int) + 1 := IntWalk.i64_in _ (by have := Hn.out; omega)
   have hnn : (0 : Int) <= (j : Int) := by omega
   obtain ⟨a, ha⟩ : ∃ a, l[j]? = some a := ⟨l[j]'(by have := Hl.out; omega), List.getElem?_eq_getElem _⟩
   have hsn1 := xsR_take ha
   obtain ⟨p0, p1, pf⟩ := two HR.out.box
   have hfw := Q3.out.trans HR.out.fr (fun k hk => .inr (by simp at hk; subst hk; have := Hb1.out; have := Hb3.out; omega))
   obtain ⟨g, off, c, hv, _, _, hg, kcs⟩ := (H.out.fr hfw (by simp)).form (by omega)
   cases hv
   have ka := kcs j (by omega)
   clear kcs
   rw [List.getElem?_map, ha] at ka
   simp only [Option.map_some] at ka
   have hl3 : b3 < wr.heap.size := lt_of_heap HR.out.box
   have hnb3 : b3 ∉ (Value.slice xa hsn.length xc).blk := fun hk => sl_box HR.out.sl HR.out.box (by decide) b3 hk rfl
   have Hsn1 := Hz hsn1; have Hbox := Hz HR.out.box
   have Hnb3 := Hz hnb3
   clear hsn1 ha hnb3 hfw
   have Hslr := Hz HR.out.sl
   generalize hhn : hsn.length = hn at *
   have Hhn := Hz hhn; clear hhn
   have hroom : hn < 210 := by
    have e1 := Hhn.out
    have e2 := HR.out.len
    have e4 : (l.take j).length <= j := List.length_take_le _ _
    have e3 : (xsR (l.take j)).length = (l.take j).length := by simp [xsR]
    have := Hn.out
    omega
   obtain ⟨ih, hih, hh0, hh1, hh2⟩ := info_parts infoH
   go_wp2_with (at_builtin; refine wpList_append_one _ rfl (.tmp 15) (.tmp 19) 32 rfl 81 ih (.slice none 0 0) 1 24 Tryz.underlying32 hih hh0 hh1 hh2 rfl (.slice xa hn xc) hn hsn rfl (World.Sl.alloc (World.Sl.alloc Hslr.out _) _) (wr.heap.size + 1) 1 [.slice (some ⟨wr.heap.size, 0, none⟩) 1 1] 81 rfl (heap_alloc_at _ _ _ (by simp)) rfl rfl ⟨by omega, by omega⟩ ?_)
   intro g3 off3 c3 w7 hsl7 hfr7 hat hlt7
   have how : OwnRow wr ((wr.alloc (.cells #[.int .i64 (vI a).k, .int .i64 (vI a).n, .int .i64 (vI a).d, .string (vI a).s] 83)).alloc (.cells #[.slice (some ⟨wr.heap.size, 0, none⟩) 1 1] 81)) (.slice (some ⟨wr.heap.size, 0, none⟩) 1 1) [vI a] :=
    ⟨(World.Sl.lit wr 83 #[.int .i64 (vI a).k, .int .i64 (vI a).n, .int .i64 (vI a).d, .string (vI a).s] 1 4 (by simp [maxLen]) rfl).alloc _, fun k hk => by simp [Value.blk] at hk; subst hk; exact Nat.le_refl _, ((World.Fr.refl wr []).alloc _).alloc _⟩
   have hpush := HR.out.push how (g := g3) (off := off3) (c := c3) (by rw [Hhn.out]; exact hsl7) hfr7 (by rcases hat with h | h; exact .inl h; exact .inr (by simp; omega))
   rw [<- Hsn1.out, Hhn.out] at hpush
   have hW1 := hfr7.heap (heap_alloc_some (heap_alloc_some Hbox.out _) _) Hnb3.out
   have Hpush := Hz hpush
   clear hpush how hsl7 hfr7 hat p0 p1 pf ka
   obtain ⟨r0, r1, rf⟩ := two hW1
   have hl6 := lt_of_heap hW1
   clear hW1
   go_wp2
   go_roundw
   case rel => exact ⟨j + 1, _, _, by go_num, by omega, Hpush⟩
   case measure => simp [intOf]; omega
  ·have hd : decide ((j : Int) < (n : Int)) = false := decide_eq_false (by omega)
   have hd2 : decide (j < n) = false := decide_eq_false hlt
   obtain rfl : j = n := by omega
   rw [List.take_of_length_le (by rw [Hl.out]; exact Nat.le_refl _)] at HR
   obtain ⟨p0, p1, pf⟩ := two HR.out.box
   have hb4 : w.heap.size <= b3 := by have := Hb1.out; have := Hb3.out; omega
   have hq1 := HR.out.fr.heap Q1.out (by simp; have := Hb3.out; omega)
   obtain ⟨r0, r1, rf⟩ := two hq1
   have hl3 := lt_of_heap HR.out.box
   have hl1 := lt_of_heap hq1
   have htab : OwnTab w wr (.agg #[.slice (some ⟨b1 + 1, 0, none⟩) 1 1, .slice xa hsn.length xc]) ⟨[nmX], xsR l⟩ := by
    have hfw := Q3.out.trans HR.out.fr (fun k hk => .inr (by simp at hk; subst hk; exact hb4))
    have hz := Q3.out.size
    refine ⟨⟨_, _, hsn, rfl, ?_, HR.out.sl, HR.out.len, fun k hk => ?_, fun k hk => Nat.le_trans hz (HR.out.new k hk), fun i hv r h1 h2 => ⟨(HR.out.row i hv r h1 h2).1, fun k hk => Nat.le_trans hz ((HR.out.row i hv r h1 h2).2 k hk)⟩⟩, ⟨fun s hs => ?_, fun r hr => ?_⟩, hfw⟩
    ·exact Q2.out.fr HR.out.fr (by simp [Value.blk]; have := Hb3.out; omega)
    ·simp [Value.blk] at hk; have := Hb1.out; omega
    ·simp at hs; subst hs; simp [nmX, ByteArray.size]
    ·obtain ⟨a, ha, rfl⟩ := List.mem_map.1 hr
     simp only [List.mem_cons, List.not_mem_nil, or_false]
     rintro v rfl
     exact vI_wf (Hi.out a ha)
   have ho2 := htab.put hq1 (by have := Hb1.out; omega)
   obtain ⟨f0, f1, _⟩ := two ho2.2
   have Hfin := Hz ho2.1
   clear ho2 htab hq1 hlt hj
   go_wp2
   refine bodyPost_ret (v := .agg #[.slice (some ⟨b1 + 1, 0, none⟩) 1 1, .slice xa hsn.length xc]) (by simp [results, Tryz.results56, go_sem, f0, f1]) rfl ⟨_, rfl, Hfin.out⟩
end
section
open Go.RowKit
theorem vI_okW (n : Int) (h : inI64 n) : okW (vI n) := ⟨vI_wf h, by simp [vcheck, vI, ByteArray.size]⟩
def xT (l : List Int) : Tb := ⟨[nmX], xsR l⟩
theorem xT0_good {cf : V -> V -> Int} : Good cf (xT []) := ⟨by simp [xT], by simp [xT], by simp [xT, xsR], by simp [xT, xsR], by simp [xT, xsR]⟩
theorem xT1_good {cf : V -> V -> Int} {n : Int} (h : inI64 n) : Good cf (xT [n]) :=
 ⟨by simp [xT], by simp [xT], by simp [xT, xsR], by simp only [xT, xsR, List.map_cons, List.map_nil, List.mem_cons, List.not_mem_nil, or_false]; rintro r rfl x hx; simp at hx; subst hx; exact vI_okW n h, by simp [xT, xsR]⟩
theorem sortX : sortS [nmX] = [nmX] := sortS_of_pair (by simp)
theorem namesX : NamesOk [nmX] := ⟨by simp, by simp⟩
theorem namesN : NamesOk [] := ⟨by simp, by simp⟩
theorem sortN : sortS [] = [] := sortS_of_pair List.Pairwise.nil
abbrev pvX : PX := ⟨⟨1, 2, false⟩, false, [], [nmX], -1, [], 59, 1⟩
abbrev scX : PX := ⟨⟨0, 0, true⟩, true, [nmX], [nmX], -1, [], 65, 2⟩
theorem pv_begin : beginE ⟨1, 2, false⟩ [] [nmX] = 0 := by
 unfold beginE
 rw [if_neg (by simp [ivB]), if_neg (fun h => h.elim (fun h => h namesN) (fun h => h namesX)), if_pos (by simp)]
theorem sc_begin : beginE ⟨0, 0, true⟩ [nmX] [nmX] = 0 := by
 unfold beginE
 rw [if_neg (by simp [ivB]), if_neg (fun h => h.elim (fun h => h namesX) (fun h => h namesX)), if_pos (by simp)]
theorem pv_px : beginP ⟨1, 2, false⟩ false [] [nmX] 59 1 = pvX := by simp [beginP, sortN, sortX]
theorem sc_px : beginP ⟨0, 0, true⟩ true [nmX] [nmX] 65 2 = scX := by simp [beginP, sortX]
theorem in1 : inI64 1 := by unfold inI64; omega
theorem in2 : inI64 2 := by unfold inI64; omega
section
variable {cf : V -> V -> Int}
theorem wrong_one {X : PX} {n : Int} {t : Tb} (hn : 0 <= n /\ n <= 1099511627776) (hx : X.time <= n) (hp : X.parts = 1) (ht : Good cf t) (hv : t.vars = X.right) : wrongP cf X n [t] = 0 := by
 unfold wrongP wrongE
 rw [if_neg (by simp only; omega), if_neg (by simp [hp]), if_neg (by simp [firstBad, ht.check]), if_neg]
 rintro (⟨h, _⟩ | ⟨t', h1, h2⟩)
 ·simp only at h; omega
 ·simp at h1; subst h1; exact h2 hv
theorem wrong_two {X : PX} {n : Int} {a t : Tb} (hn : 0 <= n /\ n <= 1099511627776) (hx : X.time <= n) (hp : X.parts = 2) (ha : Good cf a) (ht : Good cf t) (hl : a.vars = X.left) (hv : t.vars = X.right) : wrongP cf X n [a, t] = 0 := by
 unfold wrongP wrongE
 rw [if_neg (by simp only; omega), if_neg (by simp [hp]), if_neg (by simp [firstBad, ha.check, ht.check]), if_neg]
 rintro (⟨_, t', h1, h2⟩ | ⟨t', h1, h2⟩)
 ·simp at h1; subst h1; exact h2 hl
 ·simp at h1; subst h1; exact h2 hv
theorem union_none {t : Tb} (hO : OrdOk okW cf) (ht : Good cf t) : (unionT cf ⟨t.vars, []⟩ t).2 = t := by
 obtain ⟨h1, h2, h3, h4⟩ := union_small hO (a := ⟨t.vars, []⟩) ⟨ht.len, ht.up, by simp, by simp, by simp⟩ ht rfl
 exact good_ext hO h1 ht (fun s => by rw [h2]) (fun r => by rw [h4]; simp)
theorem anti_self {t : Tb} (hO : OrdOk okW cf) (ht : Good cf t) : (antiT cf t t).2.rows = [] := by
 obtain ⟨u, e, hu, hw, hm⟩ := antiT_good hO ht ht
 rw [e]
 refine List.eq_nil_iff_forall_not_mem.2 fun r hr => ?_
 obtain ⟨h1, h2⟩ := (hm r).1 hr
 exact h2 r h1 (fun s _ _ => rfl)
theorem pv_step0 : stepP cf pvX 0 [xT [1]] = (0, ⟨[nmX], []⟩, { pvX with time := 0, w := [(0, xT [1])] }) := by
 unfold stepP
 rw [if_pos (wrong_one (by decide) (by decide) rfl (xT1_good in1) rfl)]
 rfl
theorem pv_step1 : stepP cf { pvX with time := 0, w := [(0, xT [1])] } 1 [xT [2]] = (0, xT [1], { pvX with time := 1, w := [(1, xT [2])] }) := by
 unfold stepP
 rw [if_pos (wrong_one (by decide) (by decide) rfl (xT1_good in2) rfl)]
 rfl
theorem sc_step0 (hO : OrdOk okW cf) : stepP cf scX 0 [xT [], xT [1]] = (0, xT [1], { scX with time := 0, w := [(0, xT [1])] }) := by
 have hk : keepP cf scX 0 [xT [], xT [1]] = [(0, xT [1])] := by simp [keepP, goneX, xT, xsR]
 unfold stepP
 rw [if_pos (wrong_two (by decide) (by decide) rfl xT0_good (xT1_good in1) rfl rfl), hk]
 have ht : tellP cf scX 0 [xT [], xT [1]] = xT [1] := by
  unfold tellP
  rw [if_neg (by decide), hk]
  have : inB (0 - 0) (⟨0, 0, true⟩ : Iv) = true := rfl
  simp only [sinceO, List.foldl_cons, List.foldl_nil, this, if_true]
  exact union_none (t := xT [1]) hO (xT1_good in1)
 rw [ht]
theorem sc_step1 (hO : OrdOk okW cf) : stepP cf { scX with time := 0, w := [(0, xT [1])] } 1 [xT [1], xT [2]] = (0, xT [2], { scX with time := 1, w := [(1, xT [2])] }) := by
 have hk : keepP cf { scX with time := 0, w := [(0, xT [1])] } 1 [xT [1], xT [2]] = [(1, xT [2])] := by
  have h1 : (holdK cf true (xT [1]) (0, xT [1])).2.rows = [] := anti_self hO (xT1_good in1)
  have h2 : goneX ⟨0, 0, true⟩ 1 (holdK cf true (xT [1]) (0, xT [1])) = true := by unfold goneX; rw [h1]; simp
  have h3 : goneX ⟨0, 0, true⟩ 1 (1, xT [2]) = false := by simp [goneX, xT, xsR]
  unfold keepP
  rw [if_neg (by decide), if_neg (by decide)]
  simp only [List.map_cons, List.map_nil, List.cons_append, List.nil_append]
  have e1 : firstT [xT [1], xT [2]] = xT [1] := rfl
  have e2 : lastT [xT [1], xT [2]] = xT [2] := rfl
  rw [e1, e2, List.filter_cons, h2, List.filter_cons, h3]
  rfl
 unfold stepP
 rw [if_pos (wrong_two (by decide) (by decide) rfl (xT1_good in1) (xT1_good in2) rfl rfl), hk]
 have ht : tellP cf { scX with time := 0, w := [(0, xT [1])] } 1 [xT [1], xT [2]] = xT [2] := by
  unfold tellP
  rw [if_neg (by decide), hk]
  have : inB (1 - 1) (⟨0, 0, true⟩ : Iv) = true := rfl
  simp only [sinceO, List.foldl_cons, List.foldl_nil, this, if_true]
  exact union_none (t := xT [2]) hO (xT1_good in2)
 rw [ht]
theorem sc_step2 {ts : List Tb} : stepP cf { scX with time := 1, w := [(1, xT [2])] } 0 ts = (80, ⟨[], []⟩, { scX with time := 1, w := [(1, xT [2])] }) := by
 have : wrongP cf { scX with time := 1, w := [(1, xT [2])] } 0 ts = 80 := by
  unfold wrongP wrongE
  rw [if_pos (.inr (.inr (by decide)))]
 unfold stepP
 rw [this, if_neg (by decide)]
end
theorem OpAt.ne {w : World} {p : Nat} {X : PX} {B : List Nat} (h : OpAt anyB w p X B) {g : Nat} {cs : Array Value} {T : TypeId} (hg : w.heap[g]? = some (.cells cs T (0, 0))) (h1 : T ≠ 96) (h2 : T ≠ 115) : g ∉ B := by
 obtain ⟨S, vl, vr, vw, hx, hp, rfl⟩ := h
 intro hm
 rcases List.mem_cons.1 hm with rfl | hm
 ·rw [hp.box] at hg
  cases hg
  exact h1 rfl
 ·exact Sl115.ne hp.kept.sl hg h2 hm
theorem tabs_one {w : World} {g : Nat} {a b : Value} {t : Tb} (hg : w.heap[g]? = some (.cells #[a, b] 34 (0, 0))) (h : TabIn anyB w (.agg #[a, b]) t) : RdTabs w (.slice (some ⟨g, 0, none⟩) 1 1) [t] := by
 have hs : w.Sl 34 2 (.slice (some ⟨g, 0, none⟩) 1 1) 1 [a, b] := ⟨by simp, .inr ⟨g, 0, 1, _, rfl, hg, Nat.le_refl _, by simp [maxLen], by simp, by simp⟩⟩
 refine ⟨[(a, b)], rfl, by simpa using hs.rd, fun j x t' h1 h2 => ?_⟩
 cases j with
 | zero => simp at h1 h2; subst h1 h2; exact h.rd
 | succ j => simp at h1
theorem tabs_two {w : World} {g : Nat} {a b c d : Value} {t u : Tb} (hg : w.heap[g]? = some (.cells #[a, b, c, d] 34 (0, 0))) (h : TabIn anyB w (.agg #[a, b]) t) (h' : TabIn anyB w (.agg #[c, d]) u) : RdTabs w (.slice (some ⟨g, 0, none⟩) 2 2) [t, u] := by
 have hs : w.Sl 34 2 (.slice (some ⟨g, 0, none⟩) 2 2) 2 [a, b, c, d] := ⟨by simp, .inr ⟨g, 0, 2, _, rfl, hg, Nat.le_refl _, by simp [maxLen], by simp, by simp⟩⟩
 refine ⟨[(a, b), (c, d)], rfl, by simpa using hs.rd, fun j x t' h1 h2 => ?_⟩
 match j with
 | 0 => simp at h1 h2; subst h1 h2; exact h.rd
 | 1 => simp at h1 h2; subst h1 h2; exact h'.rd
 | j + 2 => simp at h1
theorem xT_fits {l : List Int} (hl : l.length <= 10) (hi : ∀ n, n ∈ l -> inI64 n) : Fits V.wf (xT l) :=
 ⟨⟨by simp [xT], by simp [xT, xsR]; omega, fun r hr => by
  obtain ⟨a, ha, rfl⟩ := List.mem_map.1 hr
  simp⟩, by simp [xT, xsR]; omega, fun r hr x hx => by
  obtain ⟨a, ha, rfl⟩ := List.mem_map.1 hr
  simp at hx
  subst hx
  exact vI_wf (hi a ha)⟩
theorem step_two {cf : V -> V -> Int} (hK : Ctx V.wf cf) {w : World} {p : Nat} {X X' : PX} {B : List Nat} {a b c d : Value} {t u T : Tb} {g : Nat} {n E : Int} (h : OpAt anyB w p X B) (hO : POkP cf X 600) (hm : X.w.length <= 1000) (hg : w.heap[g]? = some (.cells #[a, b, c, d] 34 (0, 0))) (h1 : TabIn anyB w (.agg #[a, b]) t) (h2 : TabIn anyB w (.agg #[c, d]) u) (f1 : Fits V.wf t) (f2 : Fits V.wf u) (r1 : t.rows.length <= 600) (r2 : u.rows.length <= 600) (hst : stepP cf X n [t, u] = (E, T, X')) :
  Calls Tryz.prog 18 #[.pointer (some ⟨p, 0, none⟩), .int .i64 n, .slice (some ⟨g, 0, none⟩) 2 2] w fun e w' => ∃ z1 m1 z2 z3 m2 z4 B', e = .returned (.tuple #[.agg #[.slice z1 m1 z2, .slice z3 m2 z4], .int .i64 E]) /\ Hid (TabIn anyB w' (.agg #[.slice z1 m1 z2, .slice z3 m2 z4]) T /\ OpAt anyB w' p X' B' /\ (∀ k, k ∈ B' -> k ∈ B ∨ w.heap.size <= k) /\ w.Fr w' B) := by
 have hne := h.ne hg (by decide) (by decide)
 have hc := step18 hK (M := 600) (by decide) (QFrom.any w) (v := .slice (some ⟨g, 0, none⟩) 2 2) (ts := [t, u]) (n := n) h hO hm (fun W hW => tabs_two (hW.heap hg hne) (h1.fr hW h.odd) (h2.fr hW h.odd)) (fun _ g' off l c' e => by cases e; exact hne) (by simp) (by simp only [List.mem_cons, List.not_mem_nil, or_false]; rintro t (rfl | rfl) <;> assumption) (fun _ => by simp only [List.mem_cons, List.not_mem_nil, or_false]; rintro t (rfl | rfl) <;> assumption)
 rw [hst] at hc
 refine hc.mono fun e w' ⟨v, B', _, he, hn, ho, _, hb, hf⟩ => ?_
 have hs : TabIn anyB w' v T := hn.imp (fun _ _ _ => trivial)
 obtain ⟨x, y, _, rfl, _⟩ := hs.ex
 obtain ⟨z1, z2, z3, z4, rfl, rfl⟩ := hs.shape
 exact ⟨z1, _, z2, z3, _, z4, B', he, Hz ⟨hs, ho.imp (fun _ _ _ => trivial), hb, hf⟩⟩
theorem step_one {cf : V -> V -> Int} (hK : Ctx V.wf cf) {M : Nat} (hM : M <= 5864062014634) {w : World} {p : Nat} {X X' : PX} {B : List Nat} {a b : Value} {t T : Tb} {g : Nat} {n E : Int} (h : OpAt anyB w p X B) (hO : POkP cf X M) (hm : X.w.length <= 1000) (hg : w.heap[g]? = some (.cells #[a, b] 34 (0, 0))) (h1 : TabIn anyB w (.agg #[a, b]) t) (f1 : Fits V.wf t) (r1 : t.rows.length <= M) (hst : stepP cf X n [t] = (E, T, X')) :
  Calls Tryz.prog 18 #[.pointer (some ⟨p, 0, none⟩), .int .i64 n, .slice (some ⟨g, 0, none⟩) 1 1] w fun e w' => ∃ z1 m1 z2 z3 m2 z4 B', e = .returned (.tuple #[.agg #[.slice z1 m1 z2, .slice z3 m2 z4], .int .i64 E]) /\ Hid (TabIn anyB w' (.agg #[.slice z1 m1 z2, .slice z3 m2 z4]) T /\ OpAt anyB w' p X' B' /\ (∀ k, k ∈ B' -> k ∈ B ∨ w.heap.size <= k) /\ w.Fr w' B) := by
 have hne := h.ne hg (by decide) (by decide)
 have hc := step18 hK hM (QFrom.any w) (v := .slice (some ⟨g, 0, none⟩) 1 1) (ts := [t]) (n := n) h hO hm (fun W hW => tabs_one (hW.heap hg hne) (h1.fr hW h.odd)) (fun _ g' off l c' e => by cases e; exact hne) (by simp) (by simp only [List.mem_cons, List.not_mem_nil, or_false]; rintro t rfl; assumption) (fun _ => by simp only [List.mem_cons, List.not_mem_nil, or_false]; rintro t rfl; assumption)
 rw [hst] at hc
 refine hc.mono fun e w' ⟨v, B', _, he, hn, ho, _, hb, hf⟩ => ?_
 have hs : TabIn anyB w' v T := hn.imp (fun _ _ _ => trivial)
 obtain ⟨x, y, _, rfl, _⟩ := hs.ex
 obtain ⟨z1, z2, z3, z4, rfl, rfl⟩ := hs.shape
 exact ⟨z1, _, z2, z3, _, z4, B', he, Hz ⟨hs, ho.imp (fun _ _ _ => trivial), hb, hf⟩⟩
end
section
open Go.RowKit
structure LV (w W : World) (k1 : Nat) (X : PX) (B1 : List Nat) (k2 : Nat) (Y : PX) (B2 : List Nat) (bs : List (Nat × Value × Value × Tb)) : Prop where
 p : OpAt anyB W k1 X B1
 s : OpAt anyB W k2 Y B2
 dj : ∀ k, k ∈ B1 -> k ∉ B2
 b1 : ∀ k, k ∈ B1 -> w.heap.size <= k
 b2 : ∀ k, k ∈ B2 -> w.heap.size <= k
 fr : w.Fr W []
 box : ∀ q, q ∈ bs -> W.heap[q.1]? = some (.cells #[q.2.1, q.2.2.1] 34 (0, 0)) /\ TabIn anyB W (.agg #[q.2.1, q.2.2.1]) q.2.2.2
theorem LV.still {w W W' : World} {k1 : Nat} {X : PX} {B1 : List Nat} {k2 : Nat} {Y : PX} {B2 : List Nat} {bs : List (Nat × Value × Value × Tb)} (h : LV w W k1 X B1 k2 Y B2 bs) (hf : W.Fr W' []) : LV w W' k1 X B1 k2 Y B2 bs :=
 ⟨h.p.still hf, h.s.still hf, h.dj, h.b1, h.b2, h.fr.trans hf (by simp), fun q hq => ⟨hf.heap (h.box q hq).1 (by simp), (h.box q hq).2.still hf⟩⟩
theorem LV.stepP {w W W' : World} {k1 : Nat} {X X' : PX} {B1 B1' : List Nat} {k2 : Nat} {Y : PX} {B2 : List Nat} {bs : List (Nat × Value × Value × Tb)} (h : LV w W k1 X B1 k2 Y B2 bs) (ho : OpAt anyB W' k1 X' B1') (hb : ∀ k, k ∈ B1' -> k ∈ B1 ∨ W.heap.size <= k) (hf : W.Fr W' B1) : LV w W' k1 X' B1' k2 Y B2 bs :=
 ⟨ho, h.s.fr hf h.p.odd (fun k hk hm => h.dj k hm hk), fun k hk hm => (hb k hk).elim (fun h1 => h.dj k h1 hm) (fun h1 => by have := h.s.lt k hm; omega), fun k hk => (hb k hk).elim (h.b1 k) (fun h1 => Nat.le_trans h.fr.size h1), h.b2,
  h.fr.trans hf (fun k hk => .inr (h.b1 k hk)), fun q hq => ⟨hf.heap (h.box q hq).1 (h.p.ne (h.box q hq).1 (by decide) (by decide)), (h.box q hq).2.fr hf h.p.odd⟩⟩
theorem LV.stepS {w W W' : World} {k1 : Nat} {X : PX} {B1 : List Nat} {k2 : Nat} {Y Y' : PX} {B2 B2' : List Nat} {bs : List (Nat × Value × Value × Tb)} (h : LV w W k1 X B1 k2 Y B2 bs) (ho : OpAt anyB W' k2 Y' B2') (hb : ∀ k, k ∈ B2' -> k ∈ B2 ∨ W.heap.size <= k) (hf : W.Fr W' B2) : LV w W' k1 X B1 k2 Y' B2' bs :=
 ⟨h.p.fr hf h.s.odd (fun k hk hm => h.dj k hk hm), ho, fun k hk hm => (hb k hm).elim (fun h1 => h.dj k hk h1) (fun h1 => by have := h.p.lt k hk; omega), h.b1, fun k hk => (hb k hk).elim (h.b2 k) (fun h1 => Nat.le_trans h.fr.size h1),
  h.fr.trans hf (fun k hk => .inr (h.b2 k hk)), fun q hq => ⟨hf.heap (h.box q hq).1 (h.s.ne (h.box q hq).1 (by decide) (by decide)), (h.box q hq).2.fr hf h.s.odd⟩⟩
theorem LV.push {w W : World} {k1 : Nat} {X : PX} {B1 : List Nat} {k2 : Nat} {Y : PX} {B2 : List Nat} {bs : List (Nat × Value × Value × Tb)} (h : LV w W k1 X B1 k2 Y B2 bs) {x y : Value} {t : Tb} (ht : TabIn anyB W (.agg #[x, y]) t) : LV w (W.alloc (.cells #[x, y] 34)) k1 X B1 k2 Y B2 ((W.heap.size, x, y, t) :: bs) := by
 have hf := (World.Fr.refl W []).alloc (.cells #[x, y] 34)
 have h' := h.still hf
 refine ⟨h'.p, h'.s, h'.dj, h'.b1, h'.b2, h'.fr, fun q hq => ?_⟩
 rcases List.mem_cons.1 hq with rfl | hq
 ·exact ⟨heap_alloc_at _ _ _ rfl, ht.still hf⟩
 ·exact h'.box q hq
theorem LV.sub {w W : World} {k1 : Nat} {X : PX} {B1 : List Nat} {k2 : Nat} {Y : PX} {B2 : List Nat} {bs bs' : List (Nat × Value × Value × Tb)} (h : LV w W k1 X B1 k2 Y B2 bs) (hs : ∀ q, q ∈ bs' -> q ∈ bs) : LV w W k1 X B1 k2 Y B2 bs' :=
 ⟨h.p, h.s, h.dj, h.b1, h.b2, h.fr, fun q hq => h.box q (hs q hq)⟩
theorem LV.pair {w W : World} {k1 : Nat} {X : PX} {B1 : List Nat} {k2 : Nat} {Y : PX} {B2 : List Nat} {bs : List (Nat × Value × Value × Tb)} (h : LV w W k1 X B1 k2 Y B2 bs) {a b c d : Value} {t u : Tb} (h1 : TabIn anyB W (.agg #[a, b]) t) (h2 : TabIn anyB W (.agg #[c, d]) u) :
  LV w (W.alloc (.cells #[a, b, c, d] 34)) k1 X B1 k2 Y B2 bs /\ (W.alloc (.cells #[a, b, c, d] 34)).heap[W.heap.size]? = some (.cells #[a, b, c, d] 34 (0, 0)) /\ TabIn anyB (W.alloc (.cells #[a, b, c, d] 34)) (.agg #[a, b]) t /\ TabIn anyB (W.alloc (.cells #[a, b, c, d] 34)) (.agg #[c, d]) u := by
 have hf := (World.Fr.refl W []).alloc (.cells #[a, b, c, d] 34)
 exact ⟨h.still hf, heap_alloc_at _ _ _ rfl, h1.still hf, h2.still hf⟩
theorem xs_at (n : Int) (hi : inI64 n) {W : World} {B : Nat} (hB : W.heap[B]? = some (.cells #[.int .i64 n] 2 (0, 0))) : Calls Tryz.prog 56 #[.slice (some ⟨B, 0, none⟩) 1 1] W fun e w' => ∃ x1 y1 x2 y2, e = .returned (.agg #[.slice x1 1 y1, .slice x2 1 y2]) /\ Hid (OwnTab W w' (.agg #[.slice x1 1 y1, .slice x2 1 y2]) (xT [n])) := by
 have hs : W.Sl 2 1 (.slice (some ⟨B, 0, none⟩) 1 1) 1 [.int .i64 n] := ⟨by simp, .inr ⟨B, 0, 1, _, rfl, hB, Nat.le_refl _, by simp [maxLen], by simp, by simp⟩⟩
 refine (xs56 (l := [n]) hs.rd (by simp) (by simpa using hi)).mono fun e w' ⟨v, he, ho⟩ => ?_
 obtain ⟨x1, y1, x2, y2, rfl⟩ := ho.shape
 exact ⟨x1, y1, x2, y2, he, Hz ho⟩
theorem undrew {w w' : World} {L : List Nat} (h : w.Fr w'.drew L) : w.Fr w' L := ⟨h.os, h.tape, h.output, h.size, h.block⟩
theorem strx (w : World) : RdStr (w.alloc (.cells #[.string ⟨#[120]⟩] 9)) (.slice (some ⟨w.heap.size, 0, none⟩) 1 1) [nmX] := by
 have h := World.Sl.lit w 9 #[.string ⟨#[120]⟩] 1 1 (by simp [maxLen]) rfl
 exact ⟨h.rd, fun s hs => by simp at hs; subst hs; exact of_decide_eq_true rfl⟩
theorem xs_lit (n : Int) (hi : inI64 n) (W : World) : Calls Tryz.prog 56 #[.slice (some ⟨W.heap.size, 0, none⟩) 1 1] (W.alloc (.cells #[.int .i64 n] 2)) fun e w' => ∃ x1 y1 x2 y2, e = .returned (.agg #[.slice x1 1 y1, .slice x2 1 y2]) /\ Hid (OwnTab W w' (.agg #[.slice x1 1 y1, .slice x2 1 y2]) (xT [n])) := by
 have hs := World.Sl.lit W 2 #[.int .i64 n] 1 1 (by simp [maxLen]) rfl
 refine (xs56 (l := [n]) hs.rd (by simp) (by simpa using hi)).mono fun e w' ⟨v, he, ho⟩ => ?_
 obtain ⟨x1, y1, x2, y2, rfl⟩ := ho.shape
 exact ⟨x1, y1, x2, y2, he, Hz (ho.since ((World.Fr.refl W []).alloc _))⟩
theorem xs_nil (W : World) : Calls Tryz.prog 56 #[.slice none 0 0] W fun e w' => ∃ x1 y1 x2 y2, e = .returned (.agg #[.slice x1 1 y1, .slice x2 0 y2]) /\ Hid (OwnTab W w' (.agg #[.slice x1 1 y1, .slice x2 0 y2]) (xT [])) := by
 refine (xs56 (l := []) (rdNil _ _) (by simp) (by simp)).mono fun e w' ⟨v, he, ho⟩ => ?_
 obtain ⟨x1, y1, x2, y2, rfl⟩ := ho.shape
 exact ⟨x1, y1, x2, y2, he, Hz ho⟩
theorem pv_call {cf : V -> V -> Int} (hK : Ctx V.wf cf) (W : World) : Calls Tryz.prog 16 #[.agg #[.int .i64 1, .int .i64 2, .bool false], .slice (some ⟨W.heap.size, 0, none⟩) 1 1] (W.alloc (.cells #[.string ⟨#[120]⟩] 9)) fun e w' => ∃ k, e = .returned (.tuple #[.pointer (some ⟨k, 0, none⟩), .int .i64 0]) /\ Hid (OpAt anyB w' k pvX [k] /\ W.heap.size <= k /\ W.Fr w' []) := by
 have hc := prev16 hK (QFrom.any _) (i := ⟨1, 2, false⟩) (strx W) (by simp)
 rw [pv_begin] at hc
 refine hc.mono fun e w' ⟨⟨p, he, hp⟩, hf⟩ => ?_
 rcases hp with ⟨h, _⟩ | ⟨_, k, vl, vr, rfl, hk, hpa⟩
 ·exact absurd rfl h
 ·have hf1 := (World.Fr.refl W []).alloc (.cells #[.string ⟨#[120]⟩] 9)
  refine ⟨k, he, Hz ⟨?_, Nat.le_trans hf1.size hk, hf1.trans hf (by simp)⟩⟩
  have := OpAt.begun hpa
  rw [pv_px] at this
  exact this
theorem sc_call {cf : V -> V -> Int} (hK : Ctx V.wf cf) (W : World) : Calls Tryz.prog 21 #[.agg #[.int .i64 0, .int .i64 0, .bool true], .bool true, .slice (some ⟨W.heap.size, 0, none⟩) 1 1, .slice (some ⟨W.heap.size + 1, 0, none⟩) 1 1] ((W.alloc (.cells #[.string ⟨#[120]⟩] 9)).alloc (.cells #[.string ⟨#[120]⟩] 9)) fun e w' => ∃ k, e = .returned (.tuple #[.pointer (some ⟨k, 0, none⟩), .int .i64 0]) /\ Hid (OpAt anyB w' k scX [k] /\ W.heap.size <= k /\ W.Fr w' []) := by
 have hf1 := (World.Fr.refl W []).alloc (.cells #[.string ⟨#[120]⟩] 9)
 have h2 := strx (W.alloc (.cells #[.string ⟨#[120]⟩] 9))
 rw [show (W.alloc (.cells #[.string ⟨#[120]⟩] 9)).heap.size = W.heap.size + 1 by simp] at h2
 have hc := since21 hK (QFrom.any _) (i := ⟨0, 0, true⟩) (nt := true) ((strx W).fr ((World.Fr.refl _ []).alloc (.cells #[.string ⟨#[120]⟩] 9)) (by simp)) h2 (by simp) (by simp)
 rw [sc_begin] at hc
 refine hc.mono fun e w' ⟨⟨p, he, hp⟩, hf⟩ => ?_
 rcases hp with ⟨h, _⟩ | ⟨_, k, vl, vr, rfl, hk, hpa⟩
 ·exact absurd rfl h
 ·have hf2 := hf1.alloc (.cells #[.string ⟨#[120]⟩] 9)
  refine ⟨k, he, Hz ⟨?_, Nat.le_trans hf2.size hk, hf2.trans hf (by simp)⟩⟩
  have := OpAt.begun hpa
  rw [sc_px] at this
  exact this
section
variable {cf : V -> V -> Int}
theorem pvX_ok : POkP cf pvX 600 := by
 have := beginP_ok (cf := cf) (nt := false) (M := 600) pv_begin (.inl ⟨rfl, rfl⟩) (.inl rfl)
 rwa [pv_px] at this
theorem scX_ok : POkP cf scX 600 := by
 have := beginP_ok (cf := cf) (nt := true) (M := 600) sc_begin (.inr ⟨rfl, rfl⟩) (.inr rfl)
 rwa [sc_px] at this
theorem pv1_ok (hO : OrdOk okW cf) : POkP cf { pvX with time := 0, w := [(0, xT [1])] } 600 := by
 have := pvX_ok.step hO (n := 0) (ts := [xT [1]]) (fun _ t ht => by simp at ht; subst ht; exact ⟨xT1_good in1, by simp [xT, xsR]⟩)
 rwa [pv_step0] at this
theorem sc1_ok (hO : OrdOk okW cf) : POkP cf { scX with time := 0, w := [(0, xT [1])] } 600 := by
 have := scX_ok.step hO (n := 0) (ts := [xT [], xT [1]]) (fun _ t ht => by simp at ht; rcases ht with rfl | rfl; exact ⟨xT0_good, by simp [xT, xsR]⟩; exact ⟨xT1_good in1, by simp [xT, xsR]⟩)
 rwa [sc_step0 hO] at this
theorem sc2_ok (hO : OrdOk okW cf) : POkP cf { scX with time := 1, w := [(1, xT [2])] } 600 := by
 have := (sc1_ok hO).step hO (n := 1) (ts := [xT [1], xT [2]]) (fun _ t ht => by simp at ht; rcases ht with rfl | rfl; exact ⟨xT1_good in1, by simp [xT, xsR]⟩; exact ⟨xT1_good in2, by simp [xT, xsR]⟩)
 rwa [sc_step1 hO] at this
end
theorem fitX (n : Int) (h : inI64 n) : Fits V.wf (xT [n]) := xT_fits (by simp) (by simpa using h)
theorem fitX0 : Fits V.wf (xT []) := xT_fits (by simp) (by simp)
theorem live14 {cf : V -> V -> Int} (hK : Ctx V.wf cf) (w : World) : Calls Tryz.prog 14 #[] w fun e w' => e = .returned (.bool true) /\ w.Fr w' [] := by
 have HK := Hz hK
 have hc := Hz (pv_call hK w)
 clear hK
 go_enter Tryz.func14, Tryz.ntmps14
 go_wp2_with fail
 (with_reducible refine hc.out.mono ?_)
 rintro e w1 ⟨k1, rfl, h1⟩
 clear hc
 have hc := Hz (sc_call HK.out w1)
 go_wp2_with fail
 (with_reducible refine hc.out.mono ?_)
 rintro e w2 ⟨k2, rfl, h2⟩
 have HL : Hid (LV w w2 k1 pvX [k1] k2 scX [k2] []) := Hz (by
  obtain ⟨a1, a2, a3⟩ := h1.out
  obtain ⟨b1, b2, b3⟩ := h2.out
  have hlt := a1.lt k1 (by simp)
  refine ⟨a1.still b3, b1, fun k hk hm => ?_, fun k hk => ?_, fun k hk => ?_, a3.trans b3 (by simp), by simp⟩
  ·simp at hk hm; omega
  ·simp at hk; omega
  ·simp at hk; have := a3.size; omega)
 clear h1 h2 hc
 go_upto_region 5 with (fail)
 -- p.Step(0, {xs(1)})
 have hc := Hz (xs_lit 1 in1 w2)
 go_wp2_with fail
 (with_reducible refine hc.out.mono ?_)
 rintro e w3 ⟨x1, y1, x2, y2, rfl, ho⟩
 clear hc
 have HL := Hz ((HL.out.still ho.out.fr).push (ho.out.inq (QFrom.any _)))
 have hc := Hz (step_one HK.out (M := 600) (by decide) HL.out.p pvX_ok (by simp) (HL.out.box _ (List.mem_cons_self ..)).1 (HL.out.box _ (List.mem_cons_self ..)).2 (fitX 1 in1) (by simp [xT, xsR]) pv_step0)
 clear ho
 go_wp2_with fail
 (with_reducible refine hc.out.mono ?_)
 rintro e w4 ⟨z1, n1, z2, z3, n2, z4, B1, rfl, hd⟩
 have HL := Hz (LV.sub (bs' := []) (HL.out.stepP hd.out.2.1 hd.out.2.2.1 hd.out.2.2.2) (by simp))
 clear hc hd
 go_upto_region 6 with (fail)
 -- a, g := p.Step(1, {xs(2)})
 have hc := Hz (xs_lit 2 in2 w4)
 go_wp2_with fail
 (with_reducible refine hc.out.mono ?_)
 rintro e w5 ⟨x1, y1, x2, y2, rfl, ho⟩
 clear hc
 have HL := Hz ((HL.out.still ho.out.fr).push (ho.out.inq (QFrom.any _)))
 have hc := Hz (step_one HK.out (M := 600) (by decide) HL.out.p (pv1_ok HK.out.ord) (by simp) (HL.out.box _ (List.mem_cons_self ..)).1 (HL.out.box _ (List.mem_cons_self ..)).2 (fitX 2 in2) (by simp [xT, xsR]) pv_step1)
 clear ho
 go_wp2_with fail
 (with_reducible refine hc.out.mono ?_)
 rintro e w6 ⟨a1, m1, a2, a3, m2, a4, B1, rfl, hd⟩
 have HL := Hz ((LV.sub (bs' := []) (HL.out.stepP hd.out.2.1 hd.out.2.2.1 hd.out.2.2.2) (by simp)).push hd.out.1)
 clear hc hd
 go_upto_region 7 with (fail)
 generalize hW : World.alloc w6 _ = w7 at *
 clear hW
 generalize w6.heap.size = b5 at *
 -- s.Step(0, {xs(), xs(1)})
 have hc := Hz (xs_nil w7)
 go_wp2_with fail
 (with_reducible refine hc.out.mono ?_)
 rintro e w8 ⟨x1, y1, x2, y2, rfl, ho⟩
 have HL := Hz (HL.out.still ho.out.fr); have HA := Hz (ho.out.inq (QFrom.any _))
 clear hc ho
 have hc := Hz (xs_lit 1 in1 w8)
 go_wp2_with fail
 (with_reducible refine hc.out.mono ?_)
 rintro e w9 ⟨u1, v1, u2, v2, rfl, ho⟩
 have HL := Hz ((HL.out.still ho.out.fr).pair (HA.out.still ho.out.fr) (ho.out.inq (QFrom.any _)))
 clear hc ho HA
 have hc := Hz (step_two HK.out HL.out.1.s scX_ok (by simp) HL.out.2.1 HL.out.2.2.1 HL.out.2.2.2 fitX0 (fitX 1 in1) (by simp [xT, xsR]) (by simp [xT, xsR]) (sc_step0 HK.out.ord))
 go_wp2_with fail
 (with_reducible refine hc.out.mono ?_)
 rintro e w10 ⟨z1, n1, z2, z3, n2, z4, B2, rfl, hd⟩
 have HL := Hz (HL.out.1.stepS hd.out.2.1 hd.out.2.2.1 hd.out.2.2.2)
 clear hc hd
 go_upto_region 8 with (fail)
 -- b, h := s.Step(1, {xs(1), xs(2)})
 have hc := Hz (xs_lit 1 in1 w10)
 go_wp2_with fail
 (with_reducible refine hc.out.mono ?_)
 rintro e w11 ⟨x1, y1, x2, y2, rfl, ho⟩
 have HL := Hz (HL.out.still ho.out.fr); have HA := Hz (ho.out.inq (QFrom.any _))
 clear hc ho
 have hc := Hz (xs_lit 2 in2 w11)
 go_wp2_with fail
 (with_reducible refine hc.out.mono ?_)
 rintro e w12 ⟨u1, v1, u2, v2, rfl, ho⟩
 have HL := Hz ((HL.out.still ho.out.fr).pair (HA.out.still ho.out.fr) (ho.out.inq (QFrom.any _)))
 clear hc ho HA
 have hc := Hz (step_two HK.out HL.out.1.s (sc1_ok HK.out.ord) (by simp) HL.out.2.1 HL.out.2.2.1 HL.out.2.2.2 (fitX 1 in1) (fitX 2 in2) (by simp [xT, xsR]) (by simp [xT, xsR]) (sc_step1 HK.out.ord))
 go_wp2_with fail
 (with_reducible refine hc.out.mono ?_)
 rintro e w13 ⟨c1, p1, c2, c3, p2, c4, B2, rfl, hd⟩
 have HL := Hz ((HL.out.1.stepS hd.out.2.1 hd.out.2.2.1 hd.out.2.2.2).push hd.out.1)
 clear hc hd
 go_upto_region 9 with (fail)
 generalize hW : World.alloc w13 _ = w14 at *
 clear hW
 generalize w13.heap.size = b7 at *
 -- _, i := s.Step(0, {xs(), xs()})
 have hc := Hz (xs_nil w14)
 go_wp2_with fail
 (with_reducible refine hc.out.mono ?_)
 rintro e w15 ⟨x1, y1, x2, y2, rfl, ho⟩
 have HL := Hz (HL.out.still ho.out.fr); have HA := Hz (ho.out.inq (QFrom.any _))
 clear hc ho
 have hc := Hz (xs_nil w15)
 go_wp2_with fail
 (with_reducible refine hc.out.mono ?_)
 rintro e w16 ⟨u1, v1, u2, v2, rfl, ho⟩
 have HL := Hz ((HL.out.still ho.out.fr).pair (HA.out.still ho.out.fr) (ho.out.inq (QFrom.any _)))
 clear hc ho HA
 have hc := Hz (step_two HK.out HL.out.1.s (sc2_ok HK.out.ord) (by simp) HL.out.2.1 HL.out.2.2.1 HL.out.2.2.2 fitX0 fitX0 (by simp [xT, xsR]) (by simp [xT, xsR]) sc_step2)
 go_wp2_with fail
 (with_reducible refine hc.out.mono ?_)
 rintro e w17 ⟨z1, n1, z2, z3, n2, z4, B2, rfl, hd⟩
 have HL := Hz ((HL.out.1.stepS hd.out.2.1 hd.out.2.2.1 hd.out.2.2.2).push hd.out.1)
 clear hc hd
 go_upto_region 10 with (fail)
 generalize hW : World.alloc w17 _ = WA at *
 clear hW
 generalize w17.heap.size = b9 at *
 obtain ⟨q5, hT5⟩ := HL.out.box (b5, .slice a1 m1 a2, .slice a3 m2 a4, xT [1]) (by simp)
 obtain ⟨q7, hT7⟩ := HL.out.box (b7, .slice c1 p1 c2, .slice c3 p2 c4, xT [2]) (by simp)
 obtain ⟨r0, r1, rf⟩ := two q5
 obtain ⟨s0, s1, sf⟩ := two q7
 have hmk : ∀ w', WA.Fr w' [] -> (w'.cell? ⟨b5, 0, none⟩ = some (.slice a1 m1 a2) /\ w'.cell? ⟨b5, 1, none⟩ = some (.slice a3 m2 a4) /\ w'.cell? ⟨b7, 0, none⟩ = some (.slice c1 p1 c2) /\ w'.cell? ⟨b7, 1, none⟩ = some (.slice c3 p2 c4) /\ WA.Fr w' []) := fun w' hf => ⟨cellFr hf r0 (by simp), cellFr hf r1 (by simp), cellFr hf s0 (by simp), cellFr hf s1 (by simp), hf⟩
 have hs1 : ∀ W v, WA.Fr W [] -> RdTab W v (xT [1]) -> Calls Tryz.prog 19 #[.agg #[.slice a1 m1 a2, .slice a3 m2 a4], v] W fun e w' => e = .returned (.bool true) /\ W.Fr w' [] := fun W v hf hv => by
  have hc := rsame17 (hT5.rd.still hf) hv (fitX 1 in1).small
  rw [show sameB (xT [1]) (xT [1]) = true by simp [sameB, eqB_true]] at hc
  exact hc
 have hs2 : ∀ W v, WA.Fr W [] -> RdTab W v (xT [2]) -> Calls Tryz.prog 19 #[.agg #[.slice c1 p1 c2, .slice c3 p2 c4], v] W fun e w' => e = .returned (.bool true) /\ W.Fr w' [] := fun W v hf hv => by
  have hc := rsame17 (hT7.rd.still hf) hv (fitX 2 in2).small
  rw [show sameB (xT [2]) (xT [2]) = true by simp [sameB, eqB_true]] at hc
  exact hc
 have hxa : ∀ W : World, Calls Tryz.prog 56 #[.slice (some ⟨W.heap.size, 0, none⟩) 1 1] (W.alloc (.cells #[.int .i64 1] 2)).drew fun e w' => ∃ x1 y1 x2 y2, e = .returned (.agg #[.slice x1 1 y1, .slice x2 1 y2]) /\ Hid (RdTab w' (.agg #[.slice x1 1 y1, .slice x2 1 y2]) (xT [1])) /\ W.Fr w' [] := fun W => (xs_at 1 in1 (W := (W.alloc (.cells #[.int .i64 1] 2)).drew) (heap_alloc_at W _ _ rfl)).mono fun e w' ⟨x1, y1, x2, y2, he, ho⟩ => ⟨x1, y1, x2, y2, he, Hz ho.out.rd, (((World.Fr.refl W []).alloc _).drew).trans ho.out.fr (by simp)⟩
 have hxb : ∀ W : World, Calls Tryz.prog 56 #[.slice (some ⟨W.heap.size, 0, none⟩) 1 1] (W.alloc (.cells #[.int .i64 2] 2)) fun e w' => ∃ x1 y1 x2 y2, e = .returned (.agg #[.slice x1 1 y1, .slice x2 1 y2]) /\ Hid (RdTab w' (.agg #[.slice x1 1 y1, .slice x2 1 y2]) (xT [2])) /\ W.Fr w' [] := fun W => (xs_at 2 in2 (heap_alloc_at W _ _ rfl)).mono fun e w' ⟨x1, y1, x2, y2, he, ho⟩ => ⟨x1, y1, x2, y2, he, Hz ho.out.rd, ((World.Fr.refl W []).alloc _).trans ho.out.fr (by simp)⟩
 have Hxa := Hz hxa; have Hxb := Hz hxb
 have hFx : WA.Fr WA.drew [] := (World.Fr.refl WA []).drew
 have Hmk := Hz hmk; have Hs1 := Hz hs1; have Hs2 := Hz hs2; have Hfw := Hz HL.out.fr
 clear hxa hxb hmk hs1 hs2 hT5 hT7 q5 q7 HL r0 r1 rf s0 s1 sf HK
 go_region_held3 (fun w' => w'.cell? ⟨b5, 0, none⟩ = some (.slice a1 m1 a2) /\ w'.cell? ⟨b5, 1, none⟩ = some (.slice a3 m2 a4) /\ w'.cell? ⟨b7, 0, none⟩ = some (.slice c1 p1 c2) /\ w'.cell? ⟨b7, 1, none⟩ = some (.slice c3 p2 c4) /\ WA.Fr w' [])
  (first | exact Hmk.out _ hFx | exact Hmk.out _ (World.Fr.refl WA []) | exact Hmk.out _ (World.Fr.alloc hFx _) | exact Hmk.out _ (World.Fr.drew (World.Fr.alloc (undrew hFx) _)))
  (first | (go_at_call 56; (with_reducible refine (Hxa.out _).mono ?_); rintro e w2 ⟨c1, e1, c2, e2, rfl, hXr, hc⟩; have hFx := World.Fr.trans (L := []) (undrew hFx) hc (fun _ h => nomatch h)) | (go_at_call 56; (with_reducible refine (Hxb.out _).mono ?_); rintro e w2 ⟨c1, e1, c2, e2, rfl, hYr, hc⟩; have hFx := World.Fr.trans (L := []) hFx hc (fun _ h => nomatch h)) | (go_at_call 19; (with_reducible refine (Hs1.out _ _ hFx hXr.out).mono ?_); rintro e w2 ⟨rfl, hc⟩; have hFx := World.Fr.trans (L := []) hFx hc (fun _ h => nomatch h)) | (go_at_call 19; (with_reducible refine (Hs2.out _ _ hFx hYr.out).mono ?_); rintro e w2 ⟨rfl, hc⟩; have hFx := World.Fr.trans (L := []) hFx hc (fun _ h => nomatch h)))
 go_wp2
 go_ret
 exact ⟨rfl, Hfw.out.trans hFx (by simp)⟩
end
end Go.Proofs.YtbejmdlncnkaaaaGreat
