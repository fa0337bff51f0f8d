/-
  The statements' lent: tables in new memory. Package past: Clone.
-/
import Derived.Test.YtbejmdlncnkaaaaGreatAlgA
import Derived.Test.YtbejmdlncnkaaaaGreatMad
import Derived.Test.YtbejmdlncnkaaaaGreatPaB
import Derived.Deep.RegionLaw
import Derived.Test.YtbejmdlncnkaaaaGreatPaD
set_option maxRecDepth 100000
set_option maxHeartbeats 16000000
set_option linter.unusedSimpArgs false
namespace Go
section
variable {P : Program} (w : World)
theorem step_append_src {ops : Array Oper} {o : Oper} {a : Act} {K : Act -> World -> Prop} {Q : Exit -> Act -> World -> Prop} {E : Prop} (hgd : o.guard = none) (s x : Operand) (t : TypeId)
  (ho : o.op = .call { callee := .builtin .append, args := #[s, x], argTypes := #[t, t] })
  (e : TypeId) (i : TypeInfo) (z : Value) (size bytes : Nat) (ht : P.underlying t = some (.slice e)) (hi : P.info? e = some i) (hz : i.zero = some z)
  (hsize : i.size = size) (hby : i.bytes = bytes) (hzs : z.cells.size = size)
  (v : Value) (n : Nat) (xs : List Value) (hs : a.eval s = v) (hown : w.Sl e size v n xs) (xv : Value) (m : Nat) (ys : List Value) (hx : a.eval x = xv) (hsrc : w.Rd size xv m ys) (h1 : ys.all Value.oneCell' = true)
  (hroom : (n + m) * bytes <= 140737488355328 /\ n + m <= 9223372036854775807)
  (h : ∀ v' w', w'.Sl e size v' (n + m) (xs ++ ys) -> w.Fr w' v.blk -> (∀ k, k ∈ v'.blk -> k ∈ v.blk ∨ k = w.heap.size) -> K (a.put o.dst v') w') :
  if Region.wanted o (yielded ops a.tmps) = true then Oper.wp P o a w K Q else E := by
 have hw : Region.wanted o (yielded ops a.tmps) = true := by simp [Region.wanted, hgd]
 rw [if_pos hw]
 exact wp_append_src w s x t ho e i z size bytes ht hi hz hsize hby hzs v n xs hs hown xv m ys hx hsrc h1 hroom h
end
end Go
namespace Go.Proofs.YtbejmdlncnkaaaaGreat
section
open Go.RowKit
theorem info34 : (Tryz.prog.info? 34).map (fun i => (i.zero, i.size, i.bytes)) = some (some (.agg #[.slice none 0 0, .slice none 0 0]), 2, 48) := by kernel_rfl
theorem slEmpty {W : World} {e : TypeId} {size b : Nat} (h : W.heap[b]? = some (.cells #[] e (0, 0))) : W.Sl e size (.slice (some ⟨b, 0, none⟩) 0 0) 0 [] := ⟨by simp, .inr ⟨b, 0, 0, _, rfl, h, Nat.le_refl _, by simp [maxLen], by simp, by simp⟩⟩
structure LT (w wr : World) (vo : Value) (hd : List (Value × Value)) (ts : List Tb) : Prop where
 sl : wr.Sl 34 2 vo hd.length (hd.flatMap fun x => [x.1, x.2])
 len : hd.length = ts.length
 tab : ∀ (i : Nat) (x : Value × Value) (t : Tb), hd[i]? = some x -> ts[i]? = some t -> TabIn (fun k => w.heap.size <= k) wr (.agg #[x.1, x.2]) t
 new : ∀ k, k ∈ vo.blk -> w.heap.size <= k
 fr : w.Fr wr []
theorem LT.still {w wr w' : World} {vo : Value} {hd : List (Value × Value)} {ts : List Tb} (h : LT w wr vo hd ts) (hf : wr.Fr w' []) : LT w w' vo hd ts :=
 ⟨h.sl.fr hf (by simp), h.len, fun i x t e1 e2 => (h.tab i x t e1 e2).still hf, h.new, h.fr.trans hf (by simp)⟩
theorem LT.box {w wr w' : World} {vo : Value} {hd : List (Value × Value)} {ts : List Tb} (h : LT w wr vo hd ts) {b : Nat} {cs : Array Value} (hb : wr.heap[b]? = some (.cells cs 34 (0, 0))) (hw : w.heap.size <= b) (hv : b ∉ vo.blk) (hf : wr.Fr w' [b]) : LT w w' vo hd ts :=
 ⟨h.sl.fr hf (fun k hk hm => by simp at hm; subst hm; exact hv hk), h.len, fun i x t e1 e2 => (h.tab i x t e1 e2).fr hf (Odd.one hb (by decide)), h.new, h.fr.trans hf (fun k hk => .inr (by simp at hk; subst hk; exact hw))⟩
theorem LT.push {w wr w1 : World} {vo vo' : Value} {hd : List (Value × Value)} {ts : List Tb} {a b : Value} {t : Tb} (h : LT w wr vo hd ts) (hf : wr.Fr w1 vo.blk) (hsl : w1.Sl 34 2 vo' (hd.length + 1) ((hd.flatMap fun x => [x.1, x.2]) ++ [a, b])) (hnew : ∀ k, k ∈ vo'.blk -> k ∈ vo.blk ∨ wr.heap.size <= k) (ht : TabIn (fun k => w.heap.size <= k) wr (.agg #[a, b]) t) : LT w w1 vo' (hd ++ [(a, b)]) (ts ++ [t]) := by
 have hod : Odd wr vo.blk := by
  intro k hk
  rcases h.sl.2 with ⟨rfl, _⟩ | ⟨g, off, cap, cur, rfl, hg, _⟩
  ·simp [Value.blk] at hk
  ·simp [Value.blk] at hk
   subst hk
   exact ⟨_, _, hg, by decide, by decide, by decide⟩
 refine ⟨by simpa using hsl, by simp [h.len], fun i x t' e1 e2 => ?_, fun k hk => (hnew k hk).elim (h.new k) (fun h1 => Nat.le_trans h.fr.size h1), h.fr.trans hf (fun k hk => .inr (h.new k hk))⟩
 rcases Nat.lt_or_ge i hd.length with hi | hi
 ·rw [List.getElem?_append_left hi] at e1
  rw [List.getElem?_append_left (by have := h.len; omega)] at e2
  exact (h.tab i x t' e1 e2).fr hf hod
 ·rw [List.getElem?_append_right hi] at e1
  rw [List.getElem?_append_right (by have := h.len; omega)] at e2
  have hz : i - hd.length = 0 := by have := (List.getElem?_eq_some_iff.1 e1).1; simp at this; omega
  rw [hz] at e1
  rw [show i - ts.length = 0 by have := h.len; omega] at e2
  simp at e1 e2
  subst e1 e2
  exact ht.fr hf hod
theorem LT.rd {w wr : World} {vo : Value} {hd : List (Value × Value)} {ts : List Tb} (h : LT w wr vo hd ts) : RdTabs wr vo ts := by
 refine ⟨hd, h.len, by have := h.sl.rd; rw [h.len] at this; exact this, fun j x t e1 e2 => (h.tab j x t e1 e2).rd⟩
theorem lent25 {w : World} {v : Value} {ts : List Tb} (h : RdTabs w v ts) (hn : ts.length <= 1048576) (hu : ∀ t, t ∈ ts -> t.vars.length <= 1048576 /\ t.rows.length <= 1048576 /\ ∀ r, r ∈ t.rows -> r.length <= 1048576) :
  Calls Tryz.prog 25 #[v] w fun e w' => ∃ vo hd, e = .returned vo /\ LT w w' vo hd ts := by
 obtain ⟨v1, v2, rfl⟩ := h.shape
 obtain ⟨N, hN⟩ : ∃ N, ts.length = N := ⟨_, rfl⟩
 rw [hN] at h ⊢
 have H := Hz h; have HN := Hz hN; have Hn := Hz hn; have HU := Hz hu
 have HL0 : Hid (LT w w (.slice none 0 0) [] (ts.take 0)) := Hz ⟨World.Sl.nil _ _ _, rfl, by simp, by simp [Value.blk], World.Fr.refl _ _⟩
 clear h hN hn hu
 go_enter Tryz.func25, Tryz.ntmps25
 go_wp2
 go_loopw [11, 3] (fun i vx wr => ∃ (j : Nat) (vo : Value) (hd : List (Value × Value)), i = .int .i64 j /\ vo = vx /\ j <= N /\ Hid (LT w wr vo hd (ts.take j))) (fun i _ _ => (N - intOf i).toNat)
 case atStart => exact ⟨0, _, [], rfl, rfl, Nat.zero_le _, HL0⟩
 case round =>
  obtain ⟨j, vo, hd, rfl, hvo, hj, HL⟩ := hrel
  subst hvo
  clear HL0
  by_cases hlt : j < N
  ·obtain ⟨t, ht⟩ : ∃ t, ts[j]? = some t := ⟨ts[j]'(by have := HN.out; omega), List.getElem?_eq_getElem _⟩
   obtain ⟨g, off, c, x1, x2, x3, x4, hv, hg, k1, k2, hrd⟩ := H.out.at ht
   rw [HN.out] at hv
   cases hv
   obtain ⟨hu1, hu2, hu3⟩ := HU.out t (List.mem_of_getElem? ht)
   obtain ⟨va, vb, hsr, he, hvr, hrr⟩ := hrd.ex
   cases he
   have hlen := hrr.len
   have hwf : (∀ s, s ∈ t.vars -> s.size <= 9223372036854775807) /\ ∀ r, r ∈ t.rows -> ∀ v, v ∈ r -> v.wf := by
    refine ⟨hvr.wf, fun r hrm => ?_⟩
    obtain ⟨i, hi⟩ := List.getElem?_of_mem hrm
    have hlt := (List.getElem?_eq_some_iff.1 hi).1
    obtain ⟨hvv, hh⟩ : ∃ x, hsr[i]? = some x := ⟨hsr[i]'(by omega), List.getElem?_eq_getElem (by omega)⟩
    exact (hrr.row i hvv r hh hi).wf
   have k1 := cellFr HL.out.fr k1 (by simp)
   have k2 := cellFr HL.out.fr k2 (by simp)
   have hg := Nat.lt_of_lt_of_le hg HL.out.fr.size
   have hjI : (j : Int) < (N : Int) := by omega
   have hw1 : IntKind.i64.wrap ((j : Int) + 1) = (j : Int) + 1 := IntWalk.i64_in _ (by have := Hn.out; have := HN.out; omega)
   have hnn : (0 : Int) <= (j : Int) := by omega
   have q5 := heap_alloc_at wr (.cells #[.slice x1 t.vars.length x2, .slice x3 t.rows.length x4] 34) _ rfl
   have f5 := (World.Fr.refl wr []).alloc (.cells #[.slice x1 t.vars.length x2, .slice x3 t.rows.length x4] 34)
   have HV := Hz (hvr.fr (HL.out.fr.trans f5 (by simp)) (by simp)); have HR := Hz hrr; have HL := Hz (HL.out.still f5)
   have Ht := Hz ht; have Hu1 := Hz hu1; have Hu2 := Hz hu2; have Hu3 := Hz hu3; have Hwf := Hz hwf
   clear hvr hrr ht hu1 hu2 hu3 hwf hrd f5 hlen
   go_upto_region 5 with (fail)
   generalize hWW : World.alloc wr _ = w5 at *
   clear hWW
   generalize wr.heap.size = b5 at *
   obtain ⟨m0, m1, mf⟩ := two q5
   have hz5 := lt_of_heap q5
   have Q5 := Hz q5
   clear q5 k1 k2 hg
   obtain ⟨i0, hi0, hz0, hz1, hz2⟩ := info_parts infoS
   go_wp2_with (at_builtin; refine wpList_append_src _ rfl (.const (.slice none 0 0)) (.tmp 16) 24 rfl 9 i0 (.string .empty) 1 16 Tryz.underlying24 hi0 hz0 hz1 hz2 rfl (.slice none 0 0) 0 [] rfl (World.Sl.nil _ _ _) (.slice x1 t.vars.length x2) t.vars.length (t.vars.map Value.string) rfl HV.out.rd (one_strings t.vars) ⟨by have := Hu1.out; omega, by have := Hu1.out; omega⟩ ?_)
   intro v' w6 hs6 hf6 hb6
   obtain ⟨xa, xc, rfl, _, _⟩ := hs6.shape
   try simp only [Nat.zero_add, List.nil_append] at hs6
   try simp only [Nat.zero_add]
   have hf6' : w5.Fr w6 [] := by simpa [Value.blk] using hf6
   have hb6' : ∀ k, k ∈ (Value.slice xa t.vars.length xc).blk -> w.heap.size <= k /\ k < w6.heap.size := fun k hk => ⟨by
    have := HL.out.fr.size
    rcases hb6 k (by simpa [Value.blk] using hk) with h | h
    ·simp [Value.blk] at h
    ·omega, hs6.lt k hk⟩
   have q6 := heap_alloc_at w6 (.cells #[.slice xa t.vars.length xc, .slice none 0 0] 34) _ rfl
   have f6 := (World.Fr.refl w6 []).alloc (.cells #[.slice xa t.vars.length xc, .slice none 0 0] 34)
   have hft := hf6'.trans f6 (by simp)
   have Hwb := Hz (Nat.le_trans HL.out.fr.size hf6'.size)
   have HVo := Hz (show ∀ k, k ∈ vo.blk -> k < w6.heap.size from fun k hk => Nat.lt_of_lt_of_le (HL.out.sl.lt k hk) hf6'.size)
   have HL := Hz (HL.out.still hft); have Q5 := Hz (hft.heap Q5.out (by simp))
   have Hxa := Hz hb6'; have Hsl := Hz (hs6.fr f6 (by simp)); have H56 := Hz hf6'.size
   have HB6 := Hz (show b5 < w6.heap.size from by have := hf6'.size; omega)
   clear hs6 hf6 hb6 hf6' hb6' i0 hi0 hz0 hz1 hz2 m0 m1 mf hz5 f6 hft HV
   go_upto_region 6 with (fail)
   generalize hWW : World.alloc w6 _ = w7 at *
   clear hWW
   have Hw7 := Hz (show w6.heap.size < w7.heap.size from lt_of_heap q6)
   generalize hb6 : w6.heap.size = b6 at *
   clear hb6
   obtain ⟨m0, m1, mf⟩ := two Q5.out
   have hz5 := lt_of_heap Q5.out
   have hz6 := lt_of_heap q6
   have HR0 : Hid (RV w7 w7 b6 (.slice xa t.vars.length xc) (.slice none 0 0) [] (t.rows.take 0)) := Hz ⟨q6, World.Sl.nil _ _ _, rfl, by simp [Value.blk], by simp, World.Fr.refl _ _⟩
   have Q6 := Hz q6
   clear q6
   go_wp2
   go_loopw [22] (fun i wr => ∃ (q : Nat) (vb : Value) (hsn : List Value), i = .int .i64 q /\ q <= t.rows.length /\ Hid (RV w7 wr b6 (.slice xa t.vars.length xc) vb hsn (t.rows.take q))) (fun i _ => (t.rows.length - intOf i).toNat)
   case atStart => exact ⟨0, _, [], rfl, Nat.zero_le _, HR0⟩
   case round =>
    obtain ⟨q, vb, hsn, rfl, hq, HV⟩ := hrel
    obtain ⟨xb, xcb, rfl, _, _⟩ := HV.out.sl.shape
    clear HR0 m0 m1 mf hz5 hz6
    by_cases hqn : q < t.rows.length
    ·obtain ⟨x, hx⟩ : ∃ x, t.rows[q]? = some x := ⟨t.rows[q], List.getElem?_eq_getElem (by omega)⟩
     have hxl := Hu3.out x (List.mem_of_getElem? hx)
     have hfr : w.Fr wr [] := HL.out.fr.trans HV.out.fr (fun k hk => .inr (by simp at hk; subst hk; exact Hwb.out))
     have q5 := HV.out.fr.heap Q5.out (by simp; have := HB6.out; omega)
     obtain ⟨m0, m1, mf⟩ := two q5
     have hz5 := lt_of_heap q5
     obtain ⟨p0, p1, pf⟩ := two HV.out.box
     have hz6 := lt_of_heap HV.out.box
     obtain ⟨g4, off4, c4, ax, mx, hv4, hg4, kx, hrow⟩ := (HR.out.still hfr).at hx
     cases hv4
     have hqI : (q : Int) < (t.rows.length : Int) := by omega
     have hw2 : IntKind.i64.wrap ((q : Int) + 1) = (q : Int) + 1 := IntWalk.i64_in _ (by have := Hu2.out; omega)
     have hqn0 : (0 : Int) <= (q : Int) := by omega
     have hql : hsn.length = q := by have := HV.out.len; simp at this; omega
     have Hrow := Hz hrow; have Hx := Hz hx; have Hxl := Hz hxl; have Hql := Hz hql; have Hfr := Hz hfr; have Hslv := Hz HV.out.sl; have Hbox := Hz HV.out.box
     rw [hql] at p1
     rw [hql] at Hslv Hbox
     clear hrow hx hxl hql hfr q5
     obtain ⟨iv, hiv, hv0, hv1, hv2⟩ := info_parts infoV
     obtain ⟨ih, hih, hh0, hh1, hh2⟩ := info_parts infoH
     have hroom : (q + 1) * 24 <= 140737488355328 /\ q + 1 <= 9223372036854775807 := by have := Hu2.out; omega
     have hroom2 : (0 + x.length) * 40 <= 140737488355328 /\ 0 + x.length <= 9223372036854775807 := by have := Hxl.out; omega
     go_upto_region 9 with (fail)
     go_region_law (first | (refine step_append_src _ rfl (.tmp 28) (.tmp 29) 81 rfl 83 iv (.agg #[.int .i64 0, .int .i64 0, .int .i64 0, .string .empty]) 4 40 Tryz.underlying81 hiv hv0 hv1 hv2 rfl (.slice (some ⟨wr.heap.size, 0, none⟩) 0 0) 0 [] (by simp [Act.eval]) (slEmpty (W := (wr.alloc (.cells #[] 83)).drew) (heap_alloc_at wr (.cells #[] 83) _ rfl)) (.slice ax x.length mx) x.length (x.flatMap V.enc) (by simp [Act.eval]) (Hrow.out.rd.fr (((World.Fr.refl wr []).alloc _).drew) (by simp)) (one_row x) hroom2 ?_; intro v6 w8 hs8 hf8 hb8; have hyx := hs8.shape; obtain ⟨ya, yc, rfl, _, _⟩ := hyx; simp only [Nat.zero_add, List.nil_append] at hs8 hb8; have hf8' := ((World.Fr.refl wr []).alloc (.cells #[] 83)).drew.trans hf8 (fun k hk => .inr (by simp [Value.blk] at hk; omega)); have hbx8 := hf8'.heap Hbox.out (by simp); obtain ⟨p0, p1, pf⟩ := two hbx8; have hz8 := lt_of_heap hbx8; have HF8 := Hz hf8'; have HS8 := Hz hs8; have HB8 := Hz hb8; clear hf8 hf8' hs8 hb8 hbx8) | (refine step_append_one _ rfl (.tmp 27) (.tmp 31) 32 rfl 81 ih (.slice none 0 0) 1 24 Tryz.underlying32 hih hh0 hh1 hh2 rfl (.slice xb q xcb) q hsn (by simp [Act.eval]) (World.Sl.alloc (Hslv.out.fr HF8.out (by simp)) _) w8.heap.size 1 [.slice ya x.length yc] 81 (by simp [Act.eval]) (heap_alloc_at _ _ _ rfl) rfl rfl hroom ?_; intro g3 off3 c3 w9 hsl9 hfr9 hat hlt9; have hbx9 := hfr9.heap (heap_alloc_some (HF8.out.heap Hbox.out (by simp)) _) (fun hk => sl_box Hslv.out Hbox.out (by decide) _ hk rfl); obtain ⟨p0, p1, pf⟩ := two hbx9; have hz9 := lt_of_heap hbx9; have HFR9 := Hz hfr9; have HSL9 := Hz hsl9; have HAT := Hz hat; clear hfr9 hsl9 hat hbx9))
     all_goals
      have hown : OwnRow wr (w8.alloc (.cells #[.slice ya x.length yc] 81)) (.slice ya x.length yc) x := ⟨HS8.out.alloc _, fun k hk => by
       rcases HB8.out k hk with h | h
       ·simp [Value.blk] at h; omega
       ·simp at h; omega, HF8.out.alloc _⟩
      have hpush := HV.out.push hown (g := g3) (off := off3) (c := c3) (by rw [Hql.out]; exact HSL9.out) (by rw [Hql.out]; exact HFR9.out) (by rw [Hql.out]; rcases HAT.out with h | h; exact .inl h; exact .inr (by simp at h ⊢; omega))
      rw [Hql.out] at hpush
      have hsnr : t.rows.take (q + 1) = t.rows.take q ++ [x] := by
       rw [List.take_succ_eq_append_getElem hqn, (List.getElem?_eq_some_iff.1 Hx.out).2]
      rw [<- hsnr] at hpush
      have Hpush := Hz hpush
      clear hown hpush hsnr
      go_wp2
      go_roundw
      case rel => exact ⟨q + 1, _, _, by go_num, by omega, Hpush⟩
      case measure => simp [intOf]; omega
    ·have hdq : decide ((q : Int) < (t.rows.length : Int)) = false := decide_eq_false (by omega)
     have hdq2 : decide (q < t.rows.length) = false := decide_eq_false hqn
     obtain rfl : q = t.rows.length := by omega
     have hV := HV.out
     rw [List.take_of_length_le (Nat.le_refl _)] at hV
     have hvl := hV.len
     have hLT := HL.out.box Q6.out Hwb.out (fun hk => by have := HVo.out b6 hk; omega) hV.fr
     have htab : TabIn (fun k => w.heap.size <= k) wr (.agg #[.slice xa t.vars.length xc, .slice xb t.rows.length xcb]) t := by
      have hsz := HL.out.fr.size
      refine ⟨⟨_, _, hsn, rfl, Hsl.out.fr hV.fr (fun k hk hm => by simp at hm; subst hm; have := (Hxa.out k hk).2; omega), by have := hV.sl; rw [hvl] at this ⊢; exact this, hvl, fun k hk => (Hxa.out k hk).1, fun k hk => Nat.le_trans hsz (hV.new k (by rw [hvl]; exact hk)), fun i hv r e1 e2 => ⟨(hV.row i hv r e1 e2).1, fun k hk => Nat.le_trans hsz ((hV.row i hv r e1 e2).2 k hk)⟩⟩, Hwf.out⟩
     obtain ⟨va, vc, hvo, _, _⟩ := hLT.sl.shape
     subst hvo
     have hbox := hV.box
     rw [hvl] at hbox
     obtain ⟨p0, p1, pf⟩ := two hbox
     have hz6 := lt_of_heap hbox
     have hhl : hd.length = j := by have := hLT.len; have := HN.out; simp at *; omega
     have HLT := Hz hLT; have HTab := Hz htab; have Hhl := Hz hhl
     clear hV HV hbox hLT htab hqn hq
     try rw [hvl]
     clear hvl hhl
     obtain ⟨ig, hig, hg0, hg1, hg2⟩ := info_parts info34
     go_upto_region 11 with (fail)
     go_wp2_with (at_builtin; refine wpList_append_one _ rfl (.tmp 35) (.tmp 37) 37 rfl 34 ig (.agg #[.slice none 0 0, .slice none 0 0]) 2 48 Tryz.underlying37 hig hg0 hg1 hg2 rfl (.slice va hd.length vc) hd.length (hd.flatMap fun x => [x.1, x.2]) rfl (World.Sl.alloc HLT.out.sl _) wr.heap.size 1 [.slice xa t.vars.length xc, .slice xb t.rows.length xcb] 34 rfl (heap_alloc_at _ _ _ rfl) rfl rfl ⟨by have := Hhl.out; have := Hn.out; have := HN.out; omega, by have := Hhl.out; have := Hn.out; have := HN.out; omega⟩ ?_)
     intro g3 off3 c3 w9 hsl9 hfr9 hat hlt9
     have hal := (World.Fr.refl wr []).alloc (.cells #[.slice xa t.vars.length xc, .slice xb t.rows.length xcb] 34)
     have hpush := (HLT.out.still hal).push hfr9 hsl9 (fun k hk => by simp [Value.blk] at hk; subst hk; rcases hat with h | h; exact .inl h; exact .inr (by first | exact Nat.le_of_eq h.symm | (rw [h]; exact Nat.le_refl _) | (simp at h ⊢; omega))) (HTab.out.still hal)
     have hsnr : ts.take (j + 1) = ts.take j ++ [t] := by
      rw [List.take_succ_eq_append_getElem (by have := HN.out; omega), (List.getElem?_eq_some_iff.1 Ht.out).2]
     rw [<- hsnr] at hpush
     have Hpush := Hz hpush
     clear hpush hsnr hal hsl9 hfr9 hat p0 p1 pf hz6
     go_wp2
     go_roundw
     case rel => exact ⟨j + 1, _, _, by go_num, rfl, by omega, Hpush⟩
     case measure => simp [intOf]; omega
  ·have hd1 : decide ((j : Int) < (N : Int)) = false := decide_eq_false (by omega)
   have hd2 : decide (j < N) = false := decide_eq_false hlt
   have hL := HL.out
   rw [List.take_of_length_le (by have := HN.out; omega)] at hL
   have HLf := Hz hL
   clear hL HL hlt hj
   go_wp2
   go_ret
   exact ⟨_, _, rfl, HLf.out⟩
end
section
open Go.RowKit
theorem KeptAt.one {Q : Nat -> Prop} {w : World} {v : Value} {ks : List Kp} (h : KeptAt Q w v ks) : (ks.flatMap Kp.cells).all Value.oneCell' = true := by
 rw [List.all_eq_true]
 intro x hx
 obtain ⟨k, hk, hx⟩ := List.mem_flatMap.1 hx
 obtain ⟨a1, a2, a3, a4, e1, e2⟩ := (h.tab k hk).shape
 simp only [Kp.cells, List.mem_cons, List.not_mem_nil, or_false] at hx
 rcases hx with rfl | rfl | rfl
 ·rfl
 ·rw [e1]; rfl
 ·rw [e2]; rfl
theorem info115c : (Tryz.prog.info? 115).map (fun i => (i.zero, i.size, i.bytes)) = some (some (.agg #[.int .i64 0, .slice none 0 0, .slice none 0 0]), 3, 56) := by kernel_rfl
theorem clone76 {Q : Nat -> Prop} {w : World} {v : Value} {ks : List Kp} (h : KeptAt Q w v ks) (hl : ks.length <= 1000) :
  Calls Tryz.prog 76 #[v] w fun e w' => ∃ v', e = .returned v' /\ KeptAt Q w' v' ks /\ (∀ k, k ∈ v'.blk -> w.heap.size <= k) /\ w.Fr w' [] := by
 obtain ⟨a, c, rfl, _, _⟩ := h.sl.shape
 have h1 := h.one
 obtain ⟨n, hn⟩ : ∃ n, ks.length = n := ⟨_, rfl⟩
 rw [hn] at h hl ⊢
 have H := Hz h; have Hl := Hz hl; have H1 := Hz h1; have Hn := Hz hn; clear h hl h1 hn
 have q32 : ∀ (w : World) (a : Option Addr) (n c n' c' : Nat), (binOp .eql 94 (.slice a n c) (.slice none n' c')).run Tryz.prog w = .ok (.bool a.isNone) w := fun w a n c n' c' => Lib.run_eql_slice_nil w _ _ a n c n' c' Tryz.underlying94
 cases a with
 | none =>
  have hl0 : ks = [] := by
   rcases H.out.sl.2 with ⟨he, h0⟩ | ⟨g, off, cap, cur, he, _⟩
   ·cases he
    exact List.eq_nil_of_length_eq_zero (by rw [Hn.out])
   ·cases he
  subst hl0
  go_enter Tryz.func76, Tryz.ntmps76
  go_wp2
  go_ret
  exact ⟨_, rfl, ⟨World.Sl.nil _ _ _, by simp⟩, by simp [Value.blk], World.Fr.refl w []⟩
 | some a =>
  obtain ⟨i0, hi, hz0, hz1, hz2⟩ := info_parts info115c
  have hroom : n <= 1000 := Hl.out
  have hsl := H.out.sl
  rw [Hn.out] at hsl
  have Hsl := Hz hsl
  clear hsl
  go_enter Tryz.func76, Tryz.ntmps76
  go_wp2_with (at_builtin; refine wpList_append_src _ rfl (.tmp 5) (.tmp 6) 94 rfl 115 i0 (.agg #[.int .i64 0, .slice none 0 0, .slice none 0 0]) 3 56 Tryz.underlying94 hi hz0 hz1 hz2 rfl (.slice (some ⟨w.heap.size, 0, none⟩) 0 0) 0 [] rfl ?qs0 (.slice (some a) n c) n (ks.flatMap Kp.cells) rfl ?qs1 H1.out ⟨?qr1, ?qr2⟩ ?_)
  case qs0 => exact World.Sl.lit w 115 #[] 0 3 (by simp [maxLen]) rfl
  case qs1 => exact (Hsl.out.fr ((World.Fr.refl w []).alloc _) (by simp)).rd
  case qr1 => omega
  case qr2 => omega
  intro v' w1 hs hf hb
  obtain ⟨a1, c1, rfl, _, _⟩ := hs.shape
  try simp only [Nat.zero_add, List.nil_append] at hs
  have hfr : w.Fr w1 [] := ((World.Fr.refl w []).alloc _).trans hf (fun j hj => by simp [Value.blk] at hj; exact .inr (by omega))
  have hfin : KeptAt Q w1 (.slice a1 n c1) ks /\ (∀ k, k ∈ (Value.slice a1 n c1).blk -> w.heap.size <= k) /\ w.Fr w1 [] := by
   refine ⟨⟨by rw [Hn.out]; simpa using hs, fun k hk => (H.out.tab k hk).still hfr⟩, fun k hk => ?_, hfr⟩
   rcases hb k (by simpa using hk) with h | h
   ·simp [Value.blk] at h; omega
   ·omega
  have Hown := Hz hfin; clear hfin hs hf hb hfr
  go_wp2
  go_ret
  exact ⟨_, rfl, Hown.out⟩
theorem clone28 {Q : Nat -> Prop} {w : World} {p : Nat} {X : PX} {B : List Nat} (h : OpAt Q w p X B) (hm : X.w.length <= 1000) :
  Calls Tryz.prog 28 #[.pointer (some ⟨p, 0, none⟩)] w fun e w' => ∃ c Bc, e = .returned (.pointer (some ⟨c, 0, none⟩)) /\ OpAt Q w' c X Bc /\ (∀ k, k ∈ Bc -> w.heap.size <= k) /\ w.Fr w' [] := by
 obtain ⟨S, vl, vr, vp, rfl, hp, rfl⟩ := h
 have hm' : S.waits.length <= 1000 := by simpa [PS.px] using hm
 obtain ⟨d1, d2, rfl, _, _⟩ := hp.kept.sl.shape
 obtain ⟨a1, a2, rfl, _, _⟩ := hp.left.shape
 obtain ⟨b1, b2, rfl, _, _⟩ := hp.right.shape
 have q0 := hp.box
 obtain ⟨e0, e1, e2, e3, e4, e5, e6, e7, e8, e9, ef⟩ := ten q0
 have hz := lt_of_heap q0
 have q3 := heap_alloc_at w (.cells (pcells10 S (.slice a1 S.left.length a2) (.slice b1 S.right.length b2) (.slice d1 S.waits.length d2)) 96) _ rfl
 have f3 := (World.Fr.refl w []).alloc (.cells (pcells10 S (.slice a1 S.left.length a2) (.slice b1 S.right.length b2) (.slice d1 S.waits.length d2)) 96)
 have q0' := f3.heap q0 (by simp)
 have hc := clone76 (hp.kept.still f3) hm'
 have HP := Hz hp; have Hc := Hz hc; have F3 := Hz f3; have Q3 := Hz q3; have Q0 := Hz q0'
 clear hp hm hm' hc q0 q0' f3 q3
 go_enter Tryz.func28, Tryz.ntmps28
 go_upto_region 2 with (fail)
 generalize hWW : World.alloc w _ = w3 at *
 clear hWW
 generalize hb3 : w.heap.size = b3 at *
 have Hb3 := Hz hb3
 clear hb3 e0 e1 e2 e3 e4 e5 e6 e7 e8 e9 ef hz
 obtain ⟨e0, e1, e2, e3, e4, e5, e6, e7, e8, e9, ef⟩ := ten Q0.out
 have hz := lt_of_heap Q0.out
 go_wp2_with fail
 (with_reducible refine Hc.out.mono ?_)
 rintro e w4 ⟨v', rfl, hs, hn, hf⟩
 have q3 := hf.heap Q3.out (by simp)
 have hfr := F3.out.trans hf (by simp)
 obtain ⟨n1, n2, rfl, _, _⟩ := hs.sl.shape
 have hset : w4.Fr (w4.setCell ⟨b3, 7, none⟩ (.slice n1 S.waits.length n2)) [b3] := (World.Fr.refl w4 [b3]).setCell (a := ⟨b3, 7, none⟩) (.inl (by simp)) _
 have hod : Odd w4 [b3] := Odd.one q3 (by decide)
 have hsize : b3 < w3.heap.size := lt_of_heap Q3.out
 have hfin : OpAt Q (w4.setCell ⟨b3, 7, none⟩ (.slice n1 S.waits.length n2)) b3 (S.px) (b3 :: (Value.slice n1 S.waits.length n2).blk) /\ (∀ k, k ∈ b3 :: (Value.slice n1 S.waits.length n2).blk -> w.heap.size <= k) /\ w.Fr (w4.setCell ⟨b3, 7, none⟩ (.slice n1 S.waits.length n2)) [] := by
  have hp4 := HP.out.still hfr
  refine ⟨⟨S, _, _, _, rfl, ⟨heap_set_same q3 7 _, hp4.left.fr hset (hod.off hp4.left (.inl rfl)), hp4.right.fr hset (hod.off hp4.right (.inl rfl)), hp4.lw, hp4.rw, hp4.names, hs.fr hset hod (fun k hk hm => ?_)⟩, rfl⟩, fun k hk => ?_, hfr.trans hset (fun k hk => .inr (by simp at hk; subst hk; have := Hb3.out; omega))⟩
  ·simp at hm
   subst hm
   have := hn k hk
   omega
  ·rcases List.mem_cons.1 hk with rfl | hk
   ·have := Hb3.out; omega
   ·have h1 := hn k hk; have := Hb3.out; omega
 obtain ⟨z0, z1, z2, z3, z4, z5, z6, z7, z8, z9, zf⟩ := ten q3
 have hzz := lt_of_heap q3
 have Hfin := Hz hfin
 clear hfin hset hod hs hn hf hfr Hc q3 e0 e1 e2 e3 e4 e5 e6 e7 e8 e9 ef hz Q0
 go_wp2
 go_ret
 exact ⟨_, _, rfl, Hfin.out⟩
end
end Go.Proofs.YtbejmdlncnkaaaaGreat
