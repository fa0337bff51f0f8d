/-
  The document's both, Union, Minus. The document's all, Fits. The document's Anti, Join.
-/
import Derived.Test.YtbejmdlncnkaaaaGreatRmB
import Derived.Test.YtbejmdlncnkaaaaGreatTbY
import Derived.Test.YtbejmdlncnkaaaaGreatTbZ
import Derived.Test.YtbejmdlncnkaaaaGreatRsr
set_option maxRecDepth 100000
set_option maxHeartbeats 16000000
set_option linter.unusedSimpArgs false
namespace Go.Proofs.YtbejmdlncnkaaaaGreat
section
open Go.RowKit
theorem pick_all {l : List BA} (hn : l.Nodup) {r : Row} (hr : r.length = l.length) : pick l r l = r := by
 apply List.ext_getElem?
 intro i
 unfold pick
 rw [List.getElem?_map]
 by_cases hi : i < l.length
 ·rw [List.getElem?_eq_getElem hi, Option.map_some, idx_self hn i hi, Int.toNat_natCast, List.getD_eq_getElem?_getD, List.getElem?_eq_getElem (by omega)]
  rfl
 ·rw [List.getElem?_eq_none (by omega), List.getElem?_eq_none (by omega)]
  rfl
theorem RdRows.one {w : World} {v : Value} {rs : List Row} {hs : List Value} (h : RdRows w v rs hs) : hs.all Value.oneCell' = true := by
 rw [List.all_eq_true]
 intro x hx
 obtain ⟨i, hi⟩ := List.getElem?_of_mem hx
 obtain ⟨a, m, he, _⟩ := (h.row i x (rs[i]'(by have := (List.getElem?_eq_some_iff.1 hi).1; have := h.len; omega)) hi (List.getElem?_eq_getElem _)).rd.shape
 rw [he]; rfl
theorem RdRows.append {w : World} {v v1 v2 : Value} {rs qs : List Row} {hs gs : List Value} (h1 : RdRows w v1 rs hs) (h2 : RdRows w v2 qs gs) (hv : w.Rd 1 v (hs.length + gs.length) (hs ++ gs)) : RdRows w v (rs ++ qs) (hs ++ gs) := by
 refine ⟨by rw [List.length_append]; exact hv, by simp [h1.len, h2.len], fun i hv r e1 e2 => ?_⟩
 have hln := h1.len
 rcases Nat.lt_or_ge i hs.length with hi | hi
 ·rw [List.getElem?_append_left hi] at e1
  rw [List.getElem?_append_left (by omega)] at e2
  exact h1.row i hv r e1 e2
 ·rw [List.getElem?_append_right hi] at e1
  rw [List.getElem?_append_right (by omega), <- hln] at e2
  exact h2.row _ hv r e1 e2
theorem rboth74 {cf : V -> V -> Int} (hRK : RChkOk V.wf) (hRC : RCmpOk V.wf cf) {w : World} {v1 v2 : Value} {s t : Tb} (h1 : RdTab w v1 s) (h2 : RdTab w v2 t) (hs : Fits V.wf s) (ht : Fits V.wf t) :
  Calls Tryz.prog 66 #[v1, v2] w fun e w' => e = .returned (.int .i64 (bothE cf s t)) /\ w.Fr w' [] := by
 have hc1 := fun w' (hf : w.Fr w' []) => rcheck16 hRK hRC (h1.still hf) hs.ok hs.small.vars hs.small.rows hs.small.row
 have hc2 := fun w' (hf : w.Fr w' []) => rcheck16 hRK hRC (h2.still hf) ht.ok ht.small.vars ht.small.rows ht.small.row
 obtain ⟨xa, xb, xhs, rfl, hxv, hxr⟩ := h1.ex
 obtain ⟨ya, yb, yhs, rfl, hyv, hyr⟩ := h2.ex
 obtain ⟨a1, c1, rfl, _, _⟩ := hxv.rd.shape
 obtain ⟨a2, c2, rfl, _, _⟩ := hxr.rd.shape
 obtain ⟨a3, c3, rfl, _, _⟩ := hyv.rd.shape
 obtain ⟨a4, c4, rfl, _, _⟩ := hyr.rd.shape
 have Hc1 := Hz hc1; have Hc2 := Hz hc2; clear hc1 hc2 h1 h2 hs ht hxv hxr hyv hyr hRK hRC
 generalize hR : bothE cf s t = R
 have HR := Hz hR; clear hR
 have q1 := heap_alloc_some (heap_alloc_at w (.cells #[.slice a1 s.vars.length c1, .slice a2 xhs.length c2] 34) _ rfl) (.cells #[.slice a3 t.vars.length c3, .slice a4 yhs.length c4] 34)
 have q2 : ((w.alloc (.cells #[.slice a1 s.vars.length c1, .slice a2 xhs.length c2] 34)).alloc (.cells #[.slice a3 t.vars.length c3, .slice a4 yhs.length c4] 34)).heap[w.heap.size + 1]? = some (.cells #[.slice a3 t.vars.length c3, .slice a4 yhs.length c4] 34) := heap_alloc_at _ _ _ (by simp)
 have q3 := ((World.Fr.refl w []).alloc (.cells #[.slice a1 s.vars.length c1, .slice a2 xhs.length c2] 34)).alloc (.cells #[.slice a3 t.vars.length c3, .slice a4 yhs.length c4] 34)
 go_enter Tryz.func66, Tryz.ntmps66
 go_upto_region 1 with (fail)
 generalize hW : World.alloc (World.alloc w _) _ = W at *
 clear hW
 obtain ⟨p0, p1, pf⟩ := two q1
 obtain ⟨r0, r1, rf⟩ := two q2
 have Q2 := Hz q2; have Q3 := Hz q3; clear q1 q2 q3
 go_wp2_with fail
 (with_reducible refine (Hc1.out _ Q3.out).mono ?_)
 rintro e w1 ⟨rfl, hf1⟩
 have q2 := hf1.heap Q2.out (by simp)
 have Q4 := Hz (Q3.out.trans hf1 (by simp))
 clear p0 p1 pf r0 r1 rf hf1 Q2 Q3
 obtain ⟨r0, r1, rf⟩ := two q2
 clear q2
 by_cases h0 : tcheck cf s = 0
 ·have hres : R = tcheck cf t := by rw [<- HR.out, bothE, if_pos h0]
  subst hres
  rw [h0]
  clear h0 HR
  go_wp2_with fail
  (with_reducible refine (Hc2.out _ Q4.out).mono ?_)
  rintro e w2 ⟨rfl, hf2⟩
  have Q5 := Hz (Q4.out.trans hf2 (by simp)); clear hf2
  go_wp2
  go_ret
  exact ⟨rfl, Q5.out⟩
 ·have hres : R = tcheck cf s := by rw [<- HR.out, bothE, if_neg h0]
  subst hres
  have h0b : (tcheck cf s == 0) = false := beq_eq_false_iff_ne.2 h0
  have h0c : (tcheck cf s != 0) = true := by simp [h0]
  clear h0 HR
  go_wp2
  go_ret
  exact ⟨rfl, Q4.out⟩
open Classical in
theorem runion43 {cf : V -> V -> Int} (hRK : RChkOk V.wf) (hRC : RCmpOk V.wf cf) (hO : OrdOk (fun v => V.wf v /\ vcheck v = 0) cf) {w : World} {v1 v2 : Value} {a b : Tb} (h1 : RdTab w v1 a) (h2 : RdTab w v2 b) (ha : Fits V.wf a) (hb : Fits V.wf b) (hmany : a.rows.length + b.rows.length <= 5864062014634) :
  Calls Tryz.prog 22 #[v1, v2] w fun e w' => ∃ v, e = .returned (.tuple #[v, .int .i64 (unionT cf a b).1]) /\ OwnTab w w' v (unionT cf a b).2 := by
 have hboth := fun w' (hf : w.Fr w' []) => rboth74 hRK hRC (h1.still hf) (h2.still hf) ha hb
 have htab := h2
 have Hmany := Hz hmany; clear hmany
 obtain ⟨x1, y1, hs1, rfl, hv1, hr1⟩ := h1.ex
 obtain ⟨x2, y2, hs2, rfl, hv2, hr2⟩ := h2.ex
 obtain ⟨a1, c1, rfl, _, _⟩ := hv1.rd.shape
 obtain ⟨a2, c2, rfl, _, _⟩ := hr1.rd.shape
 obtain ⟨a3, c3, rfl, _, _⟩ := hv2.rd.shape
 obtain ⟨a4, c4, rfl, _, _⟩ := hr2.rd.shape
 have hlen := hr1.len
 have hlen2 := hr2.len
 generalize hR : unionT cf a b = R
 rw [hlen] at hboth ⊢
 rw [hlen2] at hboth htab ⊢
 clear h1 h2
 have Htab := Hz htab; have Hv1 := Hz hv1; have Hv2 := Hz hv2; have Hr1 := Hz hr1; have Ha := Hz ha; have Hb := Hz hb; have HRC := Hz hRC; have HO := Hz hO; have Hboth := Hz hboth; have Hr2 := Hz hr2; have HR := Hz hR; have Hlen := Hz hlen; have Hlen2 := Hz hlen2; clear hv1 hv2 hr1 hr2 ha hb hRK hRC hO hboth hR hlen hlen2 htab
 go_enter Tryz.func22, Tryz.ntmps22
 go_upto_region 1 with (fail)
 generalize hW : World.alloc (World.alloc (World.alloc w _) _) _ = W
 have q1 : W.heap[w.heap.size]? = some (.cells #[.slice a1 a.vars.length c1, .slice a2 a.rows.length c2] 34 (0, 0)) := by rw [<- hW]; exact heap_alloc_some (heap_alloc_some (heap_alloc_at _ _ _ rfl) _) _
 have q2 : W.heap[w.heap.size + 1]? = some (.cells #[.slice a3 b.vars.length c3, .slice a4 b.rows.length c4] 34 (0, 0)) := by rw [<- hW]; exact heap_alloc_some (heap_alloc_at _ _ _ (by simp)) _
 have q4 : W.heap[w.heap.size + 1 + 1]? = some (.cells #[.slice none 0 0, .slice none 0 0] 34 (0, 0)) := by rw [<- hW]; exact heap_alloc_at _ _ _ (by simp)
 have q3 : w.Fr W [] := by rw [<- hW]; exact (((World.Fr.refl w []).alloc _).alloc _).alloc _
 clear hW
 generalize hb1 : w.heap.size = b1 at *
 have Hb1 := Hz hb1; clear hb1
 obtain ⟨p0, p1, pf⟩ := two q1
 obtain ⟨s0, s1, sf⟩ := two q2
 have Q1 := Hz q1; have Q2 := Hz q2; have Q3 := Hz q3; have Q4 := Hz q4; clear q1 q2 q3 q4
 have hbad : ∀ (W : World), w.Fr W [] -> W.heap[b1 + 1 + 1]? = some (.cells #[.slice none 0 0, .slice none 0 0] 34 (0, 0)) -> OwnTab w ((W.setCell ⟨b1 + 1 + 1, 0, none⟩ (.slice none 0 0)).setCell ⟨b1 + 1 + 1, 1, none⟩ (.slice none 0 0)) (.agg #[.slice none 0 0, .slice none 0 0]) tNone /\
   ((W.setCell ⟨b1 + 1 + 1, 0, none⟩ (.slice none 0 0)).setCell ⟨b1 + 1 + 1, 1, none⟩ (.slice none 0 0)).heap[b1 + 1 + 1]? = some (.cells #[.slice none 0 0, .slice none 0 0] 34 (0, 0)) := fun W hf hb => (OwnTab.empty (w := w) hf).put hb (by have := Hb1.out; omega)
 have Hbad := Hz hbad; clear hbad
 go_wp2_with fail
 (with_reducible refine (Hboth.out _ Q3.out).mono ?_)
 rintro e w1 ⟨rfl, hf1⟩
 have q1 := hf1.heap Q1.out (by simp)
 have q2 := hf1.heap Q2.out (by simp)
 have q4 := hf1.heap Q4.out (by simp)
 have q3 := Q3.out.trans hf1 (by simp)
 clear p0 p1 pf s0 s1 sf Q1 Q2 Q3 Q4 hf1 Hboth
 obtain ⟨p0, p1, pf⟩ := two q1
 obtain ⟨s0, s1, sf⟩ := two q2
 obtain ⟨r0, r1, rf⟩ := two q4
 have hlb := lt_of_heap q1
 have hlb2 := lt_of_heap q2
 have hlb4 := lt_of_heap q4
 have Q1 := Hz q1; have Q2 := Hz q2; have Q3 := Hz q3; have Q4 := Hz q4; clear q1 q2 q3 q4
 by_cases h0 : bothE cf a b = 0
 ·rw [h0]
  obtain ⟨ha0, hb0⟩ := bothE_zero h0
  obtain ⟨k1, k2, k3, k4⟩ := tcheck_zero ha0
  obtain ⟨l1, l2, l3, l4⟩ := tcheck_zero hb0
  have K1 := Hz k1; have K2 := Hz k2; have K3 := Hz k3; have L1 := Hz l1; have L2 := Hz l2; have L3 := Hz l3; have H0 := Hz h0
  clear h0 ha0 hb0 k1 k2 k3 k4 l1 l2 l3 l4
  have hsv := rsameVars52 (Hv1.out.fr Q3.out (by simp)) (Hv2.out.fr Q3.out (by simp)) (by have := K1.out; omega)
  have Hsv := Hz hsv
  clear hsv
  go_wp2_with fail
  (with_reducible refine Hsv.out.mono ?_)
  rintro e w2 ⟨rfl, hf2⟩
  have q1 := hf2.heap Q1.out (by simp)
  have q2 := hf2.heap Q2.out (by simp)
  have q4 := hf2.heap Q4.out (by simp)
  have q3 := Q3.out.trans hf2 (by simp)
  clear p0 p1 pf s0 s1 sf r0 r1 rf hlb hlb2 hlb4 Q1 Q2 Q3 Q4 Hsv hf2
  obtain ⟨p0, p1, pf⟩ := two q1
  obtain ⟨s0, s1, sf⟩ := two q2
  obtain ⟨r0, r1, rf⟩ := two q4
  have hlb := lt_of_heap q1
  have hlb2 := lt_of_heap q2
  have hlb4 := lt_of_heap q4
  have Q1 := Hz q1; have Q2 := Hz q2; have Q3 := Hz q3; have Q4 := Hz q4; clear q1 q2 q3 q4
  cases hev : eqB a.vars b.vars with
  | false =>
   have hne : a.vars ≠ b.vars := fun e => by rw [eqB_true e] at hev; cases hev
   have hres : R = (30, tNone) := by rw [<- HR.out]; unfold unionT; rw [if_neg (by simp [H0.out]), if_pos hne]
   subst hres
   clear hne hev HR
   have hfin := Hbad.out _ Q3.out Q4.out
   obtain ⟨f0, f1, _⟩ := two hfin.2
   have Hfin := Hz hfin.1
   clear hfin p0 p1 pf
   go_wp2
   refine bodyPost_ret (v := .tuple #[.agg #[.slice none 0 0, .slice none 0 0], .int .i64 30]) (by simp [results, Tryz.results22, go_sem, f0, f1]) rfl ⟨_, rfl, Hfin.out⟩
  | true =>
   have heq : a.vars = b.vars := by unfold eqB at hev; simpa using hev
   have hres : R = (0, madeT cf a.vars (a.rows ++ b.rows)) := by rw [<- HR.out]; unfold unionT; rw [if_neg (by simp [H0.out]), if_neg (by simp [heq])]
   subst hres
   have Heq := Hz heq
   clear heq hev HR
   have hn1 : a.rows.length <= 5864062014634 := by have := Hmany.out; omega
   have hs1r := (Hr1.out.still Q3.out).rd
   rw [Hlen.out] at hs1r
   have Hs1r := Hz hs1r; clear hs1r
   obtain ⟨ih, hih, hh0, hh1, hh2⟩ := info_parts infoH
   go_wp2_with (at_builtin; refine wpList_append_src _ rfl (.tmp 24) (.tmp 26) 32 rfl 81 ih (.slice none 0 0) 1 24 Tryz.underlying32 hih hh0 hh1 hh2 rfl (.slice none 0 0) 0 [] rfl (World.Sl.nil _ _ _) (.slice a2 a.rows.length c2) a.rows.length hs1 rfl Hs1r.out Hr1.out.one ⟨by omega, by omega⟩ ?_)
   intro v' w5 hs5 hf5 hb5
   obtain ⟨a6, c6, rfl, _, _⟩ := hs5.shape
   try simp only [Nat.zero_add, List.nil_append] at hs5
   try simp only [Nat.zero_add]
   have hf5' : w2.Fr w5 [] := by simpa [Value.blk] using hf5
   have hnew : ∀ k, k ∈ (Value.slice a6 a.rows.length c6).blk -> w2.heap.size <= k := fun k hk => by
    rcases hb5 k hk with h | h
    ·simp [Value.blk] at h
    ·omega
   have q1 := hf5'.heap Q1.out (by simp)
   have q2 := hf5'.heap Q2.out (by simp)
   have q4 := hf5'.heap Q4.out (by simp)
   have q3 := Q3.out.trans hf5' (by simp)
   have Hnew := Hz hnew; have Hs5 := Hz hs5
   have Hle := Hz hlb4; have Hle5 := Hz hf5'.size
   clear p0 p1 pf s0 s1 sf r0 r1 rf hlb hlb2 hlb4 Q1 Q2 Q4 hnew hs5 hf5 hb5 hf5' Hs1r hn1 ih hih hh0 hh1 hh2
   obtain ⟨p0, p1, pf⟩ := two q1
   obtain ⟨s0, s1, sf⟩ := two q2
   have Q1 := Hz q1; have Q4 := Hz q4; have Q3b := Hz q3; clear q1 q2 q4 q3
   have hs2r := (Hr2.out.still Q3b.out).rd
   rw [Hlen2.out] at hs2r
   have Hs2r := Hz hs2r; clear hs2r
   have hn2 : a.rows.length + b.rows.length <= 5864062014634 := Hmany.out
   obtain ⟨ih, hih, hh0, hh1, hh2⟩ := info_parts infoH
   go_wp2_with (at_builtin; refine wpList_append_src _ rfl (.tmp 28) (.tmp 30) 32 rfl 81 ih (.slice none 0 0) 1 24 Tryz.underlying32 hih hh0 hh1 hh2 rfl (.slice a6 a.rows.length c6) a.rows.length hs1 rfl Hs5.out (.slice a4 b.rows.length c4) b.rows.length hs2 rfl Hs2r.out Hr2.out.one ⟨by omega, by omega⟩ ?_)
   intro v' w6 hs6 hf6 hb6
   obtain ⟨a7, c7, rfl, _, _⟩ := hs6.shape
   have hdis : ∀ k, k ∈ (Value.slice a6 a.rows.length c6).blk -> w.heap.size <= k /\ k ≠ b1 /\ k ≠ b1 + 1 + 1 := fun k hk => by
    have h1 := Hnew.out k hk; have h2 := Hle.out; have h3 := Hb1.out
    refine ⟨by omega, by omega, by omega⟩
   have q1 := hf6.heap Q1.out (fun hk => (hdis _ hk).2.1 rfl)
   have q4 := hf6.heap Q4.out (fun hk => (hdis _ hk).2.2 rfl)
   have hfw := Q3b.out.trans hf6 (fun k hk => .inr (hdis k hk).1)
   have hrows : RdRows w6 (.slice a7 (a.rows.length + b.rows.length) c7) (a.rows ++ b.rows) (hs1 ++ hs2) := (Hr1.out.still hfw).append (Hr2.out.still hfw) (by rw [Hlen.out, Hlen2.out]; exact hs6.rd)
   have hc := rmade77m HRC.out HO.out (Hv1.out.fr hfw (by simp)) hrows (by have := K1.out; omega) (by rw [List.length_append]; exact Hmany.out) (nodup_of_pair K2.out) (fun r hr => by
    rcases List.mem_append.1 hr with h | h
    ·exact K3.out r h
    ·rw [Heq.out]; exact L3.out r h) (fun r hr => by
    rcases List.mem_append.1 hr with h | h
    ·exact Ha.out.ok r h
    ·exact Hb.out.ok r h)
   have Hc := Hz hc; have Hfw := Hz hfw; have Q4c := Hz q4
   clear hc hfw hrows q4 hs6 hf6 hb6 hdis hn2 Hs2r p0 p1 pf s0 s1 sf ih hih hh0 hh1 hh2
   obtain ⟨p0, p1, pf⟩ := two q1
   clear q1
   go_wp2_with fail
   (with_reducible refine Hc.out.mono ?_)
   rintro e w7 ⟨v, rfl, ho⟩
   obtain ⟨x1, y1, x2, y2, rfl⟩ := ho.shape
   have hbx := ho.fr.heap Q4c.out (by simp)
   have ho2 := (ho.since Hfw.out).put hbx (by have := Hb1.out; omega)
   clear p0 p1 pf
   obtain ⟨p0, p1, pf⟩ := two hbx
   have hbW := lt_of_heap hbx
   obtain ⟨f0, f1, _⟩ := two ho2.2
   have Hfin := Hz ho2.1
   clear ho2 ho hbx
   go_wp2
   refine bodyPost_ret (v := .tuple #[.agg #[.slice x1 _ y1, .slice x2 _ y2], .int .i64 0]) (by simp [results, Tryz.results22, go_sem, f0, f1]) rfl ⟨_, rfl, Hfin.out⟩
 ·have hres : R = (bothE cf a b, tNone) := by rw [<- HR.out]; unfold unionT; rw [if_pos h0]
  have h0b : (bothE cf a b == 0) = false := beq_eq_false_iff_ne.2 h0
  have h0c : (bothE cf a b != 0) = true := by simp [h0]
  clear h0 HR
  generalize bothE cf a b = z at *
  subst hres
  have hfin := Hbad.out _ Q3.out Q4.out
  obtain ⟨f0, f1, _⟩ := two hfin.2
  have Hfin := Hz hfin.1
  clear hfin p0 p1 pf
  go_wp2
  refine bodyPost_ret (v := .tuple #[.agg #[.slice none 0 0, .slice none 0 0], .int .i64 z]) (by simp [results, Tryz.results22, go_sem, f0, f1]) rfl ⟨_, rfl, Hfin.out⟩
end
section
open Go.RowKit
open Classical in
noncomputable def rowsFit (l : List BA) (x : Row) (m : List BA) (y : Row) : Bool := decide (pick m y (sharedL l m) = pick l x (sharedL l m))
open Classical in
theorem fits_iff {l m : List BA} {x y : Row} : rowsFit l x m y = true ↔ ∀ s, s ∈ l -> s ∈ m -> y.getD (idx m s).toNat default = x.getD (idx l s).toNat default := by
 unfold rowsFit
 rw [decide_eq_true_iff]
 unfold pick
 rw [List.map_inj_left]
 exact ⟨fun h s h1 h2 => h s (sharedL_mem.2 ⟨h1, h2⟩), fun h s hs => h s (sharedL_mem.1 hs).1 (sharedL_mem.1 hs).2⟩
theorem at_getD {r : Row} {j : Nat} {v : V} (h : r[j]? = some v) : r.getD j default = v := by
 rw [List.getD_eq_getElem?_getD, h]; rfl
theorem rfits46 {w : World} {v1 v2 v3 v4 : Value} {l m : List BA} {x y : Row} (h1 : RdStr w v1 l) (h2 : RdRow w v2 x) (h3 : RdStr w v3 m) (h4 : RdRow w v4 y) (hn : l.Nodup) (hx : x.length = l.length) (hy : y.length = m.length) (hl : l.length <= 8000000000000000000) (hm : m.length <= 8000000000000000000) :
  Calls Tryz.prog 160 #[v1, v2, v3, v4] w fun e w' => e = .returned (.bool (rowsFit l x m y)) /\ w.Fr w' [] := by
 obtain ⟨a1, c1, rfl, _, _⟩ := h1.rd.shape
 obtain ⟨a2, c2, rfl, _, _⟩ := h2.rd.shape
 obtain ⟨a3, c3, rfl, _, _⟩ := h3.rd.shape
 obtain ⟨a4, c4, rfl, _, _⟩ := h4.rd.shape
 have hself := fun (i : Nat) (hi : i < l.length) => idx_self hn i hi
 have H1 := Hz h1; have H2 := Hz h2; have H3 := Hz h3; have H4 := Hz h4; have Hl := Hz hl; have Hm := Hz hm; have Hx := Hz hx; have Hy := Hz hy; have Hself := Hz hself
 clear h1 h2 h3 h4 hl hm hx hy hn hself
 generalize hR : rowsFit l x m y = R
 have HR := Hz hR; clear hR
 generalize hxl : x.length = xl at *
 generalize hyl : y.length = yl at *
 have Hxl := Hz hxl; have Hyl := Hz hyl; clear hxl hyl
 go_enter Tryz.func160, Tryz.ntmps160
 go_wp2
 go_loopw [9] (fun i wr => ∃ j : Nat, i = .int .i64 j /\ j <= l.length /\ Hid (∀ s, s ∈ l.take j -> s ∈ m -> y.getD (idx m s).toNat default = x.getD (idx l s).toNat default) /\ Hid (w.Fr wr [])) (fun i _ => (l.length - intOf i).toNat)
 case atStart => exact ⟨0, rfl, Nat.zero_le _, Hz (by simp), Hz (World.Fr.refl w [])⟩
 case round =>
  obtain ⟨j, rfl, hj, HA, HF⟩ := hrel
  by_cases hlt : j < l.length
  ·obtain ⟨s, hs⟩ : ∃ s, l[j]? = some s := ⟨l[j], List.getElem?_eq_getElem (by omega)⟩
   obtain ⟨g, off, c, hv, hg, kx⟩ := (H1.out.fr HF.out (by simp)).at hs
   cases hv
   have hrI : (j : Int) < (l.length : Int) := by omega
   have hw1 : IntKind.i64.wrap ((j : Int) + 1) = (j : Int) + 1 := IntWalk.i64_in _ (by have := Hl.out; omega)
   have hnn : (0 : Int) <= (j : Int) := by omega
   have hij : idx l s = j := by have := Hself.out j hlt; rw [(List.getElem?_eq_some_iff.1 hs).2] at this; exact this
   have hc := rfind81 s (H3.out.fr HF.out (by simp)) Hm.out
   have him := idx_mem (l := m) (x := s)
   have hpr := idx_range m s
   have hsn : l.take (j + 1) = l.take j ++ [s] := by
    rw [List.take_succ_eq_append_getElem hlt, (List.getElem?_eq_some_iff.1 hs).2]
   have hsm := List.mem_of_getElem? hs
   have hstep : ∀ (P : BA -> Prop), (∀ z, z ∈ l.take j -> P z) -> P s -> ∀ z, z ∈ l.take (j + 1) -> P z := fun P hp hq z hz => by
    rw [hsn] at hz
    rcases List.mem_append.1 hz with h | h
    ·exact hp z h
    ·simp at h; subst h; exact hq
   generalize hix : idx m s = ix at *
   have Hc := Hz hc; have Him := Hz him; have Hpr := Hz hpr; have Hstep := Hz hstep; have Hix := Hz hix; have Hij := Hz hij; have Hsm := Hz hsm
   clear hc him hpr hsn hstep hix hij hs hsm
   go_wp2_with fail
   (with_reducible refine Hc.out.mono ?_)
   rintro e w9 ⟨rfl, rfl⟩
   clear Hc
   by_cases hi : 0 <= ix
   ·have hd : decide ((0 : Int) <= ix) = true := decide_eq_true hi
    obtain ⟨p, rfl⟩ : ∃ p : Nat, ix = p := ⟨ix.toNat, by omega⟩
    have hpN : p < m.length := by have := Hpr.out; omega
    have hpI : (p : Int) < (yl : Int) := by have := Hy.out; omega
    have hjX : (j : Int) < (xl : Int) := by have := Hx.out; omega
    have hpn : (0 : Int) <= (p : Int) := by omega
    obtain ⟨u, hu⟩ : ∃ u, x[j]? = some u := ⟨x[j]'(by have := Hxl.out; have := Hx.out; omega), List.getElem?_eq_getElem _⟩
    obtain ⟨z, hz⟩ : ∃ z, y[p]? = some z := ⟨y[p]'(by have := Hyl.out; have := Hy.out; omega), List.getElem?_eq_getElem _⟩
    have h2' := H2.out.fr HF.out (by simp)
    have h4' := H4.out.fr HF.out (by simp)
    obtain ⟨g2, off2, c2', hv2, hg2, ku0, ku1, ku2, ku3⟩ := h2'.at hu
    obtain ⟨g4, off4, c4', hv4, hg4, kz0, kz1, kz2, kz3⟩ := h4'.at hz
    rw [Hxl.out] at hv2
    rw [Hyl.out] at hv4
    cases hv2; cases hv4
    have hgu := at_getD hu
    have hgz := at_getD hz
    have Hgu := Hz hgu; have Hgz := Hz hgz
    clear hu hz h2' h4' hgu hgz hi hpN kx hg
    go_wp2
    go_still_tail 8, (by kernel_rfl)
    change wpList _ _ _ _ _ wr.drew
    go_wp2_with fail
    (with_reducible refine (rsame87 u z _).mono ?_)
    rintro e w2 ⟨rfl, hf2⟩
    have HF2 := Hz (HF.out.drew.trans hf2.fr (by simp)); clear hf2 ku0 ku1 ku2 ku3 kz0 kz1 kz2 kz3
    by_cases huz : u = z
    ·subst huz
     rw [eqB_true rfl]
     have hA2 := Hstep.out (fun s => s ∈ m -> y.getD (idx m s).toNat default = x.getD (idx l s).toNat default) HA.out (fun _ => by rw [Hix.out, Hij.out, Int.toNat_natCast, Int.toNat_natCast, Hgu.out, Hgz.out])
     have HA2 := Hz hA2; clear hA2
     go_wp2
     go_roundw
     case rel => exact ⟨j + 1, by go_num, by omega, HA2, HF2⟩
     case measure => simp [intOf]; omega
    ·have hres : R = false := by
      rw [<- HR.out]
      cases hf : rowsFit l x m y with
      | false => rfl
      | true =>
       have := fits_iff.1 hf s Hsm.out (Him.out.1 (by omega))
       rw [Hix.out, Hij.out, Int.toNat_natCast, Int.toNat_natCast, Hgu.out, Hgz.out] at this
       exact absurd this.symm huz
     subst hres
     rw [eqB_false huz]
     clear huz HR HA
     go_wp2
     go_ret
     exact ⟨rfl, HF2.out⟩
   ·have hd : decide ((0 : Int) <= ix) = false := decide_eq_false hi
    have hA2 := Hstep.out (fun s => s ∈ m -> y.getD (idx m s).toNat default = x.getD (idx l s).toNat default) HA.out (fun hm => absurd (Him.out.2 hm) hi)
    have HA2 := Hz hA2; clear hA2 hi
    go_wp2
    go_roundw
    case rel => exact ⟨j + 1, by go_num, by omega, HA2, HF⟩
    case measure => simp [intOf]; omega
  ·have hd : decide ((j : Int) < (l.length : Int)) = false := decide_eq_false (by omega)
   have hd2 : decide (j < l.length) = false := decide_eq_false hlt
   obtain rfl : j = l.length := by omega
   have hA := HA.out
   rw [List.take_of_length_le (Nat.le_refl _)] at hA
   have hres : R = true := by rw [<- HR.out]; exact fits_iff.2 hA
   subst hres
   clear HA hA hlt hj HR
   go_wp2
   go_ret
   exact ⟨rfl, HF.out⟩
theorem rall75 {w : World} {v1 v2 : Value} {a b : List BA} (h1 : RdStr w v1 a) (h2 : RdStr w v2 b) (ha : a.length <= 8) (hb : b.length <= 8) :
  Calls Tryz.prog 159 #[v1, v2] w fun e w' => ∃ v, e = .returned v /\ Own w w' 9 v ((a ++ leftL b a).map Value.string) := by
 obtain ⟨a1, c1, rfl, _, _⟩ := h1.rd.shape
 obtain ⟨a2, c2, rfl, _, _⟩ := h2.rd.shape
 have H1 := Hz h1; have H2 := Hz h2; have Ha := Hz ha; have Hb := Hz hb
 clear h1 h2 ha hb
 have ha8 : a.length <= 8 := Ha.out
 obtain ⟨i0, hi0, hz0, hz1, hz2⟩ := info_parts infoS
 go_enter Tryz.func159, Tryz.ntmps159
 go_wp2_with (at_builtin; refine wpList_append_src _ rfl (.tmp 8) (.tmp 9) 24 rfl 9 i0 (.string .empty) 1 16 Tryz.underlying24 hi0 hz0 hz1 hz2 rfl (.slice none 0 0) 0 [] rfl (World.Sl.nil _ _ _) (.slice a1 a.length c1) a.length (a.map Value.string) rfl H1.out.rd (one_strings a) ⟨by omega, by omega⟩ ?_)
 intro v' w5 hs5 hf5 hb5
 obtain ⟨a6, c6, rfl, _, _⟩ := hs5.shape
 try simp only [Nat.zero_add, List.nil_append] at hs5
 try simp only [Nat.zero_add]
 have hown : Own w w5 9 (.slice a6 a.length c6) (a.map Value.string) := ⟨by rw [List.length_map]; exact hs5, fun k hk => by
  rcases hb5 k hk with h | h
  ·simp [Value.blk] at h
  ·omega, by simpa [Value.blk] using hf5⟩
 have HO0 : Hid (Own w w5 9 (.slice a6 a.length c6) ((a ++ leftL (b.take 0) a).map Value.string)) := Hz (by
  have e : leftL (b.take 0) a = [] := rfl
  rw [e, List.append_nil]; exact hown)
 clear hs5 hf5 hb5 hown i0 hi0 hz0 hz1 hz2 ha8
 go_wp2
 go_loopw [5, 6] (fun v i wr => ∃ j : Nat, i = .int .i64 j /\ j <= b.length /\ Hid (Own w wr 9 v ((a ++ leftL (b.take j) a).map Value.string))) (fun _ i _ => (b.length - intOf i).toNat)
 case atStart => exact ⟨0, rfl, Nat.zero_le _, HO0⟩
 case round =>
  obtain ⟨j, rfl, hj, HO⟩ := hrel
  clear HO0
  obtain ⟨L, hL⟩ : ∃ L, a ++ leftL (b.take j) a = L := ⟨_, rfl⟩
  have hO := HO.out
  rw [hL] at hO
  obtain ⟨ya, yc, rfl⟩ := hO.shape
  rw [List.length_map] at hO ⊢
  have hkl : L.length <= 16 := by
   rw [<- hL]
   have := List.length_filter_le (fun x => !hasS a x) (b.take j)
   rw [List.length_append]
   have h2 : (b.take j).length <= 8 := by rw [List.length_take]; have := Hb.out; omega
   have := Ha.out
   unfold leftL
   omega
  have Hkl := Hz hkl; have HO2 := Hz hO; have HL := Hz hL
  clear HO hO hkl hL
  by_cases hlt : j < b.length
  ·obtain ⟨x, hx⟩ : ∃ x, b[j]? = some x := ⟨b[j], List.getElem?_eq_getElem (by omega)⟩
   obtain ⟨g, off, c, hv, hg, kx⟩ := (H2.out.fr HO2.out.fr (by simp)).at hx
   cases hv
   have hrI : (j : Int) < (b.length : Int) := by omega
   have hw1 : IntKind.i64.wrap ((j : Int) + 1) = (j : Int) + 1 := IntWalk.i64_in _ (by have := Hb.out; omega)
   have hc := rfind81 x (H1.out.fr HO2.out.fr (by simp)) (by have := Ha.out; omega)
   have him := idx_mem (l := a) (x := x)
   have hsn : b.take (j + 1) = b.take j ++ [x] := by
    rw [List.take_succ_eq_append_getElem hlt, (List.getElem?_eq_some_iff.1 hx).2]
   generalize hix : idx a x = ix at *
   have Hc := Hz hc; have Him := Hz him; have Hsn := Hz hsn; clear hc him hix hx hsn
   have hnn : (0 : Int) <= (j : Int) := by omega
   go_wp2_with fail
   (with_reducible refine Hc.out.mono ?_)
   rintro e w9 ⟨rfl, rfl⟩
   clear Hc
   by_cases hi : ix < 0
   ·have hd : decide (ix < (0 : Int)) = true := decide_eq_true hi
    have hxn : x ∉ a := fun h => by have := Him.out.2 h; omega
    have hnew : a ++ leftL (b.take (j + 1)) a = L ++ [x] := by
     rw [<- HL.out, Hsn.out]; unfold leftL; rw [List.filter_append]; simp [hasS, hxn]
    have Hnew := Hz hnew
    clear hi hxn hnew
    have hroom : L.length <= 16 := Hkl.out
    have hsl := HO2.out.sl
    rw [List.length_map] at hsl
    have Hsl := Hz hsl; clear hsl
    have hgl : g < wr.heap.size + 1 := by omega
    obtain ⟨i0, hi0, hz0, hz1, hz2⟩ := info_parts infoS
    go_wp2_with (at_builtin; refine wpList_append_one _ rfl (.tmp 25) (.tmp 30) 24 rfl 9 i0 (.string .empty) 1 16 Tryz.underlying24 hi0 hz0 hz1 hz2 rfl (.slice ya L.length yc) L.length (L.map Value.string) rfl (Hsl.out.alloc _) wr.heap.size 1 [.string x] 9 rfl (heap_alloc_at _ _ _ rfl) rfl rfl ⟨by omega, by omega⟩ ?_)
    intro g3 off3 c3 w5 hsl3 hfr3 hat hlt3
    have hown := (HO2.out.still ((World.Fr.refl wr []).alloc (.cells #[.string x] 9))).appended (x := .string x) (g := g3) (off := off3) (c := c3) (by rw [List.length_map]; exact hsl3) hfr3 (by simpa using hat)
    rw [List.length_map] at hown
    have hmap : L.map Value.string ++ [.string x] = (L ++ [x]).map Value.string := by simp
    rw [hmap, <- Hnew.out] at hown
    have Hown := Hz hown; clear hown hsl3 hfr3 hat kx hlt3 hmap i0 hi0 hz0 hz1 hz2
    go_wp2
    go_roundw
    case rel => exact ⟨j + 1, by go_num, by omega, Hown⟩
    case measure => simp [intOf]; omega
   ·have hd : decide (ix < (0 : Int)) = false := decide_eq_false hi
    have hxi : x ∈ a := Him.out.1 (by omega)
    have hnew : leftL (b.take (j + 1)) a = leftL (b.take j) a := by
     rw [Hsn.out]; unfold leftL; rw [List.filter_append]; simp [hasS, hxi]
    have Hnew := Hz hnew
    clear hi hxi hnew
    go_wp2
    go_roundw
    case rel => exact ⟨j + 1, by go_num, by omega, by rw [Hnew.out, HL.out]; exact HO2⟩
    case measure => simp [intOf]; omega
  ·have hd : decide ((j : Int) < (b.length : Int)) = false := decide_eq_false (by omega)
   have hd2 : decide (j < b.length) = false := decide_eq_false hlt
   obtain rfl : j = b.length := by omega
   have hLb := HL.out
   rw [List.take_of_length_le (Nat.le_refl _)] at hLb
   have HLb := Hz hLb
   clear hlt hj Hkl hLb
   go_wp2
   go_ret
   refine ⟨_, rfl, ?_⟩
   rw [HLb.out]
   exact HO2.out
end
section
open Go.RowKit
noncomputable def anyFit (a b : Tb) (rows : List Row) (x : Row) : Bool := rows.any fun y => rowsFit a.vars x b.vars y
open Classical in
theorem antiRows_fit (a b : Tb) : antiRows a b = a.rows.filter fun x => !anyFit a b b.rows x := by
 unfold antiRows anyFit
 refine List.filter_congr fun x _ => ?_
 rw [Bool.eq_iff_iff, decide_eq_true_iff, Bool.not_eq_true', <- Bool.not_eq_true, List.any_eq_true]
 constructor
 ·rintro h ⟨y, hy, hf⟩
  exact h y hy (by unfold rowsFit at hf; exact of_decide_eq_true hf)
 ·intro h y hy he
  exact h ⟨y, hy, by unfold rowsFit; exact decide_eq_true he⟩
noncomputable def joinL (a b : Tb) (rs : List Row) : List Row := rs.flatMap fun x => (fitRows a b x).map fun y => x ++ pick b.vars y (leftL b.vars a.vars)
theorem fitRows_eq (a b : Tb) (x : Row) : fitRows a b x = b.rows.filter fun y => rowsFit a.vars x b.vars y := rfl
theorem joinL_all (a b : Tb) : joinL a b a.rows = joinRows a b := rfl
theorem joinL_snoc (a b : Tb) (rs : List Row) (x : Row) : joinL a b (rs ++ [x]) = joinL a b rs ++ (b.rows.filter fun y => rowsFit a.vars x b.vars y).map fun y => x ++ pick b.vars y (leftL b.vars a.vars) := by
 unfold joinL
 rw [List.flatMap_append, List.flatMap_singleton, fitRows_eq]
theorem joinRows_mem {a b : Tb} {r : Row} (h : r ∈ joinRows a b) : ∃ x y, x ∈ a.rows /\ y ∈ b.rows /\ r = x ++ pick b.vars y (leftL b.vars a.vars) := by
 unfold joinRows at h
 obtain ⟨x, hx, h⟩ := List.mem_flatMap.1 h
 obtain ⟨y, hy, rfl⟩ := List.mem_map.1 h
 exact ⟨x, y, hx, (List.mem_filter.1 hy).1, rfl⟩
theorem joinNames_nodup {l m : List BA} (hl : l.Nodup) (hm : m.Nodup) : (l ++ leftL m l).Nodup := by
 rw [List.nodup_append]
 refine ⟨hl, hm.sublist List.filter_sublist, fun x hx y hy e => ?_⟩
 subst e
 exact (leftL_mem.1 hy).2 hx
theorem joinRows_fine {a b : Tb} {P : V -> Prop} (ha : ∀ r, r ∈ a.rows -> r.length = a.vars.length /\ ∀ x, x ∈ r -> P x) (hb : ∀ r, r ∈ b.rows -> r.length = b.vars.length /\ ∀ x, x ∈ r -> P x) : ∀ r, r ∈ joinRows a b -> r.length = (a.vars ++ leftL b.vars a.vars).length /\ ∀ x, x ∈ r -> P x := by
 intro r hr
 obtain ⟨x, y, hx, hy, rfl⟩ := joinRows_mem hr
 refine ⟨by rw [List.length_append, List.length_append, pick_len, (ha x hx).1], fun v hv => ?_⟩
 rcases List.mem_append.1 hv with h | h
 ·exact (ha x hx).2 v h
 ·exact (hb y hy).2 v (pick_mem (fun s hs => (leftL_mem.1 hs).1) (hb y hy).1 h)
theorem AV.rdrows {W w : World} {v : Value} {P : List HR} (h : AV W w v P) (hw : ∀ x, x ∈ P -> ∀ y, y ∈ x.2 -> V.wf y) : RdRows w v (P.map (·.2)) (P.map (·.1)) := by
 refine ⟨by rw [List.length_map]; exact h.sl.rd, by simp, fun i hv r e1 e2 => ?_⟩
 rw [List.getElem?_map, Option.map_eq_some_iff] at e1 e2
 obtain ⟨x, hx, rfl⟩ := e1
 obtain ⟨y, hy, rfl⟩ := e2
 rw [hx] at hy
 cases hy
 exact ⟨(h.row x (List.mem_of_getElem? hx)).1.rd, hw x (List.mem_of_getElem? hx)⟩
theorem run_from (x : Option Addr) {n k c : Nat} (hk : k <= n) (W : World) : (Instr.slice 24 (.slice x n c) (some (.int .i64 (k : Int))) none none).run Tryz.prog W = .ok (.slice (if c = k then x else x.map (·.add (k * 1))) (n - k) (c - k)) W := by
 rw [run_slice_l (P := Tryz.prog) W 24 x n c (by kernel_rfl) .i64 (k : Int) (by omega) (by omega)]
 have hs : (sizeOf (Tryz.prog.elem 24)).run Tryz.prog W = .ok 1 W := by
  obtain ⟨i0, hi, hz0, hz1, hz2⟩ := info_parts infoS
  have he : Tryz.prog.elem 24 = 9 := by kernel_rfl
  rw [he]
  simp [sizeOf, typeInfo, hi, hz1]
 rw [hs]
 simp [Result.andThen, sliced]
theorem rd_from {w : World} {x : Option Addr} {n k c : Nat} {xs : List Value} (h : w.Rd 1 (.slice x n c) n xs) (hk : k <= n) : w.Rd 1 (.slice (if c = k then x else x.map (·.add (k * 1))) (n - k) (c - k)) (n - k) (xs.drop k) := by
 obtain ⟨_, _, he, hc, hm⟩ := h.shape
 cases he
 by_cases hnk : n = k
 ·refine ⟨by rw [List.length_drop, h.1]; omega, .inl ⟨by omega, _, _, by rw [show n - k = 0 by omega], by omega⟩⟩
 ·obtain ⟨g, off, c', hv, _, _, _, _⟩ := h.form (by omega)
  cases hv
  have hck : c ≠ k := by omega
  rw [if_neg hck]
  have := rd_drop h hk
  rw [Nat.mul_one] at this
  have ha : (Option.map (fun z : Addr => z.add (k * 1)) (some ⟨g, off, none⟩)) = some ⟨g, off + k, none⟩ := by
   rw [Option.map_some, Nat.mul_one, Addr.add_lit]
  rw [ha]; exact this
theorem OwnRow.two {w w1 w2 : World} {v v' : Value} {x y : Row} (_h1 : w1.Sl 83 4 v x.length (x.flatMap V.enc)) (f1 : w.Fr w1 []) (n1 : ∀ k, k ∈ v.blk -> w.heap.size <= k) (h2 : w2.Sl 83 4 v' (x.length + y.length) (x.flatMap V.enc ++ y.flatMap V.enc)) (f2 : w1.Fr w2 v.blk) (n2 : ∀ k, k ∈ v'.blk -> k ∈ v.blk ∨ k = w1.heap.size) : OwnRow w w2 v' (x ++ y) := by
 refine ⟨by rw [List.length_append, List.flatMap_append]; exact h2, fun k hk => ?_, f1.trans f2 (fun k hk => .inr (n1 k hk))⟩
 rcases n2 k hk with h | h
 ·exact n1 k h
 ·have := f1.size; omega
open Classical in
theorem ranti27 {cf : V -> V -> Int} (hRK : RChkOk V.wf) (hRC : RCmpOk V.wf cf) (hO : OrdOk (fun v => V.wf v /\ vcheck v = 0) cf) {w : World} {v1 v2 : Value} {a b : Tb} (h1 : RdTab w v1 a) (h2 : RdTab w v2 b) (ha : Fits V.wf a) (hb : Fits V.wf b) :
  Calls Tryz.prog 104 #[v1, v2] w fun e w' => ∃ v, e = .returned (.tuple #[v, .int .i64 (antiT cf a b).1]) /\ OwnTab w w' v (antiT cf a b).2 := by
 have hboth := fun w' (hf : w.Fr w' []) => rboth74 hRK hRC (h1.still hf) (h2.still hf) ha hb
 have htab := h2
 obtain ⟨x1, y1, hs1, rfl, hv1, hr1⟩ := h1.ex
 obtain ⟨x2, y2, hs2, rfl, hv2, hr2⟩ := h2.ex
 obtain ⟨a1, c1, rfl, _, _⟩ := hv1.rd.shape
 obtain ⟨a2, c2, rfl, _, _⟩ := hr1.rd.shape
 obtain ⟨a3, c3, rfl, _, _⟩ := hv2.rd.shape
 obtain ⟨a4, c4, rfl, _, _⟩ := hr2.rd.shape
 have hlen := hr1.len
 have hlen2 := hr2.len
 generalize hR : antiT cf a b = R
 rw [hlen] at hboth ⊢
 rw [hlen2] at hboth htab ⊢
 clear h1 h2
 have Htab := Hz htab; have Hv1 := Hz hv1; have Hv2 := Hz hv2; have Hr1 := Hz hr1; have Ha := Hz ha; have Hb := Hz hb; have HRC := Hz hRC; have HO := Hz hO; have Hboth := Hz hboth; have Hr2 := Hz hr2; have HR := Hz hR; have Hlen := Hz hlen; have Hlen2 := Hz hlen2; clear hv1 hv2 hr1 hr2 ha hb hRK hRC hO hboth hR hlen hlen2 htab
 go_enter Tryz.func104, Tryz.ntmps104
 go_upto_region 1 with (fail)
 generalize hW : World.alloc (World.alloc (World.alloc w _) _) _ = W
 have q1 : W.heap[w.heap.size]? = some (.cells #[.slice a1 a.vars.length c1, .slice a2 a.rows.length c2] 34 (0, 0)) := by rw [<- hW]; exact heap_alloc_some (heap_alloc_some (heap_alloc_at _ _ _ rfl) _) _
 have q2 : W.heap[w.heap.size + 1]? = some (.cells #[.slice a3 b.vars.length c3, .slice a4 b.rows.length c4] 34 (0, 0)) := by rw [<- hW]; exact heap_alloc_some (heap_alloc_at _ _ _ (by simp)) _
 have q4 : W.heap[w.heap.size + 1 + 1]? = some (.cells #[.slice none 0 0, .slice none 0 0] 34 (0, 0)) := by rw [<- hW]; exact heap_alloc_at _ _ _ (by simp)
 have q3 : w.Fr W [] := by rw [<- hW]; exact (((World.Fr.refl w []).alloc _).alloc _).alloc _
 clear hW
 generalize hb1 : w.heap.size = b1 at *
 have Hb1 := Hz hb1; clear hb1
 obtain ⟨p0, p1, pf⟩ := two q1
 obtain ⟨s0, s1, sf⟩ := two q2
 have Q1 := Hz q1; have Q2 := Hz q2; have Q3 := Hz q3; have Q4 := Hz q4; clear q1 q2 q3 q4
 have hbad : ∀ (W : World), w.Fr W [] -> W.heap[b1 + 1 + 1]? = some (.cells #[.slice none 0 0, .slice none 0 0] 34 (0, 0)) -> OwnTab w ((W.setCell ⟨b1 + 1 + 1, 0, none⟩ (.slice none 0 0)).setCell ⟨b1 + 1 + 1, 1, none⟩ (.slice none 0 0)) (.agg #[.slice none 0 0, .slice none 0 0]) tNone /\
   ((W.setCell ⟨b1 + 1 + 1, 0, none⟩ (.slice none 0 0)).setCell ⟨b1 + 1 + 1, 1, none⟩ (.slice none 0 0)).heap[b1 + 1 + 1]? = some (.cells #[.slice none 0 0, .slice none 0 0] 34 (0, 0)) := fun W hf hb => (OwnTab.empty (w := w) hf).put hb (by have := Hb1.out; omega)
 have Hbad := Hz hbad; clear hbad
 go_wp2_with fail
 (with_reducible refine (Hboth.out _ Q3.out).mono ?_)
 rintro e w1 ⟨rfl, hf1⟩
 have q1 := hf1.heap Q1.out (by simp)
 have q2 := hf1.heap Q2.out (by simp)
 have q4 := hf1.heap Q4.out (by simp)
 have q3 := Q3.out.trans hf1 (by simp)
 clear p0 p1 pf s0 s1 sf Q1 Q2 Q3 Q4 hf1 Hboth
 obtain ⟨p0, p1, pf⟩ := two q1
 obtain ⟨s0, s1, sf⟩ := two q2
 obtain ⟨r0, r1, rf⟩ := two q4
 have hlb := lt_of_heap q1
 have hlb2 := lt_of_heap q2
 have hlb4 := lt_of_heap q4
 have Q1 := Hz q1; have Q2 := Hz q2; have Q3 := Hz q3; have Q4 := Hz q4; clear q1 q2 q3 q4
 by_cases h0 : bothE cf a b = 0
 ·rw [h0]
  obtain ⟨ha0, hb0⟩ := bothE_zero h0
  obtain ⟨k1, k2, k3, k4⟩ := tcheck_zero ha0
  obtain ⟨l1, l2, l3, l4⟩ := tcheck_zero hb0
  have K1 := Hz k1; have K2 := Hz k2; have K3 := Hz k3; have L1 := Hz l1; have L2 := Hz l2; have L3 := Hz l3; have H0 := Hz h0
  clear h0 ha0 hb0 k1 k2 k3 k4 l1 l2 l3 l4
  have hres : R = (0, madeT cf a.vars (a.rows.filter fun x => !anyFit a b b.rows x)) := by
   rw [<- HR.out]; unfold antiT; rw [if_neg (by simp [H0.out]), antiRows_fit]
  have HR3 := Hz hres; clear hres
  have hnd := nodup_of_pair K2.out
  have Hnd := Hz hnd
  have HR0 : Hid (RowsR w1 w1 (.slice none 0 0) [] []) := Hz (RowsR.nil w1)
  clear HR hnd p0 p1 pf s0 s1 sf r0 r1 rf hlb hlb2 hlb4
  go_wp2
  go_loopw [7, 8] (fun vb i wr => ∃ (j : Nat) (hsn : List Value), i = .int .i64 j /\ j <= a.rows.length /\ Hid (RowsR w1 wr vb hsn ((a.rows.take j).filter fun x => !anyFit a b b.rows x)) /\ Hid (hsn.length <= j)) (fun _ i _ => (a.rows.length - intOf i).toNat)
  case atStart => exact ⟨0, [], rfl, Nat.zero_le _, HR0, Hz (Nat.le_refl _)⟩
  case round =>
   obtain ⟨j, hsn, rfl, hj, HRr, Hhl⟩ := hrel
   obtain ⟨xa, xc, hxv, _, _⟩ := HRr.out.sl.shape
   subst hxv
   have hfr := Q3.out.trans HRr.out.fr (by simp)
   have q1 := HRr.out.fr.heap Q1.out (by simp)
   obtain ⟨p0, p1, pf⟩ := two q1
   have Hfr := Hz hfr; clear hfr
   by_cases hlt : j < a.rows.length
   ·obtain ⟨r, hr⟩ : ∃ r, a.rows[j]? = some r := ⟨a.rows[j], List.getElem?_eq_getElem hlt⟩
    obtain ⟨g, off, c, ax, mx, hv, hg0, kx0, hrow0⟩ := Hr1.out.at2 Hfr.out hr
    rw [Hlen.out] at hv
    cases hv
    have hjI : (j : Int) < (a.rows.length : Int) := by omega
    have hw1 : IntKind.i64.wrap ((j : Int) + 1) = (j : Int) + 1 := IntWalk.i64_in _ (by have := Ha.out.rows; omega)
    have hnn : (0 : Int) <= (j : Int) := by omega
    have htk : a.rows.take (j + 1) = a.rows.take j ++ [r] := by
     rw [List.take_succ_eq_append_getElem hlt, (List.getElem?_eq_some_iff.1 hr).2]
    have hrl := (K3.out r (List.mem_of_getElem? hr)).1
    have Hrl := Hz hrl; have Htk := Hz htk; have Hrow := Hz (hrow0.fr Hfr.out (by simp)); have Hxlt := Hz hrow0.rd.lt
    clear hrl htk hrow0 hr
    obtain ⟨wQ, rfl⟩ : ∃ wQ : World, wQ = wr := ⟨_, rfl⟩
    have HF0 : Hid (wQ.Fr wQ []) := Hz (World.Fr.refl wQ [])
    have Kx0 := Hz kx0; have Hg0 := Hz hg0; have Q1b := Hz q1; clear kx0 hg0 q1
    go_wp2
    clear p0 p1 pf
    go_loopw [9, 10] (fun s i wr => ∃ q : Nat, i = .int .i64 q /\ q <= b.rows.length /\ s = .bool (anyFit a b (b.rows.take q) r) /\ Hid (wQ.Fr wr [])) (fun _ i _ => (b.rows.length - intOf i).toNat)
    case atStart => exact ⟨0, rfl, Nat.zero_le _, rfl, HF0⟩
    case round =>
     obtain ⟨q, rfl, hq, rfl, HF⟩ := hrel
     have hfw := Hfr.out.trans HF.out (by simp)
     have q1 := HF.out.heap Q1b.out (by simp)
     have q2 := HF.out.heap (HRr.out.fr.heap Q2.out (by simp)) (by simp)
     obtain ⟨p0, p1, pf⟩ := two q1
     obtain ⟨s0, s1, sf⟩ := two q2
     have kx := cellFrA HF.out Kx0.out
     have hg : g < wr.heap.size := Nat.lt_of_lt_of_le Hg0.out HF.out.size
     have Hfw := Hz hfw; have Q1c := Hz q1
     clear hfw q1 q2
     by_cases hqb : q < b.rows.length
     ·obtain ⟨y, hy⟩ : ∃ y, b.rows[q]? = some y := ⟨b.rows[q], List.getElem?_eq_getElem hqb⟩
      obtain ⟨g2, off2, c2', ay, my, hv2, hg2, ky, hrow2⟩ := Hr2.out.at2 Hfw.out hy
      rw [Hlen2.out] at hv2
      cases hv2
      have hqI : (q : Int) < (b.rows.length : Int) := by omega
      have hw2 : IntKind.i64.wrap ((q : Int) + 1) = (q : Int) + 1 := IntWalk.i64_in _ (by have := Hb.out.rows; omega)
      have hqn : (0 : Int) <= (q : Int) := by omega
      have hyl := (L3.out y (List.mem_of_getElem? hy)).1
      have hstep : anyFit a b (b.rows.take (q + 1)) r = (anyFit a b (b.rows.take q) r || rowsFit a.vars r b.vars y) := by
       unfold anyFit
       rw [List.take_succ_eq_append_getElem hqb, (List.getElem?_eq_some_iff.1 hy).2, List.any_append]
       simp
      have hc := fun w' (hf : wr.Fr w' []) => rfits46 (w := w') ((Hv1.out.fr Hfw.out (by simp)).fr hf (by simp)) ((Hrow.out.fr HF.out (by simp)).fr hf (by simp)) ((Hv2.out.fr Hfw.out (by simp)).fr hf (by simp)) ((hrow2.fr Hfw.out (by simp)).fr hf (by simp)) Hnd.out Hrl.out hyl (by have := K1.out; omega) (by have := L1.out; omega)
      have Hc := Hz hc; have Hstep := Hz hstep
      clear hc hstep hyl hrow2 hy
      generalize anyFit a b (b.rows.take q) r = S at *
      generalize rowsFit a.vars r b.vars y = F at *
      go_wp2
      go_still_tail 14, (by kernel_rfl)
      change wpList _ _ _ _ _ wr.drew
      go_wp2_with fail
      (with_reducible refine (Hc.out _ ((World.Fr.refl wr []).drew)).mono ?_)
      rintro e w5 ⟨rfl, hf5⟩
      have HF2 := Hz (HF.out.trans (((World.Fr.refl wr []).drew).trans hf5 (by simp)) (by simp))
      clear hf5 kx ky p0 p1 pf s0 s1 sf Hc
      cases S with
      | true =>
       go_wp2
       go_roundw
       case rel => exact ⟨q + 1, by go_num, by omega, by rw [Hstep.out, Bool.true_or], HF2⟩
       case measure => simp [intOf]; omega
      | false =>
       go_wp2
       go_roundw
       case rel => exact ⟨q + 1, by go_num, by omega, by rw [Hstep.out, Bool.false_or], HF2⟩
       case measure => simp [intOf]; omega
     ·have hd : decide ((q : Int) < (b.rows.length : Int)) = false := decide_eq_false (by omega)
      have hd2 : decide (q < b.rows.length) = false := decide_eq_false hqb
      obtain rfl : q = b.rows.length := by omega
      rw [List.take_of_length_le (Nat.le_refl _)]
      have HRs := Hz (HRr.out.still HF.out)
      have Hrow5 := Hz (Hrow.out.fr HF.out (by simp))
      clear hqb hq
      cases hh : anyFit a b b.rows r with
      | false =>
       have hsnr : ((a.rows.take (j + 1)).filter fun x => !anyFit a b b.rows x) = ((a.rows.take j).filter fun x => !anyFit a b b.rows x) ++ [r] := by
        rw [Htk.out, List.filter_append, List.filter_cons, if_pos (by rw [hh]; rfl)]; rfl
       obtain ⟨ih, hih, hh0, hh1, hh2⟩ := info_parts infoH
       have Hsnr := Hz hsnr; have Hsl0 := Hz HRs.out.sl
       clear hsnr hh
       generalize hhn : hsn.length = hn at *
       have Hhn := Hz hhn; clear hhn
       have hroom : hn < 5864062014634 := by have := Hhl.out; have := Ha.out.rows; omega
       go_wp2_with (at_builtin; refine wpList_append_one _ rfl (.tmp 54) (.tmp 60) 32 rfl 81 ih (.slice none 0 0) 1 24 Tryz.underlying32 hih hh0 hh1 hh2 rfl (.slice xa hn xc) hn hsn rfl (Hsl0.out.alloc _) wr.heap.size 1 [.slice ax r.length mx] 81 rfl (heap_alloc_at _ _ _ rfl) rfl rfl ⟨by omega, by omega⟩ ?_)
       intro g3 off3 c3 w6 hsl3 hfr3 hat hlt3
       have hpush := HRs.out.push ((World.Fr.refl wr []).alloc (.cells #[.slice ax r.length mx] 81)) (Hrow5.out.fr ((World.Fr.refl wr []).alloc _) (by simp)) (fun k hk hk2 => by
        have e1 := Hxlt.out k hk
        have e2 := HRs.out.new k hk2
        have := Q3.out.size; omega) (g := g3) (off := off3) (c := c3) (by rw [Hhn.out]; exact hsl3) hfr3 (by rcases hat with h | h; exact .inl h; exact .inr (by simp at h ⊢; omega))
       rw [<- Hsnr.out, Hhn.out] at hpush
       have Hpush := Hz hpush
       clear hpush hsl3 hfr3 hat hlt3 hroom
       go_wp2
       go_roundw
       case rel => exact ⟨j + 1, _, by go_num, by omega, Hpush, Hz (by have := Hhl.out; have := Hhn.out; simp; omega)⟩
       case measure => simp [intOf]; omega
      | true =>
       have hsnr : ((a.rows.take (j + 1)).filter fun x => !anyFit a b b.rows x) = ((a.rows.take j).filter fun x => !anyFit a b b.rows x) := by
        rw [Htk.out, List.filter_append, List.filter_cons, if_neg (by rw [hh]; simp)]; simp
       have hrs := HRs.out
       rw [<- hsnr] at hrs
       have Hpush := Hz hrs
       clear hrs hsnr hh
       go_wp2
       go_roundw
       case rel => exact ⟨j + 1, _, by go_num, by omega, Hpush, Hz (by have := Hhl.out; omega)⟩
       case measure => simp [intOf]; omega
   ·have hd : decide ((j : Int) < (a.rows.length : Int)) = false := decide_eq_false (by omega)
    have hd2 : decide (j < a.rows.length) = false := decide_eq_false hlt
    obtain rfl : j = a.rows.length := by omega
    rw [List.take_of_length_le (Nat.le_refl _)] at HRr
    generalize hrr : (a.rows.filter fun x => !anyFit a b b.rows x) = rr at *
    have hsub : ∀ r, r ∈ rr -> r ∈ a.rows := fun r hr => by rw [<- hrr] at hr; exact (List.mem_filter.1 hr).1
    have hlen : rr.length <= a.rows.length := by rw [<- hrr]; exact List.length_filter_le _ _
    have hbx := HRr.out.fr.heap Q4.out (by simp)
    have hc := rmade77m HRC.out HO.out (Hv1.out.fr Hfr.out (by simp)) HRr.out.rd (by have := K1.out; omega) (by have := Ha.out.rows; omega) Hnd.out (fun r hr => K3.out r (hsub r hr)) (fun r hr => Ha.out.ok r (hsub r hr))
    have Hc := Hz hc; have Q4c := Hz hbx; have Hfw := Hz Hfr.out; clear hc hbx hlt hj hsub hlen hrr q1
    have hres := HR3.out
    subst hres
    go_wp2_with fail
    (with_reducible refine Hc.out.mono ?_)
    rintro e w7 ⟨v, rfl, ho⟩
    obtain ⟨x1, y1, x2, y2, rfl⟩ := ho.shape
    have hbx := ho.fr.heap Q4c.out (by simp)
    have ho2 := (ho.since Hfw.out).put hbx (by have := Hb1.out; omega)
    clear p0 p1 pf
    obtain ⟨p0, p1, pf⟩ := two hbx
    have hbW := lt_of_heap hbx
    obtain ⟨f0, f1, _⟩ := two ho2.2
    have Hfin := Hz ho2.1
    clear ho2 ho hbx
    go_wp2
    refine bodyPost_ret (v := .tuple #[.agg #[.slice x1 _ y1, .slice x2 _ y2], .int .i64 0]) (by simp [results, Tryz.results104, go_sem, f0, f1]) rfl ⟨_, rfl, Hfin.out⟩
 ·have hres : R = (bothE cf a b, tNone) := by rw [<- HR.out]; unfold antiT; rw [if_pos h0]
  have h0b : (bothE cf a b == 0) = false := beq_eq_false_iff_ne.2 h0
  have h0c : (bothE cf a b != 0) = true := by simp [h0]
  clear h0 HR
  generalize bothE cf a b = z at *
  subst hres
  have hfin := Hbad.out _ Q3.out Q4.out
  obtain ⟨f0, f1, _⟩ := two hfin.2
  have Hfin := Hz hfin.1
  clear hfin p0 p1 pf
  go_wp2
  refine bodyPost_ret (v := .tuple #[.agg #[.slice none 0 0, .slice none 0 0], .int .i64 z]) (by simp [results, Tryz.results104, go_sem, f0, f1]) rfl ⟨_, rfl, Hfin.out⟩
open Classical in
theorem rjoin25 {cf : V -> V -> Int} (hRK : RChkOk V.wf) (hRC : RCmpOk V.wf cf) (hO : OrdOk (fun v => V.wf v /\ vcheck v = 0) cf) {w : World} {v1 v2 : Value} {a b : Tb} (h1 : RdTab w v1 a) (h2 : RdTab w v2 b) (ha : Fits V.wf a) (hb : Fits V.wf b) (hlight : a.rows.length * b.rows.length <= 1000000000) :
  Calls Tryz.prog 103 #[v1, v2] w fun e w' => ∃ v, e = .returned (.tuple #[v, .int .i64 (joinT cf a b).1]) /\ OwnTab w w' v (joinT cf a b).2 := by
 have hboth := fun w' (hf : w.Fr w' []) => rboth74 hRK hRC (h1.still hf) (h2.still hf) ha hb
 have htab := h2
 have Hlight := Hz hlight; clear hlight
 obtain ⟨x1, y1, hs1, rfl, hv1, hr1⟩ := h1.ex
 obtain ⟨x2, y2, hs2, rfl, hv2, hr2⟩ := h2.ex
 obtain ⟨a1, c1, rfl, _, _⟩ := hv1.rd.shape
 obtain ⟨a2, c2, rfl, _, _⟩ := hr1.rd.shape
 obtain ⟨a3, c3, rfl, _, _⟩ := hv2.rd.shape
 obtain ⟨a4, c4, rfl, _, _⟩ := hr2.rd.shape
 have hlen := hr1.len
 have hlen2 := hr2.len
 generalize hR : joinT cf a b = R
 rw [hlen] at hboth ⊢
 rw [hlen2] at hboth htab ⊢
 clear h1 h2
 have Htab := Hz htab; have Hv1 := Hz hv1; have Hv2 := Hz hv2; have Hr1 := Hz hr1; have Ha := Hz ha; have Hb := Hz hb; have HRC := Hz hRC; have HO := Hz hO; have Hboth := Hz hboth; have Hr2 := Hz hr2; have HR := Hz hR; have Hlen := Hz hlen; have Hlen2 := Hz hlen2; clear hv1 hv2 hr1 hr2 ha hb hRK hRC hO hboth hR hlen hlen2 htab
 go_enter Tryz.func103, Tryz.ntmps103
 go_upto_region 1 with (fail)
 generalize hW : World.alloc (World.alloc (World.alloc w _) _) _ = W
 have q1 : W.heap[w.heap.size]? = some (.cells #[.slice a1 a.vars.length c1, .slice a2 a.rows.length c2] 34 (0, 0)) := by rw [<- hW]; exact heap_alloc_some (heap_alloc_some (heap_alloc_at _ _ _ rfl) _) _
 have q2 : W.heap[w.heap.size + 1]? = some (.cells #[.slice a3 b.vars.length c3, .slice a4 b.rows.length c4] 34 (0, 0)) := by rw [<- hW]; exact heap_alloc_some (heap_alloc_at _ _ _ (by simp)) _
 have q4 : W.heap[w.heap.size + 1 + 1]? = some (.cells #[.slice none 0 0, .slice none 0 0] 34 (0, 0)) := by rw [<- hW]; exact heap_alloc_at _ _ _ (by simp)
 have q3 : w.Fr W [] := by rw [<- hW]; exact (((World.Fr.refl w []).alloc _).alloc _).alloc _
 clear hW
 generalize hb1 : w.heap.size = b1 at *
 have Hb1 := Hz hb1; clear hb1
 obtain ⟨p0, p1, pf⟩ := two q1
 obtain ⟨s0, s1, sf⟩ := two q2
 have Q1 := Hz q1; have Q2 := Hz q2; have Q3 := Hz q3; have Q4 := Hz q4; clear q1 q2 q3 q4
 have hbad : ∀ (W : World), w.Fr W [] -> W.heap[b1 + 1 + 1]? = some (.cells #[.slice none 0 0, .slice none 0 0] 34 (0, 0)) -> OwnTab w ((W.setCell ⟨b1 + 1 + 1, 0, none⟩ (.slice none 0 0)).setCell ⟨b1 + 1 + 1, 1, none⟩ (.slice none 0 0)) (.agg #[.slice none 0 0, .slice none 0 0]) tNone /\
   ((W.setCell ⟨b1 + 1 + 1, 0, none⟩ (.slice none 0 0)).setCell ⟨b1 + 1 + 1, 1, none⟩ (.slice none 0 0)).heap[b1 + 1 + 1]? = some (.cells #[.slice none 0 0, .slice none 0 0] 34 (0, 0)) := fun W hf hb => (OwnTab.empty (w := w) hf).put hb (by have := Hb1.out; omega)
 have Hbad := Hz hbad; clear hbad
 go_wp2_with fail
 (with_reducible refine (Hboth.out _ Q3.out).mono ?_)
 rintro e w1 ⟨rfl, hf1⟩
 have q1 := hf1.heap Q1.out (by simp)
 have q2 := hf1.heap Q2.out (by simp)
 have q4 := hf1.heap Q4.out (by simp)
 have q3 := Q3.out.trans hf1 (by simp)
 clear p0 p1 pf s0 s1 sf Q1 Q2 Q3 Q4 hf1 Hboth
 obtain ⟨p0, p1, pf⟩ := two q1
 obtain ⟨s0, s1, sf⟩ := two q2
 obtain ⟨r0, r1, rf⟩ := two q4
 have hlb := lt_of_heap q1
 have hlb2 := lt_of_heap q2
 have hlb4 := lt_of_heap q4
 have Q1 := Hz q1; have Q2 := Hz q2; have Q3 := Hz q3; have Q4 := Hz q4; clear q1 q2 q3 q4
 by_cases h0 : bothE cf a b = 0
 ·rw [h0]
  obtain ⟨ha0, hb0⟩ := bothE_zero h0
  obtain ⟨k1, k2, k3, k4⟩ := tcheck_zero ha0
  obtain ⟨l1, l2, l3, l4⟩ := tcheck_zero hb0
  have K1 := Hz k1; have K2 := Hz k2; have K3 := Hz k3; have L1 := Hz l1; have L2 := Hz l2; have L3 := Hz l3; have H0 := Hz h0
  clear h0 ha0 hb0 k1 k2 k3 k4 l1 l2 l3 l4
  have hres : R = if 8 < (a.vars ++ leftL b.vars a.vars).length then (30, tNone) else (0, madeT cf (a.vars ++ leftL b.vars a.vars) (joinRows a b)) := by rw [<- HR.out]; unfold joinT; rw [if_neg (by simp [H0.out])]
  have hall := rall75 (Hv1.out.fr Q3.out (by simp)) (Hv2.out.fr Q3.out (by simp)) K1.out L1.out
  have HR2 := Hz hres; have Hall := Hz hall
  clear hres hall HR
  go_wp2_with fail
  (with_reducible refine Hall.out.mono ?_)
  rintro e w2 ⟨v2, rfl, how⟩
  obtain ⟨na, nc, rfl⟩ := how.shape
  rw [List.length_map] at how ⊢
  have hnrd : RdStr w2 (.slice na (a.vars ++ leftL b.vars a.vars).length nc) (a.vars ++ leftL b.vars a.vars) := how.rd fun s hs => by
   rcases List.mem_append.1 hs with h | h
   ·exact Hv1.out.wf s h
   ·exact Hv2.out.wf s (leftL_mem.1 h).1
  have q1 := how.fr.heap Q1.out (by simp)
  have q2 := how.fr.heap Q2.out (by simp)
  have q4 := how.fr.heap Q4.out (by simp)
  have q3 := Q3.out.trans how.fr (by simp)
  clear p0 p1 pf s0 s1 sf r0 r1 rf hlb hlb2 hlb4 Q1 Q2 Q3 Q4 Hall how
  obtain ⟨p0, p1, pf⟩ := two q1
  obtain ⟨s0, s1, sf⟩ := two q2
  obtain ⟨r0, r1, rf⟩ := two q4
  have hlb := lt_of_heap q1
  have hlb2 := lt_of_heap q2
  have hlb4 := lt_of_heap q4
  have Q1 := Hz q1; have Q2 := Hz q2; have Q3 := Hz q3; have Q4 := Hz q4; have Hnrd := Hz hnrd; clear q1 q2 q3 q4 hnrd
  have hnl2 : (a.vars ++ leftL b.vars a.vars).length = a.vars.length + (leftL b.vars a.vars).length := List.length_append
  generalize hnl : (a.vars ++ leftL b.vars a.vars).length = nl at *
  have Hnl := Hz hnl; have Hnl2 := Hz hnl2; clear hnl hnl2
  by_cases h8 : 8 < nl
  ·have hd8 : decide ((8 : Int) < (nl : Int)) = true := decide_eq_true (by omega)
   have hres : R = (30, tNone) := by rw [HR2.out, if_pos h8]
   subst hres
   clear HR2 h8
   have hfin := Hbad.out _ Q3.out Q4.out
   obtain ⟨f0, f1, _⟩ := two hfin.2
   have Hfin := Hz hfin.1
   clear hfin p0 p1 pf
   go_wp2
   refine bodyPost_ret (v := .tuple #[.agg #[.slice none 0 0, .slice none 0 0], .int .i64 30]) (by simp [results, Tryz.results103, go_sem, f0, f1]) rfl ⟨_, rfl, Hfin.out⟩
  ·have hd8 : decide ((8 : Int) < (nl : Int)) = false := decide_eq_false (by omega)
   have hres : R = (0, madeT cf (a.vars ++ leftL b.vars a.vars) (joinRows a b)) := by rw [HR2.out, if_neg h8]
   have HR3 := Hz hres; clear hres
   have hnd := nodup_of_pair K2.out
   have hndL := joinNames_nodup hnd (nodup_of_pair L2.out)
   have hle8 : nl <= 8 := by omega
   have hmore : nl - a.vars.length = (leftL b.vars a.vars).length := by have := Hnl2.out; omega
   have hslc := fun W => run_from (x := na) (n := nl) (k := a.vars.length) (c := nc) (by have := Hnl2.out; omega) W
   have hrdf : RdStr w2 (.slice (if nc = a.vars.length then na else na.map (·.add (a.vars.length * 1))) (nl - a.vars.length) (nc - a.vars.length)) (leftL b.vars a.vars) := by
    have hn := Hnrd.out.rd
    rw [Hnl.out] at hn
    have h := rd_from hn (k := a.vars.length) (by have := Hnl2.out; omega)
    rw [List.map_append, List.drop_left' (by rw [List.length_map]), hmore] at h
    exact ⟨by rw [hmore]; exact h, fun s hs => Hv2.out.wf s (leftL_mem.1 hs).1⟩
   rw [hmore] at hslc hrdf
   generalize (if nc = a.vars.length then na else na.map (·.add (a.vars.length * 1))) = nf at *
   generalize hmo : leftL b.vars a.vars = more at *
   generalize hml : more.length = ml at *
   have Hnd := Hz hnd; have HndL := Hz hndL; have Hle8 := Hz hle8; have Hrdf := Hz hrdf; have Hmo := Hz hmo; have Hml := Hz hml; have Hslc := Hz hslc
   have HA0 : Hid (AV w2 w2 (.slice none 0 0) []) := Hz (AV.nil w2)
   clear HR2 h8 hnd hndL hle8 hrdf hmo hml hmore hslc r0 r1 rf hlb hlb2 hlb4
   go_wp2
   clear p0 p1 pf s0 s1 sf
   go_loopw [8, 9] (fun v i wr => ∃ (j : Nat) (P : List HR), i = .int .i64 j /\ j <= a.rows.length /\ Hid (AV w2 wr v P) /\ Hid (P.map (·.2) = joinL a b (a.rows.take j)) /\ Hid (P.length <= j * b.rows.length)) (fun _ i _ => (a.rows.length - intOf i).toNat)
   case atStart => exact ⟨0, [], rfl, Nat.zero_le _, HA0, Hz rfl, Hz (Nat.zero_le _)⟩
   case round =>
    obtain ⟨j, P, rfl, hj, HA, HP, HPl⟩ := hrel
    obtain ⟨xa, xc, hxv, _, _⟩ := HA.out.sl.shape
    subst hxv
    have hfr := Q3.out.trans HA.out.fr (by simp)
    have q1 := HA.out.fr.heap Q1.out (by simp)
    obtain ⟨p0, p1, pf⟩ := two q1
    have Hfr := Hz hfr; clear hfr
    by_cases hlt : j < a.rows.length
    ·obtain ⟨r, hr⟩ : ∃ r, a.rows[j]? = some r := ⟨a.rows[j], List.getElem?_eq_getElem hlt⟩
     obtain ⟨g, off, c, ax, mx, hv, hg0, kx0, hrow0⟩ := Hr1.out.at2 Hfr.out hr
     rw [Hlen.out] at hv
     cases hv
     have hjI : (j : Int) < (a.rows.length : Int) := by omega
     have hw1 : IntKind.i64.wrap ((j : Int) + 1) = (j : Int) + 1 := IntWalk.i64_in _ (by have := Ha.out.rows; omega)
     have hnn : (0 : Int) <= (j : Int) := by omega
     have htk : joinL a b (a.rows.take (j + 1)) = joinL a b (a.rows.take j) ++ (b.rows.filter fun y => rowsFit a.vars r b.vars y).map fun y => r ++ pick b.vars y more := by
      rw [List.take_succ_eq_append_getElem hlt, (List.getElem?_eq_some_iff.1 hr).2, joinL_snoc, Hmo.out]
     have hrl := (K3.out r (List.mem_of_getElem? hr)).1
     have hbound : (j + 1) * b.rows.length <= 1000000000 := Nat.le_trans (Nat.mul_le_mul_right _ hlt) Hlight.out
     rw [Nat.add_mul, Nat.one_mul] at hbound
     have hr8 : r.length <= 8 := by rw [hrl]; exact K1.out
     have Hrl := Hz hrl; have Htk := Hz htk; have Hxr := Hz hr; have Hbound := Hz hbound; have Hr8 := Hz hr8
     clear hrl htk hr hbound hr8 q1
     have HP0 : Hid (P.map (·.2) = joinL a b (a.rows.take j) ++ ((b.rows.take 0).filter fun y => rowsFit a.vars r b.vars y).map fun y => r ++ pick b.vars y more) := Hz (by rw [HP.out]; simp)
     have HL0 : Hid (P.length <= j * b.rows.length + 0) := Hz HPl.out
     go_wp2
     clear p0 p1 pf
     go_loopw [8, 10] (fun v i wr => ∃ (q : Nat) (P' : List HR), i = .int .i64 q /\ q <= b.rows.length /\ Hid (AV w2 wr v P') /\ Hid (P'.map (·.2) = joinL a b (a.rows.take j) ++ ((b.rows.take q).filter fun y => rowsFit a.vars r b.vars y).map fun y => r ++ pick b.vars y more) /\ Hid (P'.length <= j * b.rows.length + q)) (fun _ i _ => (b.rows.length - intOf i).toNat)
     case atStart => exact ⟨0, P, rfl, Nat.zero_le _, HA, HP0, HL0⟩
     case round =>
      obtain ⟨q, P', rfl, hq, HA', HP', HL'⟩ := hrel
      clear HP0 HL0
      obtain ⟨xb, xd, hxw, _, _⟩ := HA'.out.sl.shape
      subst hxw
      have hfw := Q3.out.trans HA'.out.fr (by simp)
      have q1 := HA'.out.fr.heap Q1.out (by simp)
      have q2 := HA'.out.fr.heap Q2.out (by simp)
      obtain ⟨p0, p1, pf⟩ := two q1
      obtain ⟨s0, s1, sf⟩ := two q2
      have Hfw := Hz hfw; have Q1c := Hz q1; have Q2c := Hz q2
      clear hfw q1 q2
      by_cases hqb : q < b.rows.length
      ·obtain ⟨y, hy⟩ : ∃ y, b.rows[q]? = some y := ⟨b.rows[q], List.getElem?_eq_getElem hqb⟩
       obtain ⟨g, off, c, ax, mx, hv, hg, kx, hrow0⟩ := Hr1.out.at2 Hfw.out Hxr.out
       rw [Hlen.out] at hv
       cases hv
       obtain ⟨g2, off2, c2', ay, my, hv2, hg2, ky, hrow2⟩ := Hr2.out.at2 Hfw.out hy
       rw [Hlen2.out] at hv2
       cases hv2
       have hqI : (q : Int) < (b.rows.length : Int) := by omega
       have hw2 : IntKind.i64.wrap ((q : Int) + 1) = (q : Int) + 1 := IntWalk.i64_in _ (by have := Hb.out.rows; omega)
       have hqn : (0 : Int) <= (q : Int) := by omega
       have hyl := (L3.out y (List.mem_of_getElem? hy)).1
       have hst : ∀ F, rowsFit a.vars r b.vars y = F -> ((b.rows.take (q + 1)).filter fun y => rowsFit a.vars r b.vars y).map (fun y => r ++ pick b.vars y more) = ((b.rows.take q).filter fun y => rowsFit a.vars r b.vars y).map (fun y => r ++ pick b.vars y more) ++ (if F = true then [r ++ pick b.vars y more] else []) := fun F hF => by
        rw [List.take_succ_eq_append_getElem hqb, (List.getElem?_eq_some_iff.1 hy).2, List.filter_append, List.map_append, List.filter_cons, hF]
        cases F <;> simp
       have hc := fun w' (hf : wr.Fr w' []) => rfits46 (w := w') ((Hv1.out.fr Hfw.out (by simp)).fr hf (by simp)) ((hrow0.fr Hfw.out (by simp)).fr hf (by simp)) ((Hv2.out.fr Hfw.out (by simp)).fr hf (by simp)) ((hrow2.fr Hfw.out (by simp)).fr hf (by simp)) Hnd.out Hrl.out hyl (by have := K1.out; omega) (by have := L1.out; omega)
       have hpick := fun w' (hf : w.Fr w' []) (hf2 : w2.Fr w' []) => rpicked76 (w := w') (Hv2.out.fr hf (by simp)) (hrow2.fr hf (by simp)) (Hrdf.out.fr hf2 (by simp)) (by have := L1.out; omega) hyl (fun s hs => by rw [<- Hmo.out] at hs; exact (leftL_mem.1 hs).1) (by rw [Hml.out]; have := Hle8.out; have := Hnl2.out; omega)
       have hpkl : (pick b.vars y more).length = ml := by rw [pick_len, Hml.out]
       generalize hpk : pick b.vars y more = pk at *
       have Hc := Hz hc; have Hst := Hz hst; have Hpick := Hz hpick; have Hpkl := Hz hpkl; have Hrow := Hz hrow0; have Kx := Hz kx; have Ky := Hz ky; have Hg := Hz hg; have Hg2 := Hz hg2
       clear hc hst hpick hpkl hpk hyl hrow2 hrow0 hy
       go_wp2
       go_still_tail 14, (by kernel_rfl)
       change wpList _ _ _ _ _ wr.drew
       go_wp2_with fail
       (with_reducible refine (Hc.out _ ((World.Fr.refl wr []).drew)).mono ?_)
       rintro e w5 ⟨rfl, hf5⟩
       have hf5' := ((World.Fr.refl wr []).drew).trans hf5 (by simp)
       have HA5 := Hz (HA'.out.still hf5')
       have q1 := hf5'.heap Q1c.out (by simp)
       have q2 := hf5'.heap Q2c.out (by simp)
       have kx5 := cellFrA hf5' Kx.out
       have ky5 := cellFrA hf5' Ky.out
       have hg5 : g < w5.heap.size := Nat.lt_of_lt_of_le Hg.out hf5'.size
       have hgy5 : g2 < w5.heap.size := Nat.lt_of_lt_of_le Hg2.out hf5'.size
       have Hf5 := Hz (Hfw.out.trans hf5' (by simp))
       clear hf5 hf5' kx ky hg hg2 p0 p1 pf s0 s1 sf Hc
       cases hF : rowsFit a.vars r b.vars y with
       | false =>
        have hP := HP'.out
        have hs := Hst.out _ hF
        simp only [Bool.false_eq_true, if_false, List.append_nil] at hs
        rw [<- hs] at hP
        have HP2 := Hz hP
        clear hP hs hF q1 q2 kx5 ky5
        go_wp2
        go_roundw
        case rel => exact ⟨q + 1, P', by go_num, by omega, HA5, HP2, Hz (by have := HL'.out; omega)⟩
        case measure => simp [intOf]; omega
       | true =>
        have hP : P'.map (·.2) ++ [r ++ pk] = joinL a b (a.rows.take j) ++ ((b.rows.take (q + 1)).filter fun y => rowsFit a.vars r b.vars y).map fun y => r ++ pick b.vars y more := by
         have hs := Hst.out _ hF
         simp only [if_true] at hs
         rw [hs, HP'.out, List.append_assoc]
        have HP2 := Hz hP
        clear hP hF
        obtain ⟨p0, p1, pf⟩ := two q1
        obtain ⟨s0, s1, sf⟩ := two q2
        have hslc := Hslc.out
        have Q1d := Hz q1; have Kx5 := Hz kx5; have Hg5 := Hz hg5
        clear q1 q2
        go_wp2
        go_still_tail 12, (by kernel_rfl)
        change wpList _ _ _ _ _ w5.drew
        go_wp2_with fail
        (with_reducible refine (Hpick.out _ (Hf5.out.trans ((World.Fr.refl w5 []).drew) (by simp)) (HA5.out.fr.trans ((World.Fr.refl w5 []).drew) (by simp))).mono ?_)
        rintro e w6 ⟨u, rfl, ho⟩
        obtain ⟨ya, yc, rfl, _, _⟩ := ho.sl.shape
        have hf6 := ((World.Fr.refl w5 []).drew).trans ho.fr (by simp)
        have HA6 := Hz (HA5.out.still hf6)
        have q1 := hf6.heap Q1d.out (by simp)
        have kx6 := cellFrA hf6 Kx5.out
        have hg6 : g < w6.heap.size := Nat.lt_of_lt_of_le Hg5.out hf6.size
        have Hrow6 := Hz (Hrow.out.fr (Hf5.out.trans hf6 (by simp)) (by simp))
        have Hpk := Hz ho.sl
        clear p0 p1 pf s0 s1 sf kx5 ky5 hg5 hgy5 hslc ho hf6
        obtain ⟨p0, p1, pf⟩ := two q1
        clear q1
        have hr8 : r.length <= 8 := Hr8.out
        obtain ⟨iv, hiv, hv0, hv1, hv2⟩ := info_parts infoV
        go_wp2_with (at_builtin; refine wpList_append_src _ rfl (.tmp 74) (.tmp 79) 81 rfl 83 iv (.agg #[.int .i64 0, .int .i64 0, .int .i64 0, .string .empty]) 4 40 Tryz.underlying81 hiv hv0 hv1 hv2 rfl (.slice none 0 0) 0 [] rfl (World.Sl.nil _ _ _) (.slice ax r.length mx) r.length (r.flatMap V.enc) rfl Hrow6.out.rd (one_row r) ⟨by omega, by omega⟩ ?_)
        intro v' w7 hs7 hf7 hb7
        obtain ⟨za, zc, rfl, _, _⟩ := hs7.shape
        try simp only [Nat.zero_add, List.nil_append] at hs7
        try simp only [Nat.zero_add]
        have hf7' : w6.Fr w7 [] := by simpa [Value.blk] using hf7
        have hn7 : ∀ k, k ∈ (Value.slice za r.length zc).blk -> w6.heap.size <= k := fun k hk => by
         rcases hb7 k hk with h | h
         ·simp [Value.blk] at h
         ·omega
        have Hpk7 := Hz (Hpk.out.fr hf7' (by simp))
        have Hs7 := Hz hs7; have Hf7 := Hz hf7'; have Hn7 := Hz hn7
        clear hs7 hf7 hb7 hf7' hn7 p0 p1 pf kx6 hg6
        have hpk8 : pk.length <= 8 := by have := Hpkl.out; have := Hle8.out; have := Hnl2.out; omega
        go_wp2_with (at_builtin; refine wpList_append_src _ rfl (.tmp 81) (.tmp 82) 81 rfl 83 iv (.agg #[.int .i64 0, .int .i64 0, .int .i64 0, .string .empty]) 4 40 Tryz.underlying81 hiv hv0 hv1 hv2 rfl (.slice za r.length zc) r.length (r.flatMap V.enc) rfl Hs7.out (.slice ya pk.length yc) pk.length (pk.flatMap V.enc) rfl Hpk7.out.rd (one_row pk) ⟨by omega, by omega⟩ ?_)
        intro v' w8 hs8 hf8 hb8
        obtain ⟨wa, wc, rfl, _, _⟩ := hs8.shape
        have hown := OwnRow.two Hs7.out Hf7.out Hn7.out hs8 hf8 hb8
        have Hown := Hz hown; have Hsl8 := Hz (HA6.out.sl.fr hown.fr (by simp))
        clear hs8 hf8 hb8 hown iv hiv hv0 hv1 hv2 hr8 hpk8
        generalize hrpl : r.length + pk.length = rpl at *
        clear hrpl
        generalize hpn : P'.length = pn at *
        have Hpn := Hz hpn; clear hpn
        have hroom : pn < 1000000000 := by have := HL'.out; have := Hbound.out; omega
        obtain ⟨ih, hih, hh0, hh1, hh2⟩ := info_parts infoH
        go_wp2_with (at_builtin; refine wpList_append_one _ rfl (.tmp 84) (.tmp 86) 32 rfl 81 ih (.slice none 0 0) 1 24 Tryz.underlying32 hih hh0 hh1 hh2 rfl (.slice xb pn xd) pn (P'.map (·.1)) rfl (Hsl8.out.alloc _) w8.heap.size 1 [.slice wa rpl wc] 81 rfl (heap_alloc_at _ _ _ rfl) rfl rfl ⟨by omega, by omega⟩ ?_)
        intro g3 off3 c3 w9 hsl3 hfr3 hat hlt3
        have hpush := HA6.out.push (Hown.out.still ((World.Fr.refl w8 []).alloc (.cells #[.slice wa rpl wc] 81))) (g := g3) (off := off3) (c := c3) (by rw [Hpn.out]; exact hsl3) hfr3 (by rcases hat with h | h; exact .inl h; exact .inr (by (try simp at h); (try simp); omega))
        rw [Hpn.out] at hpush
        have Hpush := Hz hpush
        have HP3 : Hid ((P' ++ [((Value.slice wa rpl wc), r ++ pk)]).map (·.2) = joinL a b (a.rows.take j) ++ ((b.rows.take (q + 1)).filter fun y => rowsFit a.vars r b.vars y).map fun y => r ++ pick b.vars y more) := Hz (by rw [List.map_append]; exact HP2.out)
        have HL3 : Hid ((P' ++ [((Value.slice wa rpl wc), r ++ pk)]).length <= j * b.rows.length + (q + 1)) := Hz (by rw [List.length_append, Hpn.out]; have := HL'.out; simp; omega)
        clear hpush hsl3 hfr3 hat hlt3 hroom
        go_wp2
        go_roundw
        case rel => exact ⟨q + 1, _, by go_num, by omega, Hpush, HP3, HL3⟩
        case measure => simp [intOf]; omega
      ·have hd : decide ((q : Int) < (b.rows.length : Int)) = false := decide_eq_false (by omega)
       have hd2 : decide (q < b.rows.length) = false := decide_eq_false hqb
       obtain rfl : q = b.rows.length := by omega
       have hP := HP'.out
       rw [List.take_of_length_le (Nat.le_refl _), <- Htk.out] at hP
       have HP2 := Hz hP
       have HL2 : Hid (P'.length <= (j + 1) * b.rows.length) := Hz (by rw [Nat.add_mul, Nat.one_mul]; exact HL'.out)
       clear hP hqb hq
       go_wp2
       go_roundw
       case rel => exact ⟨j + 1, P', by go_num, by omega, HA', HP2, HL2⟩
       case measure => simp [intOf]; omega
    ·have hd : decide ((j : Int) < (a.rows.length : Int)) = false := decide_eq_false (by omega)
     have hd2 : decide (j < a.rows.length) = false := decide_eq_false hlt
     obtain rfl : j = a.rows.length := by omega
     have hP := HP.out
     rw [List.take_of_length_le (Nat.le_refl _), joinL_all] at hP
     have hwfA : ∀ r, r ∈ a.rows -> r.length = a.vars.length /\ ∀ x, x ∈ r -> V.wf x := fun r hr => ⟨(K3.out r hr).1, Ha.out.ok r hr⟩
     have hwfB : ∀ r, r ∈ b.rows -> r.length = b.vars.length /\ ∀ x, x ∈ r -> V.wf x := fun r hr => ⟨(L3.out r hr).1, Hb.out.ok r hr⟩
     have hfw := joinRows_fine (P := V.wf) hwfA hwfB
     have hfc := joinRows_fine (P := fun v => vcheck v = 0) K3.out L3.out
     rw [Hmo.out] at hfw hfc
     have hrows := HA.out.rdrows (fun x hx => (hfw x.2 (by rw [<- hP]; exact List.mem_map_of_mem hx)).2)
     rw [hP] at hrows
     have hjl : (joinRows a b).length <= 1000000000 := by
      rw [<- hP, List.length_map]
      exact Nat.le_trans HPl.out Hlight.out
     have hbx := HA.out.fr.heap Q4.out (by simp)
     have hc := rmade77m HRC.out HO.out (Hnrd.out.fr HA.out.fr (by simp)) hrows (by rw [Hnl.out]; have := Hle8.out; omega) (by omega) HndL.out hfc (fun r hr => (hfw r hr).2)
     have Hc := Hz hc; have Q4c := Hz hbx; have Hfw := Hz Hfr.out; clear hc hbx hlt hj hP hwfA hwfB hfw hfc hrows hjl q1
     have hres := HR3.out
     subst hres
     go_wp2_with fail
     (with_reducible refine Hc.out.mono ?_)
     rintro e w7 ⟨v, rfl, ho⟩
     obtain ⟨x1, y1, x2, y2, rfl⟩ := ho.shape
     have hbx := ho.fr.heap Q4c.out (by simp)
     have ho2 := (ho.since Hfw.out).put hbx (by have := Hb1.out; omega)
     clear p0 p1 pf
     obtain ⟨p0, p1, pf⟩ := two hbx
     have hbW := lt_of_heap hbx
     obtain ⟨f0, f1, _⟩ := two ho2.2
     have Hfin := Hz ho2.1
     clear ho2 ho hbx
     go_wp2
     refine bodyPost_ret (v := .tuple #[.agg #[.slice x1 _ y1, .slice x2 _ y2], .int .i64 0]) (by simp [results, Tryz.results103, go_sem, f0, f1]) rfl ⟨_, rfl, Hfin.out⟩
 ·have hres : R = (bothE cf a b, tNone) := by rw [<- HR.out]; unfold joinT; rw [if_pos h0]
  have h0b : (bothE cf a b == 0) = false := beq_eq_false_iff_ne.2 h0
  have h0c : (bothE cf a b != 0) = true := by simp [h0]
  clear h0 HR
  generalize bothE cf a b = z at *
  subst hres
  have hfin := Hbad.out _ Q3.out Q4.out
  obtain ⟨f0, f1, _⟩ := two hfin.2
  have Hfin := Hz hfin.1
  clear hfin p0 p1 pf
  go_wp2
  refine bodyPost_ret (v := .tuple #[.agg #[.slice none 0 0, .slice none 0 0], .int .i64 z]) (by simp [results, Tryz.results103, go_sem, f0, f1]) rfl ⟨_, rfl, Hfin.out⟩
end
end Go.Proofs.YtbejmdlncnkaaaaGreat
