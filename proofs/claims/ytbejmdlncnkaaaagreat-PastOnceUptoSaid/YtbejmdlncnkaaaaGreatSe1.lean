/-
  The document's both, Union, Minus.
-/
import Derived.Test.YtbejmdlncnkaaaaGreatRn1
import Derived.Test.YtbejmdlncnkaaaaGreatUni
namespace Go.Proofs.YtbejmdlncnkaaaaGreat
open Go.RowKit

theorem pick_all {l : List BA} (hn : l.Nodup) {r : Row} (hr : r.length = l.length) : pick l r l = r := by
  apply List.ext_getElem?
  intro i
  unfold pick
  rw [List.getElem?_map]
  by_cases hi : i < l.length
  · rw [List.getElem?_eq_getElem hi, Option.map_some, idx_self hn i hi, Int.toNat_natCast, List.getD_eq_getElem?_getD, List.getElem?_eq_getElem (by omega)]
    rfl
  · rw [List.getElem?_eq_none (by omega), List.getElem?_eq_none (by omega)]
    rfl
theorem sharedL_self (l : List BA) : sharedL l l = l := by
  unfold sharedL hasS
  rw [List.filter_eq_self]
  intro x hx
  simp [hx]
open Classical in
/-- Minus of tables of like names: the rows that the other has not -/
theorem anti_minus {a b : Tb} (hv : a.vars = b.vars) (hn : a.vars.Nodup) (ha : ∀ r, r ∈ a.rows → r.length = a.vars.length) (hb : ∀ r, r ∈ b.rows → r.length = b.vars.length) : antiRows a b = a.rows.filter fun x => !hasB b.rows x := by
  unfold antiRows
  refine List.filter_congr fun x hx => ?_
  unfold hasB
  rw [Bool.eq_iff_iff, decide_eq_true_iff, Bool.not_eq_true', decide_eq_false_iff_not, ← hv, sharedL_self, pick_all hn (ha x hx)]
  constructor
  · intro h hm
    exact h x hm (pick_all hn (ha x hx))
  · intro h y hy he
    rw [pick_all hn (by rw [hb y hy, hv])] at he
    exact h (he ▸ hy)
theorem RdRows.one {w : World} {v : Value} {rs : List Row} {hs : List Value} (h : RdRows w v rs hs) : hs.all Value.oneCell' = true := by
  rw [List.all_eq_true]
  intro x hx
  obtain ⟨i, hi⟩ := List.getElem?_of_mem hx
  obtain ⟨a, m, he, _⟩ := (h.row i x (rs[i]'(by have := (List.getElem?_eq_some_iff.1 hi).1; have := h.len; omega)) hi (List.getElem?_eq_getElem _)).rd.shape
  rw [he]; rfl
/-- two gatherings of rows, one behind the other -/
theorem RdRows.append {w : World} {v v1 v2 : Value} {rs qs : List Row} {hs gs : List Value} (h1 : RdRows w v1 rs hs) (h2 : RdRows w v2 qs gs) (hv : w.Rd 1 v (hs.length + gs.length) (hs ++ gs)) : RdRows w v (rs ++ qs) (hs ++ gs) := by
  refine ⟨by rw [List.length_append]; exact hv, by simp [h1.len, h2.len], fun i hv r e1 e2 => ?_⟩
  have hln := h1.len
  rcases Nat.lt_or_ge i hs.length with hi | hi
  · rw [List.getElem?_append_left hi] at e1
    rw [List.getElem?_append_left (by omega)] at e2
    exact h1.row i hv r e1 e2
  · rw [List.getElem?_append_right hi] at e1
    rw [List.getElem?_append_right (by omega), ← hln] at e2
    exact h2.row _ hv r e1 e2

set_option maxRecDepth 100000 in
set_option maxHeartbeats 1000000 in
theorem rboth74 {cf : V → V → Int} (hRK : RChkOk V.wf) (hRC : RCmpOk V.wf cf) {w : World} {v1 v2 : Value} {s t : Tb} (h1 : RdTab w v1 s) (h2 : RdTab w v2 t) (hs : Fits V.wf s) (ht : Fits V.wf t) :
    Calls Tryz.prog 66 #[v1, v2] w fun e w' => e = .returned (.int .i64 (bothE cf s t)) ∧ w.Fr w' [] := by
  have hc1 := fun w' (hf : w.Fr w' []) => rcheck16 hRK hRC (h1.still hf) hs.ok hs.small.vars hs.small.rows hs.small.row
  have hc2 := fun w' (hf : w.Fr w' []) => rcheck16 hRK hRC (h2.still hf) ht.ok ht.small.vars ht.small.rows ht.small.row
  obtain ⟨xa, xb, xhs, rfl, hxv, hxr⟩ := h1.ex
  obtain ⟨ya, yb, yhs, rfl, hyv, hyr⟩ := h2.ex
  obtain ⟨a1, c1, rfl, _, _⟩ := hxv.rd.shape
  obtain ⟨a2, c2, rfl, _, _⟩ := hxr.rd.shape
  obtain ⟨a3, c3, rfl, _, _⟩ := hyv.rd.shape
  obtain ⟨a4, c4, rfl, _, _⟩ := hyr.rd.shape
  have Hc1 := Lib.hid hc1; have Hc2 := Lib.hid hc2; clear hc1 hc2 h1 h2 hs ht hxv hxr hyv hyr hRK hRC
  generalize hR : bothE cf s t = R
  have HR := Lib.hid hR; clear hR
  have q1 := heap_alloc_some (heap_alloc_at w (.cells #[.slice a1 s.vars.length c1, .slice a2 xhs.length c2] 34) _ rfl) (.cells #[.slice a3 t.vars.length c3, .slice a4 yhs.length c4] 34)
  have q2 : ((w.alloc (.cells #[.slice a1 s.vars.length c1, .slice a2 xhs.length c2] 34)).alloc (.cells #[.slice a3 t.vars.length c3, .slice a4 yhs.length c4] 34)).heap[w.heap.size + 1]? = some (.cells #[.slice a3 t.vars.length c3, .slice a4 yhs.length c4] 34) := heap_alloc_at _ _ _ (by simp)
  have q3 := ((World.Fr.refl w []).alloc (.cells #[.slice a1 s.vars.length c1, .slice a2 xhs.length c2] 34)).alloc (.cells #[.slice a3 t.vars.length c3, .slice a4 yhs.length c4] 34)
  go_enter Tryz.func66, Tryz.ntmps66
  go_upto_region 1 with (fail)
  generalize hW : World.alloc (World.alloc w _) _ = W at *
  clear hW
  obtain ⟨p0, p1, pf⟩ := two q1
  obtain ⟨r0, r1, rf⟩ := two q2
  have Q2 := Lib.hid q2; have Q3 := Lib.hid q3; clear q1 q2 q3
  go_wp2_with fail
  (with_reducible refine (Hc1.out _ Q3.out).mono ?_)
  rintro e w1 ⟨rfl, hf1⟩
  have q2 := hf1.heap Q2.out (by simp)
  have Q4 := Lib.hid (Q3.out.trans hf1 (by simp))
  clear p0 p1 pf r0 r1 rf hf1 Q2 Q3
  obtain ⟨r0, r1, rf⟩ := two q2
  clear q2
  by_cases h0 : tcheck cf s = 0
  · have hres : R = tcheck cf t := by rw [← HR.out, bothE, if_pos h0]
    subst hres
    rw [h0]
    clear h0 HR
    go_wp2_with fail
    (with_reducible refine (Hc2.out _ Q4.out).mono ?_)
    rintro e w2 ⟨rfl, hf2⟩
    have Q5 := Lib.hid (Q4.out.trans hf2 (by simp)); clear hf2
    go_wp2
    go_ret
    exact ⟨rfl, Q5.out⟩
  · have hres : R = tcheck cf s := by rw [← HR.out, bothE, if_neg h0]
    subst hres
    have h0b : (tcheck cf s == 0) = false := beq_eq_false_iff_ne.2 h0
    have h0c : (tcheck cf s != 0) = true := by simp [h0]
    clear h0 HR
    go_wp2
    go_ret
    exact ⟨rfl, Q4.out⟩

open Classical in
set_option maxRecDepth 100000 in
set_option maxHeartbeats 4000000 in
theorem runion43 {cf : V → V → Int} (hRK : RChkOk V.wf) (hRC : RCmpOk V.wf cf) (hO : OrdOk (fun v => V.wf v ∧ vcheck v = 0) cf) {w : World} {v1 v2 : Value} {a b : Tb} (h1 : RdTab w v1 a) (h2 : RdTab w v2 b) (ha : Fits V.wf a) (hb : Fits V.wf b) (hmany : a.rows.length + b.rows.length ≤ 5864062014634) :
    Calls Tryz.prog 22 #[v1, v2] w fun e w' => ∃ v, e = .returned (.tuple #[v, .int .i64 (unionT cf a b).1]) ∧ OwnTab w w' v (unionT cf a b).2 := by
  have hboth := fun w' (hf : w.Fr w' []) => rboth74 hRK hRC (h1.still hf) (h2.still hf) ha hb
  have htab := h2
  have Hmany := Lib.hid hmany; clear hmany
  obtain ⟨x1, y1, hs1, rfl, hv1, hr1⟩ := h1.ex
  obtain ⟨x2, y2, hs2, rfl, hv2, hr2⟩ := h2.ex
  obtain ⟨a1, c1, rfl, _, _⟩ := hv1.rd.shape
  obtain ⟨a2, c2, rfl, _, _⟩ := hr1.rd.shape
  obtain ⟨a3, c3, rfl, _, _⟩ := hv2.rd.shape
  obtain ⟨a4, c4, rfl, _, _⟩ := hr2.rd.shape
  have hlen := hr1.len
  have hlen2 := hr2.len
  generalize hR : unionT cf a b = R
  rw [hlen] at hboth ⊢
  rw [hlen2] at hboth htab ⊢
  clear h1 h2
  have Htab := Lib.hid htab; have Hv1 := Lib.hid hv1; have Hv2 := Lib.hid hv2; have Hr1 := Lib.hid hr1; have Ha := Lib.hid ha; have Hb := Lib.hid hb; have HRC := Lib.hid hRC; have HO := Lib.hid hO; have Hboth := Lib.hid hboth; have Hr2 := Lib.hid hr2; have HR := Lib.hid hR; have Hlen := Lib.hid hlen; have Hlen2 := Lib.hid hlen2; clear hv1 hv2 hr1 hr2 ha hb hRK hRC hO hboth hR hlen hlen2 htab
  go_enter Tryz.func22, Tryz.ntmps22
  go_upto_region 1 with (fail)
  generalize hW : World.alloc (World.alloc (World.alloc w _) _) _ = W
  have q1 : W.heap[w.heap.size]? = some (.cells #[.slice a1 a.vars.length c1, .slice a2 a.rows.length c2] 34 (0, 0)) := by rw [← hW]; exact heap_alloc_some (heap_alloc_some (heap_alloc_at _ _ _ rfl) _) _
  have q2 : W.heap[w.heap.size + 1]? = some (.cells #[.slice a3 b.vars.length c3, .slice a4 b.rows.length c4] 34 (0, 0)) := by rw [← hW]; exact heap_alloc_some (heap_alloc_at _ _ _ (by simp)) _
  have q4 : W.heap[w.heap.size + 1 + 1]? = some (.cells #[.slice none 0 0, .slice none 0 0] 34 (0, 0)) := by rw [← hW]; exact heap_alloc_at _ _ _ (by simp)
  have q3 : w.Fr W [] := by rw [← hW]; exact (((World.Fr.refl w []).alloc _).alloc _).alloc _
  clear hW
  generalize hb1 : w.heap.size = b1 at *
  have Hb1 := Lib.hid hb1; clear hb1
  obtain ⟨p0, p1, pf⟩ := two q1
  obtain ⟨s0, s1, sf⟩ := two q2
  have Q1 := Lib.hid q1; have Q2 := Lib.hid q2; have Q3 := Lib.hid q3; have Q4 := Lib.hid q4; clear q1 q2 q3 q4
  have hbad : ∀ (W : World), w.Fr W [] → W.heap[b1 + 1 + 1]? = some (.cells #[.slice none 0 0, .slice none 0 0] 34 (0, 0)) → OwnTab w ((W.setCell ⟨b1 + 1 + 1, 0, none⟩ (.slice none 0 0)).setCell ⟨b1 + 1 + 1, 1, none⟩ (.slice none 0 0)) (.agg #[.slice none 0 0, .slice none 0 0]) tNone ∧
      ((W.setCell ⟨b1 + 1 + 1, 0, none⟩ (.slice none 0 0)).setCell ⟨b1 + 1 + 1, 1, none⟩ (.slice none 0 0)).heap[b1 + 1 + 1]? = some (.cells #[.slice none 0 0, .slice none 0 0] 34 (0, 0)) := fun W hf hb => (OwnTab.empty (w := w) hf).put hb (by have := Hb1.out; omega)
  have Hbad := Lib.hid hbad; clear hbad
  go_wp2_with fail
  (with_reducible refine (Hboth.out _ Q3.out).mono ?_)
  rintro e w1 ⟨rfl, hf1⟩
  have q1 := hf1.heap Q1.out (by simp)
  have q2 := hf1.heap Q2.out (by simp)
  have q4 := hf1.heap Q4.out (by simp)
  have q3 := Q3.out.trans hf1 (by simp)
  clear p0 p1 pf s0 s1 sf Q1 Q2 Q3 Q4 hf1 Hboth
  obtain ⟨p0, p1, pf⟩ := two q1
  obtain ⟨s0, s1, sf⟩ := two q2
  obtain ⟨r0, r1, rf⟩ := two q4
  have hlb := lt_of_heap q1
  have hlb2 := lt_of_heap q2
  have hlb4 := lt_of_heap q4
  have Q1 := Lib.hid q1; have Q2 := Lib.hid q2; have Q3 := Lib.hid q3; have Q4 := Lib.hid q4; clear q1 q2 q3 q4
  by_cases h0 : bothE cf a b = 0
  · rw [h0]
    obtain ⟨ha0, hb0⟩ := bothE_zero h0
    obtain ⟨k1, k2, k3, k4⟩ := tcheck_zero ha0
    obtain ⟨l1, l2, l3, l4⟩ := tcheck_zero hb0
    have K1 := Lib.hid k1; have K2 := Lib.hid k2; have K3 := Lib.hid k3; have L1 := Lib.hid l1; have L2 := Lib.hid l2; have L3 := Lib.hid l3; have H0 := Lib.hid h0
    clear h0 ha0 hb0 k1 k2 k3 k4 l1 l2 l3 l4
    have hsv := rsameVars52 (Hv1.out.fr Q3.out (by simp)) (Hv2.out.fr Q3.out (by simp)) (by have := K1.out; omega)
    have Hsv := Lib.hid hsv
    clear hsv
    go_wp2_with fail
    (with_reducible refine Hsv.out.mono ?_)
    rintro e w2 ⟨rfl, hf2⟩
    have q1 := hf2.heap Q1.out (by simp)
    have q2 := hf2.heap Q2.out (by simp)
    have q4 := hf2.heap Q4.out (by simp)
    have q3 := Q3.out.trans hf2 (by simp)
    clear p0 p1 pf s0 s1 sf r0 r1 rf hlb hlb2 hlb4 Q1 Q2 Q3 Q4 Hsv hf2
    obtain ⟨p0, p1, pf⟩ := two q1
    obtain ⟨s0, s1, sf⟩ := two q2
    obtain ⟨r0, r1, rf⟩ := two q4
    have hlb := lt_of_heap q1
    have hlb2 := lt_of_heap q2
    have hlb4 := lt_of_heap q4
    have Q1 := Lib.hid q1; have Q2 := Lib.hid q2; have Q3 := Lib.hid q3; have Q4 := Lib.hid q4; clear q1 q2 q3 q4
    cases hev : eqB a.vars b.vars with
    | false =>
      have hne : a.vars ≠ b.vars := fun e => by rw [eqB_true e] at hev; cases hev
      have hres : R = (30, tNone) := by rw [← HR.out]; unfold unionT; rw [if_neg (by simp [H0.out]), if_pos hne]
      subst hres
      clear hne hev HR
      have hfin := Hbad.out _ Q3.out Q4.out
      obtain ⟨f0, f1, _⟩ := two hfin.2
      have Hfin := Lib.hid hfin.1
      clear hfin p0 p1 pf
      go_wp2
      refine bodyPost_ret (v := .tuple #[.agg #[.slice none 0 0, .slice none 0 0], .int .i64 30]) (by simp [results, Tryz.results22, go_sem, f0, f1]) rfl ⟨_, rfl, Hfin.out⟩
    | true =>
      have heq : a.vars = b.vars := by unfold eqB at hev; simpa using hev
      have hres : R = (0, madeT cf a.vars (a.rows ++ b.rows)) := by rw [← HR.out]; unfold unionT; rw [if_neg (by simp [H0.out]), if_neg (by simp [heq])]
      subst hres
      have Heq := Lib.hid heq
      clear heq hev HR
      have hn1 : a.rows.length ≤ 5864062014634 := by have := Hmany.out; omega
      have hs1r := (Hr1.out.still Q3.out).rd
      rw [Hlen.out] at hs1r
      have Hs1r := Lib.hid hs1r; clear hs1r
      obtain ⟨ih, hih, hh0, hh1, hh2⟩ := info_parts infoH
      go_wp2_with (at_builtin; refine wpList_append_src _ rfl (.tmp 24) (.tmp 26) 32 rfl 81 ih (.slice none 0 0) 1 24 Tryz.underlying32 hih hh0 hh1 hh2 rfl (.slice none 0 0) 0 [] rfl (World.Sl.nil _ _ _) (.slice a2 a.rows.length c2) a.rows.length hs1 rfl Hs1r.out Hr1.out.one ⟨by omega, by omega⟩ ?_)
      intro v' w5 hs5 hf5 hb5
      obtain ⟨a6, c6, rfl, _, _⟩ := hs5.shape
      try simp only [Nat.zero_add, List.nil_append] at hs5
      try simp only [Nat.zero_add]
      have hf5' : w2.Fr w5 [] := by simpa [Value.blk] using hf5
      have hnew : ∀ k, k ∈ (Value.slice a6 a.rows.length c6).blk → w2.heap.size ≤ k := fun k hk => by
        rcases hb5 k hk with h | h
        · simp [Value.blk] at h
        · omega
      have q1 := hf5'.heap Q1.out (by simp)
      have q2 := hf5'.heap Q2.out (by simp)
      have q4 := hf5'.heap Q4.out (by simp)
      have q3 := Q3.out.trans hf5' (by simp)
      have Hnew := Lib.hid hnew; have Hs5 := Lib.hid hs5
      have Hle := Lib.hid hlb4; have Hle5 := Lib.hid hf5'.size
      clear p0 p1 pf s0 s1 sf r0 r1 rf hlb hlb2 hlb4 Q1 Q2 Q4 hnew hs5 hf5 hb5 hf5' Hs1r hn1 ih hih hh0 hh1 hh2
      obtain ⟨p0, p1, pf⟩ := two q1
      obtain ⟨s0, s1, sf⟩ := two q2
      have Q1 := Lib.hid q1; have Q4 := Lib.hid q4; have Q3b := Lib.hid q3; clear q1 q2 q4 q3
      have hs2r := (Hr2.out.still Q3b.out).rd
      rw [Hlen2.out] at hs2r
      have Hs2r := Lib.hid hs2r; clear hs2r
      have hn2 : a.rows.length + b.rows.length ≤ 5864062014634 := Hmany.out
      obtain ⟨ih, hih, hh0, hh1, hh2⟩ := info_parts infoH
      go_wp2_with (at_builtin; refine wpList_append_src _ rfl (.tmp 28) (.tmp 30) 32 rfl 81 ih (.slice none 0 0) 1 24 Tryz.underlying32 hih hh0 hh1 hh2 rfl (.slice a6 a.rows.length c6) a.rows.length hs1 rfl Hs5.out (.slice a4 b.rows.length c4) b.rows.length hs2 rfl Hs2r.out Hr2.out.one ⟨by omega, by omega⟩ ?_)
      intro v' w6 hs6 hf6 hb6
      obtain ⟨a7, c7, rfl, _, _⟩ := hs6.shape
      have hdis : ∀ k, k ∈ (Value.slice a6 a.rows.length c6).blk → w.heap.size ≤ k ∧ k ≠ b1 ∧ k ≠ b1 + 1 + 1 := fun k hk => by
        have h1 := Hnew.out k hk; have h2 := Hle.out; have h3 := Hb1.out
        refine ⟨by omega, by omega, by omega⟩
      have q1 := hf6.heap Q1.out (fun hk => (hdis _ hk).2.1 rfl)
      have q4 := hf6.heap Q4.out (fun hk => (hdis _ hk).2.2 rfl)
      have hfw := Q3b.out.trans hf6 (fun k hk => .inr (hdis k hk).1)
      have hrows : RdRows w6 (.slice a7 (a.rows.length + b.rows.length) c7) (a.rows ++ b.rows) (hs1 ++ hs2) := (Hr1.out.still hfw).append (Hr2.out.still hfw) (by rw [Hlen.out, Hlen2.out]; exact hs6.rd)
      have hc := rmade77m HRC.out HO.out (Hv1.out.fr hfw (by simp)) hrows (by have := K1.out; omega) (by rw [List.length_append]; exact Hmany.out) (nodup_of_pair K2.out) (fun r hr => by
        rcases List.mem_append.1 hr with h | h
        · exact K3.out r h
        · rw [Heq.out]; exact L3.out r h) (fun r hr => by
        rcases List.mem_append.1 hr with h | h
        · exact Ha.out.ok r h
        · exact Hb.out.ok r h)
      have Hc := Lib.hid hc; have Hfw := Lib.hid hfw; have Q4c := Lib.hid q4
      clear hc hfw hrows q4 hs6 hf6 hb6 hdis hn2 Hs2r p0 p1 pf s0 s1 sf ih hih hh0 hh1 hh2
      obtain ⟨p0, p1, pf⟩ := two q1
      clear q1
      go_wp2_with fail
      (with_reducible refine Hc.out.mono ?_)
      rintro e w7 ⟨v, rfl, ho⟩
      obtain ⟨x1, y1, x2, y2, rfl⟩ := ho.shape
      have hbx := ho.fr.heap Q4c.out (by simp)
      have ho2 := (ho.since Hfw.out).put hbx (by have := Hb1.out; omega)
      clear p0 p1 pf
      obtain ⟨p0, p1, pf⟩ := two hbx
      have hbW := lt_of_heap hbx
      obtain ⟨f0, f1, _⟩ := two ho2.2
      have Hfin := Lib.hid ho2.1
      clear ho2 ho hbx
      go_wp2
      refine bodyPost_ret (v := .tuple #[.agg #[.slice x1 _ y1, .slice x2 _ y2], .int .i64 0]) (by simp [results, Tryz.results22, go_sem, f0, f1]) rfl ⟨_, rfl, Hfin.out⟩
  · have hres : R = (bothE cf a b, tNone) := by rw [← HR.out]; unfold unionT; rw [if_pos h0]
    have h0b : (bothE cf a b == 0) = false := beq_eq_false_iff_ne.2 h0
    have h0c : (bothE cf a b != 0) = true := by simp [h0]
    clear h0 HR
    generalize bothE cf a b = z at *
    subst hres
    have hfin := Hbad.out _ Q3.out Q4.out
    obtain ⟨f0, f1, _⟩ := two hfin.2
    have Hfin := Lib.hid hfin.1
    clear hfin p0 p1 pf
    go_wp2
    refine bodyPost_ret (v := .tuple #[.agg #[.slice none 0 0, .slice none 0 0], .int .i64 z]) (by simp [results, Tryz.results22, go_sem, f0, f1]) rfl ⟨_, rfl, Hfin.out⟩

open Classical in
set_option maxRecDepth 100000 in
set_option maxHeartbeats 4000000 in
theorem rminus45 {cf : V → V → Int} (hRK : RChkOk V.wf) (hRC : RCmpOk V.wf cf) (hO : OrdOk (fun v => V.wf v ∧ vcheck v = 0) cf) {w : World} {v1 v2 : Value} {a b : Tb} (h1 : RdTab w v1 a) (h2 : RdTab w v2 b) (ha : Fits V.wf a) (hb : Fits V.wf b) :
    Calls Tryz.prog 23 #[v1, v2] w fun e w' => ∃ v, e = .returned (.tuple #[v, .int .i64 (minusT cf a b).1]) ∧ OwnTab w w' v (minusT cf a b).2 := by
  have hboth := fun w' (hf : w.Fr w' []) => rboth74 hRK hRC (h1.still hf) (h2.still hf) ha hb
  have htab := h2
  obtain ⟨x1, y1, hs1, rfl, hv1, hr1⟩ := h1.ex
  obtain ⟨x2, y2, hs2, rfl, hv2, hr2⟩ := h2.ex
  obtain ⟨a1, c1, rfl, _, _⟩ := hv1.rd.shape
  obtain ⟨a2, c2, rfl, _, _⟩ := hr1.rd.shape
  obtain ⟨a3, c3, rfl, _, _⟩ := hv2.rd.shape
  obtain ⟨a4, c4, rfl, _, _⟩ := hr2.rd.shape
  have hlen := hr1.len
  have hlen2 := hr2.len
  generalize hR : minusT cf a b = R
  rw [hlen] at hboth ⊢
  rw [hlen2] at hboth htab ⊢
  clear h1 h2
  have Htab := Lib.hid htab; have Hv1 := Lib.hid hv1; have Hv2 := Lib.hid hv2; have Hr1 := Lib.hid hr1; have Ha := Lib.hid ha; have Hb := Lib.hid hb; have HRC := Lib.hid hRC; have HO := Lib.hid hO; have Hboth := Lib.hid hboth; have Hr2 := Lib.hid hr2; have HR := Lib.hid hR; have Hlen := Lib.hid hlen; have Hlen2 := Lib.hid hlen2; clear hv1 hv2 hr1 hr2 ha hb hRK hRC hO hboth hR hlen hlen2 htab
  go_enter Tryz.func23, Tryz.ntmps23
  go_upto_region 1 with (fail)
  generalize hW : World.alloc (World.alloc (World.alloc w _) _) _ = W
  have q1 : W.heap[w.heap.size]? = some (.cells #[.slice a1 a.vars.length c1, .slice a2 a.rows.length c2] 34 (0, 0)) := by rw [← hW]; exact heap_alloc_some (heap_alloc_some (heap_alloc_at _ _ _ rfl) _) _
  have q2 : W.heap[w.heap.size + 1]? = some (.cells #[.slice a3 b.vars.length c3, .slice a4 b.rows.length c4] 34 (0, 0)) := by rw [← hW]; exact heap_alloc_some (heap_alloc_at _ _ _ (by simp)) _
  have q4 : W.heap[w.heap.size + 1 + 1]? = some (.cells #[.slice none 0 0, .slice none 0 0] 34 (0, 0)) := by rw [← hW]; exact heap_alloc_at _ _ _ (by simp)
  have q3 : w.Fr W [] := by rw [← hW]; exact (((World.Fr.refl w []).alloc _).alloc _).alloc _
  clear hW
  generalize hb1 : w.heap.size = b1 at *
  have Hb1 := Lib.hid hb1; clear hb1
  obtain ⟨p0, p1, pf⟩ := two q1
  obtain ⟨s0, s1, sf⟩ := two q2
  have Q1 := Lib.hid q1; have Q2 := Lib.hid q2; have Q3 := Lib.hid q3; have Q4 := Lib.hid q4; clear q1 q2 q3 q4
  have hbad : ∀ (W : World), w.Fr W [] → W.heap[b1 + 1 + 1]? = some (.cells #[.slice none 0 0, .slice none 0 0] 34 (0, 0)) → OwnTab w ((W.setCell ⟨b1 + 1 + 1, 0, none⟩ (.slice none 0 0)).setCell ⟨b1 + 1 + 1, 1, none⟩ (.slice none 0 0)) (.agg #[.slice none 0 0, .slice none 0 0]) tNone ∧
      ((W.setCell ⟨b1 + 1 + 1, 0, none⟩ (.slice none 0 0)).setCell ⟨b1 + 1 + 1, 1, none⟩ (.slice none 0 0)).heap[b1 + 1 + 1]? = some (.cells #[.slice none 0 0, .slice none 0 0] 34 (0, 0)) := fun W hf hb => (OwnTab.empty (w := w) hf).put hb (by have := Hb1.out; omega)
  have Hbad := Lib.hid hbad; clear hbad
  go_wp2_with fail
  (with_reducible refine (Hboth.out _ Q3.out).mono ?_)
  rintro e w1 ⟨rfl, hf1⟩
  have q1 := hf1.heap Q1.out (by simp)
  have q2 := hf1.heap Q2.out (by simp)
  have q4 := hf1.heap Q4.out (by simp)
  have q3 := Q3.out.trans hf1 (by simp)
  clear p0 p1 pf s0 s1 sf Q1 Q2 Q3 Q4 hf1 Hboth
  obtain ⟨p0, p1, pf⟩ := two q1
  obtain ⟨s0, s1, sf⟩ := two q2
  obtain ⟨r0, r1, rf⟩ := two q4
  have hlb := lt_of_heap q1
  have hlb2 := lt_of_heap q2
  have hlb4 := lt_of_heap q4
  have Q1 := Lib.hid q1; have Q2 := Lib.hid q2; have Q3 := Lib.hid q3; have Q4 := Lib.hid q4; clear q1 q2 q3 q4
  by_cases h0 : bothE cf a b = 0
  · rw [h0]
    obtain ⟨ha0, hb0⟩ := bothE_zero h0
    obtain ⟨k1, k2, k3, k4⟩ := tcheck_zero ha0
    obtain ⟨l1, l2, l3, l4⟩ := tcheck_zero hb0
    have K1 := Lib.hid k1; have K2 := Lib.hid k2; have K3 := Lib.hid k3; have L1 := Lib.hid l1; have L2 := Lib.hid l2; have L3 := Lib.hid l3; have H0 := Lib.hid h0
    clear h0 ha0 hb0 k1 k2 k3 k4 l1 l2 l3 l4
    have hsv := rsameVars52 (Hv1.out.fr Q3.out (by simp)) (Hv2.out.fr Q3.out (by simp)) (by have := K1.out; omega)
    have Hsv := Lib.hid hsv
    clear hsv
    go_wp2_with fail
    (with_reducible refine Hsv.out.mono ?_)
    rintro e w2 ⟨rfl, hf2⟩
    have q1 := hf2.heap Q1.out (by simp)
    have q2 := hf2.heap Q2.out (by simp)
    have q4 := hf2.heap Q4.out (by simp)
    have q3 := Q3.out.trans hf2 (by simp)
    clear p0 p1 pf s0 s1 sf r0 r1 rf hlb hlb2 hlb4 Q1 Q2 Q3 Q4 Hsv hf2
    obtain ⟨p0, p1, pf⟩ := two q1
    obtain ⟨s0, s1, sf⟩ := two q2
    obtain ⟨r0, r1, rf⟩ := two q4
    have hlb := lt_of_heap q1
    have hlb2 := lt_of_heap q2
    have hlb4 := lt_of_heap q4
    have Q1 := Lib.hid q1; have Q2 := Lib.hid q2; have Q3 := Lib.hid q3; have Q4 := Lib.hid q4; clear q1 q2 q3 q4
    cases hev : eqB a.vars b.vars with
    | false =>
      have hne : a.vars ≠ b.vars := fun e => by rw [eqB_true e] at hev; cases hev
      have hres : R = (30, tNone) := by rw [← HR.out]; unfold minusT; rw [if_neg (by simp [H0.out]), if_pos hne]
      subst hres
      clear hne hev HR
      have hfin := Hbad.out _ Q3.out Q4.out
      obtain ⟨f0, f1, _⟩ := two hfin.2
      have Hfin := Lib.hid hfin.1
      clear hfin p0 p1 pf
      go_wp2
      refine bodyPost_ret (v := .tuple #[.agg #[.slice none 0 0, .slice none 0 0], .int .i64 30]) (by simp [results, Tryz.results23, go_sem, f0, f1]) rfl ⟨_, rfl, Hfin.out⟩
    | true =>
      have heq : a.vars = b.vars := by unfold eqB at hev; simpa using hev
      have hres : R = (0, madeT cf a.vars (a.rows.filter fun x => !hasB b.rows x)) := by
        rw [← HR.out]; unfold minusT; rw [if_neg (by simp [H0.out]), if_neg (by simp [heq])]
        unfold antiT; rw [if_neg (by simp [H0.out]), anti_minus heq (nodup_of_pair K2.out) (fun r hr => (K3.out r hr).1) (fun r hr => (L3.out r hr).1)]
      have HR3 := Lib.hid hres; clear hres
      have Heq := Lib.hid heq
      clear heq hev HR
      have HR0 : Hid (RowsR w2 w2 (.slice none 0 0) [] []) := Lib.hid (RowsR.nil w2)
      clear p0 p1 pf s0 s1 sf r0 r1 rf hlb hlb2 hlb4
      go_wp2
      go_loopw [8, 9] (fun vb i wr => ∃ (j : Nat) (hsn : List Value), i = .int .i64 j ∧ j ≤ a.rows.length ∧ Hid (RowsR w2 wr vb hsn ((a.rows.take j).filter fun x => !hasB b.rows x)) ∧ Hid (hsn.length ≤ j)) (fun _ i _ => (a.rows.length - intOf i).toNat)
      case atStart => exact ⟨0, [], rfl, Nat.zero_le _, HR0, Lib.hid (Nat.le_refl _)⟩
      case round =>
        obtain ⟨j, hsn, rfl, hj, HRr, Hhl⟩ := hrel
        obtain ⟨xa, xc, hxv, _, _⟩ := HRr.out.sl.shape
        subst hxv
        have hfr := Q3.out.trans HRr.out.fr (by simp)
        have q1 := HRr.out.fr.heap Q1.out (by simp)
        have q2 := HRr.out.fr.heap Q2.out (by simp)
        obtain ⟨p0, p1, pf⟩ := two q1
        obtain ⟨s0, s1, sf⟩ := two q2
        have Hfr := Lib.hid hfr; have Q1b := Lib.hid q1; have Q2b := Lib.hid q2; clear hfr q1 q2
        by_cases hlt : j < a.rows.length
        · obtain ⟨r, hr⟩ : ∃ r, a.rows[j]? = some r := ⟨a.rows[j], List.getElem?_eq_getElem hlt⟩
          obtain ⟨g, off, c, ax, mx, hv, hg, kx, hrow0⟩ := Hr1.out.at2 Hfr.out hr
          rw [Hlen.out] at hv
          cases hv
          have hjI : (j : Int) < (a.rows.length : Int) := by omega
          have hw1 : IntKind.i64.wrap ((j : Int) + 1) = (j : Int) + 1 := IntWalk.i64_in _ (by have := Ha.out.rows; omega)
          have hnn : (0 : Int) ≤ (j : Int) := by omega
          have htk : a.rows.take (j + 1) = a.rows.take j ++ [r] := by
            rw [List.take_succ_eq_append_getElem hlt, (List.getElem?_eq_some_iff.1 hr).2]
          have hc := fun w' (hf : wr.Fr w' []) => rhas19 (w := w') ((Htab.out.still Hfr.out).still hf) ((hrow0.fr Hfr.out (by simp)).fr hf (by simp)) Hb.out.small
          have hxlt := hrow0.rd.lt
          have Hc := Lib.hid hc; have Htk := Lib.hid htk; have Hrow := Lib.hid (hrow0.fr Hfr.out (by simp)); have Hxlt := Lib.hid hxlt
          clear hc htk hxlt hrow0 hr
          go_wp2
          go_still_tail 6, (by kernel_rfl)
          change wpList _ _ _ _ _ wr.drew
          go_wp2_with fail
          (with_reducible refine (Hc.out _ ((World.Fr.refl wr []).drew)).mono ?_)
          rintro e w5 ⟨rfl, hf5⟩
          have hf5' := ((World.Fr.refl wr []).drew).trans hf5 (by simp)
          have HRs := Lib.hid (HRr.out.still hf5')
          have Hrow5 := Lib.hid (Hrow.out.fr hf5' (by simp))
          have q1 := hf5'.heap Q1b.out (by simp)
          have hkx := cellFrA hf5' kx
          have hg5 : g < w5.heap.size := Nat.lt_of_lt_of_le hg hf5'.size
          clear p0 p1 pf s0 s1 sf kx hg hf5 hf5' Hc
          obtain ⟨p0, p1, pf⟩ := two q1
          clear q1
          cases hh : hasB b.rows r with
          | false =>
            have hsnr : ((a.rows.take (j + 1)).filter fun x => !hasB b.rows x) = ((a.rows.take j).filter fun x => !hasB b.rows x) ++ [r] := by
              rw [Htk.out, List.filter_append, List.filter_cons, if_pos (by rw [hh]; rfl)]; rfl
            obtain ⟨ih, hih, hh0, hh1, hh2⟩ := info_parts infoH
            have Hsnr := Lib.hid hsnr; have Hsl0 := Lib.hid HRs.out.sl
            clear hsnr hh
            generalize hhn : hsn.length = hn at *
            have Hhn := Lib.hid hhn; clear hhn
            have hroom : hn < 5864062014634 := by have := Hhl.out; have := Ha.out.rows; omega
            go_wp2_with (at_builtin; refine wpList_append_one _ rfl (.tmp 42) (.tmp 48) 32 rfl 81 ih (.slice none 0 0) 1 24 Tryz.underlying32 hih hh0 hh1 hh2 rfl (.slice xa hn xc) hn hsn rfl (Hsl0.out.alloc _) w5.heap.size 1 [.slice ax r.length mx] 81 rfl (heap_alloc_at _ _ _ rfl) rfl rfl ⟨by omega, by omega⟩ ?_)
            intro g3 off3 c3 w6 hsl3 hfr3 hat hlt3
            have hpush := HRs.out.push ((World.Fr.refl w5 []).alloc (.cells #[.slice ax r.length mx] 81)) (Hrow5.out.fr ((World.Fr.refl w5 []).alloc _) (by simp)) (fun k hk hk2 => by
              have e1 := Hxlt.out k hk
              have e2 := HRs.out.new k hk2
              have := Q3.out.size; omega) (g := g3) (off := off3) (c := c3) (by rw [Hhn.out]; exact hsl3) hfr3 (by rcases hat with h | h; exact .inl h; exact .inr (by simp at h ⊢; omega))
            rw [← Hsnr.out, Hhn.out] at hpush
            have Hpush := Lib.hid hpush
            clear hpush hsl3 hfr3 hat hlt3 hroom
            go_wp2
            go_roundw
            case rel => exact ⟨j + 1, _, by go_num, by omega, Hpush, Lib.hid (by have := Hhl.out; have := Hhn.out; simp; omega)⟩
            case measure => simp [intOf]; omega
          | true =>
            have hsnr : ((a.rows.take (j + 1)).filter fun x => !hasB b.rows x) = ((a.rows.take j).filter fun x => !hasB b.rows x) := by
              rw [Htk.out, List.filter_append, List.filter_cons, if_neg (by rw [hh]; simp)]; simp
            have hrs := HRs.out
            rw [← hsnr] at hrs
            have Hpush := Lib.hid hrs
            clear hrs hsnr hh
            go_wp2
            go_roundw
            case rel => exact ⟨j + 1, _, by go_num, by omega, Hpush, Lib.hid (by have := Hhl.out; omega)⟩
            case measure => simp [intOf]; omega
        · have hd : decide ((j : Int) < (a.rows.length : Int)) = false := decide_eq_false (by omega)
          have hd2 : decide (j < a.rows.length) = false := decide_eq_false hlt
          obtain rfl : j = a.rows.length := by omega
          rw [List.take_of_length_le (Nat.le_refl _)] at HRr
          generalize hrr : (a.rows.filter fun x => !hasB b.rows x) = rr at *
          have hsub : ∀ r, r ∈ rr → r ∈ a.rows := fun r hr => by rw [← hrr] at hr; exact (List.mem_filter.1 hr).1
          have hlen : rr.length ≤ a.rows.length := by rw [← hrr]; exact List.length_filter_le _ _
          have hbx := HRr.out.fr.heap Q4.out (by simp)
          have hc := rmade77m HRC.out HO.out (Hv1.out.fr Hfr.out (by simp)) HRr.out.rd (by have := K1.out; omega) (by have := Ha.out.rows; omega) (nodup_of_pair K2.out) (fun r hr => K3.out r (hsub r hr)) (fun r hr => Ha.out.ok r (hsub r hr))
          have Hc := Lib.hid hc; have Q4c := Lib.hid hbx; have Hfw := Lib.hid Hfr.out; clear hc hbx hlt hj hsub hlen hrr
          have hres := HR3.out
          subst hres
          clear s0 s1 sf
          go_wp2_with fail
          (with_reducible refine Hc.out.mono ?_)
          rintro e w7 ⟨v, rfl, ho⟩
          obtain ⟨x1, y1, x2, y2, rfl⟩ := ho.shape
          have hbx := ho.fr.heap Q4c.out (by simp)
          have ho2 := (ho.since Hfw.out).put hbx (by have := Hb1.out; omega)
          clear p0 p1 pf
          obtain ⟨p0, p1, pf⟩ := two hbx
          have hbW := lt_of_heap hbx
          obtain ⟨f0, f1, _⟩ := two ho2.2
          have Hfin := Lib.hid ho2.1
          clear ho2 ho hbx
          go_wp2
          refine bodyPost_ret (v := .tuple #[.agg #[.slice x1 _ y1, .slice x2 _ y2], .int .i64 0]) (by simp [results, Tryz.results23, go_sem, f0, f1]) rfl ⟨_, rfl, Hfin.out⟩
  · have hres : R = (bothE cf a b, tNone) := by rw [← HR.out]; unfold minusT; rw [if_pos h0]
    have h0b : (bothE cf a b == 0) = false := beq_eq_false_iff_ne.2 h0
    have h0c : (bothE cf a b != 0) = true := by simp [h0]
    clear h0 HR
    generalize bothE cf a b = z at *
    subst hres
    have hfin := Hbad.out _ Q3.out Q4.out
    obtain ⟨f0, f1, _⟩ := two hfin.2
    have Hfin := Lib.hid hfin.1
    clear hfin p0 p1 pf
    go_wp2
    refine bodyPost_ret (v := .tuple #[.agg #[.slice none 0 0, .slice none 0 0], .int .i64 z]) (by simp [results, Tryz.results23, go_sem, f0, f1]) rfl ⟨_, rfl, Hfin.out⟩
end Go.Proofs.YtbejmdlncnkaaaaGreat
