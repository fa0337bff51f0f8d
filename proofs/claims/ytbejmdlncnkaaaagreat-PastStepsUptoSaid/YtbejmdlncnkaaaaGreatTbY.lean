/-
  The walks of table.Union, Minus. The walks of the statement's own one, xy.
-/
import Derived.Test.YtbejmdlncnkaaaaGreatTbZ
import Derived.Test.YtbejmdlncnkaaaaGreatKys
import Derived.Deep.RegionHeld3
set_option maxRecDepth 100000
set_option maxHeartbeats 16000000
set_option linter.unusedSimpArgs false
namespace Go.Proofs.YtbejmdlncnkaaaaGreat
section
open Go.RowKit
open Classical in
noncomputable def unionT (cf : V -> V -> Int) (a b : Tb) : Int × Tb := if bothE cf a b ≠ 0 then (bothE cf a b, tNone) else if a.vars ≠ b.vars then (30, tNone) else (0, madeT cf a.vars (a.rows ++ b.rows))
theorem union39 {okc : V -> Prop} {cf : V -> V -> Int} (hK : Ctx okc cf) {w : World} {v1 v2 : Value} {a b : Tb} (h1 : RdTab w v1 a) (h2 : RdTab w v2 b) (ha : Fits okc a) (hb : Fits okc b) (hmany : a.rows.length + b.rows.length <= 5864062014634) :
  Calls Tryz.prog 51 #[v1, v2] w fun e w' => ∃ v, e = .returned (.tuple #[v, .int .i64 (unionT cf a b).1]) /\ OwnTab w w' v (unionT cf a b).2 := by
 have hboth := fun w' (hf : w.Fr w' []) => both62 hK.known (h1.still hf) (h2.still hf) ha.ok hb.ok ha.small hb.small
 have hlast := trivial
 have hwf1 := h1.wf
 have hwf2 := h2.wf
 obtain ⟨x1, y1, hs1, rfl, hv1, hr1⟩ := h1.ex
 obtain ⟨x2, y2, hs2, rfl, hv2, hr2⟩ := h2.ex
 obtain ⟨a1, c1, rfl, _, _⟩ := hv1.rd.shape
 obtain ⟨a2, c2, rfl, _, _⟩ := hr1.rd.shape
 obtain ⟨a3, c3, rfl, _, _⟩ := hv2.rd.shape
 obtain ⟨a4, c4, rfl, _, _⟩ := hr2.rd.shape
 have hlen := hr1.len
 have hlen2 := hr2.len
 generalize hR : unionT cf a b = R
 rw [hlen] at hr1 hboth ⊢
 rw [hlen2] at hr2 hboth ⊢
 clear hlen hlen2 h1 h2
 have Hv1 := Hz hv1; have Hv2 := Hz hv2; have Hr1 := Hz hr1; have Ha := Hz ha; have Hb := Hz hb; have HK := Hz hK; have Hboth := Hz hboth; have Hmany := Hz hmany; have Hr2 := Hz hr2; have HR := Hz hR; have Hwf1 := Hz hwf1; have Hwf2 := Hz hwf2; clear hv1 hv2 hr1 hr2 ha hb hK hboth hmany hlast hR hwf1 hwf2
 go_enter Tryz.func51, Tryz.ntmps51
 go_upto_region 1 with (fail)
 generalize hW : World.alloc (World.alloc (World.alloc w _) _) _ = W
 have q1 : W.heap[w.heap.size]? = some (.cells #[.slice a1 a.vars.length c1, .slice a2 a.rows.length c2] 34 (0, 0)) := by rw [<- hW]; exact heap_alloc_some (heap_alloc_some (heap_alloc_at _ _ _ rfl) _) _
 have q2 : W.heap[w.heap.size + 1]? = some (.cells #[.slice a3 b.vars.length c3, .slice a4 b.rows.length c4] 34 (0, 0)) := by rw [<- hW]; exact heap_alloc_some (heap_alloc_at _ _ _ (by simp)) _
 have q4 : W.heap[w.heap.size + 1 + 1]? = some (.cells #[.slice none 0 0, .slice none 0 0] 34 (0, 0)) := by rw [<- hW]; exact heap_alloc_at _ _ _ (by simp)
 have q3 : w.Fr W [] := by rw [<- hW]; exact (((World.Fr.refl w []).alloc _).alloc _).alloc _
 clear hW
 generalize hb1 : w.heap.size = b1 at *
 have Hb1 := Hz hb1; clear hb1
 obtain ⟨p0, p1, pf⟩ := two q1
 obtain ⟨s0, s1, sf⟩ := two q2
 have Q1 := Hz q1; have Q2 := Hz q2; have Q3 := Hz q3; have Q4 := Hz q4; clear q1 q2 q3 q4
 go_wp2_with fail
 refine (Hboth.out _ Q3.out).mono ?_
 rintro e w1 ⟨rfl, hf1⟩
 have q1 := hf1.heap Q1.out (by simp)
 have q2 := hf1.heap Q2.out (by simp)
 have q4 := hf1.heap Q4.out (by simp)
 have q3 := Q3.out.trans hf1 (by simp)
 clear p0 p1 pf s0 s1 sf Q1 Q2 Q3 Q4 hf1 Hboth
 obtain ⟨p0, p1, pf⟩ := two q1
 obtain ⟨s0, s1, sf⟩ := two q2
 obtain ⟨r0, r1, rf⟩ := two q4
 have hlb := lt_of_heap q1
 have hlb2 := lt_of_heap q2
 have hlb4 := lt_of_heap q4
 have Q1 := Hz q1; have Q2 := Hz q2; have Q3 := Hz q3; have Q4 := Hz q4; clear q1 q2 q3 q4
 by_cases h0 : bothE cf a b = 0
 ·rw [h0]
  obtain ⟨ha0, hb0⟩ := bothE_zero h0
  obtain ⟨k1, k2, k3, k4⟩ := tcheck_zero ha0
  obtain ⟨l1, l2, l3, l4⟩ := tcheck_zero hb0
  have hvx : (a.vars.Pairwise fun x y => ltS x y = true) /\ a.vars.length <= 8 := ⟨k2, k1⟩
  have he56 := equal56 (Hv1.out.fr Q3.out (by simp)) (Hv2.out.fr Q3.out (by simp)) (by omega)
  have He56 := Hz he56; have K1 := Hz k1; have K2 := Hz k2; have K3 := Hz k3; have L3 := Hz l3; have H0 := Hz h0
  clear he56 h0 ha0 hb0 k1 k2 k3 k4 l1 l2 l3 l4 hvx
  go_wp2_with fail
  refine He56.out.mono ?_
  rintro e w2 ⟨rfl, hf2⟩
  have q1 := hf2.heap Q1.out (by simp)
  have q2 := hf2.heap Q2.out (by simp)
  have q4 := hf2.heap Q4.out (by simp)
  have q3 := Q3.out.trans hf2 (by simp)
  clear p0 p1 pf s0 s1 sf r0 r1 rf hlb hlb2 hlb4 Q1 Q2 Q3 Q4 He56 hf2
  obtain ⟨p0, p1, pf⟩ := two q1
  obtain ⟨s0, s1, sf⟩ := two q2
  obtain ⟨r0, r1, rf⟩ := two q4
  have hlb := lt_of_heap q1
  have hlb2 := lt_of_heap q2
  have hlb4 := lt_of_heap q4
  have Q1 := Hz q1; have Q2 := Hz q2; have Q3 := Hz q3; have Q4 := Hz q4; clear q1 q2 q3 q4
  cases hev : eqB a.vars b.vars with
  | false =>
   have hne : a.vars ≠ b.vars := fun e => by rw [eqB_true e] at hev; cases hev
   have hres : R = (30, tNone) := by rw [<- HR.out]; unfold unionT; rw [if_neg (by simp [H0.out]), if_pos hne]
   subst hres
   clear hne hev HR
   go_wp2
   have hfin := (OwnTab.empty (w := w) Q3.out).put Q4.out (by have := Hb1.out; omega)
   obtain ⟨f0, f1, _⟩ := two hfin.2
   have Hfin := Hz hfin.1
   clear hfin p0 p1 pf
   refine bodyPost_ret (v := .tuple #[.agg #[.slice none 0 0, .slice none 0 0], .int .i64 30]) (by simp [results, Tryz.results51, go_sem, f0, f1]) rfl ⟨_, rfl, Hfin.out⟩
  | true =>
   have heq : a.vars = b.vars := by unfold eqB at hev; simpa using hev
   have hres : R = (0, madeT cf a.vars (a.rows ++ b.rows)) := by rw [<- HR.out]; unfold unionT; rw [if_neg (by simp [H0.out]), if_neg (by simp [heq])]
   subst hres
   have Heq := Hz heq
   clear heq hev HR
   -- the calls of the last region
   have hcat : ∀ W, w.Fr W [] -> Calls Tryz.prog 108 #[.slice (some ⟨W.heap.size, 0, none⟩) 2 2] (W.alloc (.cells #[.slice a2 a.rows.length c2, .slice a4 b.rows.length c4] 32)).drew fun e w' => ∃ x n c, e = .returned (.slice x n c) /\ Hid (∃ hs, RdRows w' (.slice x n c) (a.rows ++ b.rows) hs) /\ w.Fr w' [] /\ W.Fr w' [] := fun W hf => by
    have hf5 := ((World.Fr.refl W []).alloc (.cells #[.slice a2 a.rows.length c2, .slice a4 b.rows.length c4] 32)).drew
    have hl := (World.Sl.lit W 32 #[.slice a2 a.rows.length c2, .slice a4 b.rows.length c4] 2 1 (by simp [maxLen]) rfl).drew
    have hr1 := Hr1.out.rd
    have hr2 := Hr2.out.rd
    rw [Hr1.out.len] at hr1
    rw [Hr2.out.len] at hr2
    have hone : ∀ (rs : List Row) (hs : List Value) (v : Value), RdRows w v rs hs -> hs.all Value.oneCell' = true := fun rs hs v h => by
     rw [List.all_eq_true]
     intro x hx
     obtain ⟨i, hi⟩ := List.getElem?_of_mem hx
     obtain ⟨a, m, he, _⟩ := (h.row i x (rs[i]'(by have := (List.getElem?_eq_some_iff.1 hi).1; have := h.len; omega)) hi (List.getElem?_eq_getElem _)).rd.shape
     rw [he]; rfl
    have hm := Hmany.out
    refine (concat86 (hs := [.slice a2 a.rows.length c2, .slice a4 b.rows.length c4]) [hs1, hs2] hl.rd rfl (fun i hv xs h1 h2 => ?_) (by simp) (by simp [sumLen, Hr1.out.len, Hr2.out.len]; omega)).mono fun e w' ⟨v', he, ho⟩ => ?_
    ·match i with
     | 0 => simp at h1 h2; subst h1 h2; exact ⟨by rw [Hr1.out.len]; exact (hr1.fr hf (by simp)).fr hf5 (by simp), hone _ _ _ Hr1.out⟩
     | 1 => simp at h1 h2; subst h1 h2; exact ⟨by rw [Hr2.out.len]; exact (hr2.fr hf (by simp)).fr hf5 (by simp), hone _ _ _ Hr2.out⟩
     | i + 2 => simp at h1
    ·obtain ⟨x, c, rfl⟩ := ho.shape
     have hfw := (hf.trans hf5 (by simp)).trans ho.fr (by simp)
     refine ⟨x, _, c, he, Hz ⟨hs1 ++ hs2, ?_, by simp [Hr1.out.len, Hr2.out.len], fun i hv r h1 h2 => ?_⟩, hfw, hf5.trans ho.fr (by simp)⟩
     ·have e1 : [hs1, hs2].flatten = hs1 ++ hs2 := by simp
      have := ho.sl.rd
      rw [e1] at this
      rw [e1]
      exact this
     ·have hln := Hr1.out.len
      rcases Nat.lt_or_ge i hs1.length with hi | hi
      ·rw [List.getElem?_append_left hi] at h1
       rw [List.getElem?_append_left (by omega)] at h2
       exact (Hr1.out.row i hv r h1 h2).fr hfw (by simp)
      ·rw [List.getElem?_append_right hi] at h1
       rw [List.getElem?_append_right (by omega)] at h2
       rw [<- hln] at h2
       exact (Hr2.out.row _ hv r h1 h2).fr hfw (by simp)
   have hmade : ∀ W x n c, w.Fr W [] -> Hid (∃ hs, RdRows W (.slice x n c) (a.rows ++ b.rows) hs) -> Calls Tryz.prog 107 #[.slice a1 a.vars.length c1, .slice x n c] W fun e w' => ∃ x1 m1 y1 x2 m2 y2, e = .returned (.agg #[.slice x1 m1 y1, .slice x2 m2 y2]) /\ Hid (OwnTab w w' (.agg #[.slice x1 m1 y1, .slice x2 m2 y2]) (madeT cf a.vars (a.rows ++ b.rows))) /\ w.Fr w' [] /\ W.Fr w' [] := fun W x n c hf hr => by
    obtain ⟨hs, hr⟩ := hr.out
    refine (made73 HK.out.cmp HK.out.ord (Hv1.out.fr hf (by simp)) hr K1.out (by rw [List.length_append]; exact Hmany.out) (fun r hr => ?_) (fun r hr x hx => ?_) (nodup_of_pair K2.out)).mono fun e w' ⟨v, he, ho⟩ => ?_
    ·rcases List.mem_append.1 hr with h | h
     ·exact (K3.out r h).1
     ·rw [Heq.out]; exact (L3.out r h).1
    ·rcases List.mem_append.1 hr with h | h
     ·exact ⟨Ha.out.ok r h x hx, (K3.out r h).2 x hx⟩
     ·exact ⟨Hb.out.ok r h x hx, (L3.out r h).2 x hx⟩
    ·obtain ⟨x1, y1, x2, y2, rfl⟩ := ho.shape
     exact ⟨x1, _, y1, x2, _, y2, he, Hz (ho.since hf), hf.trans ho.fr (by simp), ho.fr⟩
   have Hcat := Hz hcat; have Hmade := Hz hmade; have hq3 := Q3.out; have hq4 := Q4.out
   clear hcat hmade
   go_upto_region 5 with (fail)
   go_region_with (first | (go_at_call 108; refine (Hcat.out _ (by first | exact Q3.out | exact Q3.out.drew)).mono ?_; rintro e w3 ⟨x, n, c, rfl, hrd, hfa, hfb⟩; obtain ⟨d0, d1, df⟩ := two (hfb.heap Q1.out (by simp)); obtain ⟨e0, e1, ef⟩ := two (hfb.heap Q4.out (by simp)); have Hfb := Hz hfb; clear hfb) | (go_at_call 107; refine (Hmade.out _ _ _ _ (by assumption) (by assumption)).mono ?_; rintro e w4 ⟨x1, m1, y1, x2, m2, y2, rfl, ho, hfc, hfd⟩; have hbx := hfd.heap (Hfb.out.heap Q4.out (by simp)) (by simp); obtain ⟨g0, g1, gf⟩ := two hbx; have hbW := lt_of_heap hbx; have Hbx := Hz hbx; clear hbx hfd))
   all_goals
    have ho2 := ho.out.put Hbx.out (by have := Hb1.out; omega)
    obtain ⟨f0, f1, _⟩ := two ho2.2
    have Hfin := Hz ho2.1
    clear ho2 g0 g1 gf d0 d1 df p0 p1 pf Hcat Hmade
    go_wp2
    refine bodyPost_ret (v := .tuple #[.agg #[.slice x1 m1 y1, .slice x2 m2 y2], .int .i64 0]) (by simp [results, Tryz.results51, go_sem, f0, f1]) rfl ⟨_, rfl, Hfin.out⟩
 ·have hres : R = (bothE cf a b, tNone) := by rw [<- HR.out]; unfold unionT; rw [if_pos h0]
  have h0b : (bothE cf a b == 0) = false := beq_eq_false_iff_ne.2 h0
  have h0c : (bothE cf a b != 0) = true := by simp [h0]
  clear h0 HR
  generalize bothE cf a b = z at *
  subst hres
  go_wp2
  have hfin := (OwnTab.empty (w := w) Q3.out).put Q4.out (by have := Hb1.out; omega)
  obtain ⟨f0, f1, _⟩ := two hfin.2
  have Hfin := Hz hfin.1
  clear hfin p0 p1 pf
  refine bodyPost_ret (v := .tuple #[.agg #[.slice none 0 0, .slice none 0 0], .int .i64 z]) (by simp [results, Tryz.results51, go_sem, f0, f1]) rfl ⟨_, rfl, Hfin.out⟩
end
section
open Go.RowKit
def vI (n : Int) : V := ⟨1, n, 0, ⟨#[]⟩⟩
def nmX : BA := ⟨#[120]⟩
theorem vI_wf {n : Int} (h : inI64 n) : (vI n).wf := ⟨by unfold inI64 vI; simp, h, by unfold inI64 vI; simp, by simp [vI, ByteArray.size]⟩
theorem cellFr {w w' : World} {L : List Nat} {a : Addr} {v : Value} (hf : w.Fr w' L) (hc : w.cell? a = some v) (hn : a.block ∉ L) : w'.cell? a = some v := by
 rw [<- hc]
 exact World.cell?_of_block (hf.block _ (World.block_lt_of_cell? w _ hc) hn)
end
end Go.Proofs.YtbejmdlncnkaaaaGreat
