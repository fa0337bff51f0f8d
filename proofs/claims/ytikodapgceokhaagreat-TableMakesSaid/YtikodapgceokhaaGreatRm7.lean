/-
  The document's Of.
-/
import Derived.Test.YtikodapgceokhaaGreatRmP
namespace Go.Proofs.YtikodapgceokhaaGreat
open Go.RowKit

set_option maxRecDepth 100000 in
set_option maxHeartbeats 4000000 in
theorem rof33 {cf : V → V → Int} (hRK : RChkOk V.wf) (hRC : RCmpOk V.wf cf) (hO : OrdOk (fun v => V.wf v ∧ vcheck v = 0) cf) {w : World} {v1 v2 : Value} {l : List BA} {rs : List Row} {hs : List Value} (h1 : RdStr w v1 l) (h2 : RdRows w v2 rs hs) (hl : l.length ≤ 8796093021952) (hm : rs.length ≤ 5864062014634) (hsh : Short rs) (hok : ∀ r, r ∈ rs → ∀ x, x ∈ r → V.wf x) :
    Calls Tryz.prog 33 #[v1, v2] w fun e w' => ∃ v, e = .returned (.tuple #[v, .int .i64 (ofT cf l rs).1]) ∧ OwnTab w w' v (ofT cf l rs).2 := by
  obtain ⟨a1, c1, rfl, _, _⟩ := h1.rd.shape
  obtain ⟨a2, c2, rfl, _, _⟩ := h2.rd.shape
  have hlen := h2.len
  rw [hlen] at h2 ⊢
  clear hlen
  generalize hR : ofT cf l rs = R
  have H1 := Lib.hid h1; have H2 := Lib.hid h2; have Hl := Lib.hid hl; have Hm := Lib.hid hm; have Hsh := Lib.hid hsh; have HK := Lib.hid hRK; have HC := Lib.hid hRC; have HO := Lib.hid hO; have Hok := Lib.hid hok; have HR := Lib.hid hR; clear h1 h2 hl hm hsh hRK hRC hO hok hR
  go_enter Tryz.func33, Tryz.ntmps33
  go_upto_region 1 with (fail)
  generalize hW : World.alloc w _ = W
  have q1 : W.heap[w.heap.size]? = some (.cells #[.slice none 0 0, .slice none 0 0] 25 (0, 0)) := by rw [← hW]; exact heap_alloc_at _ _ _ rfl
  have q2 : w.Fr W [] := by rw [← hW]; exact (World.Fr.refl w []).alloc _
  clear hW
  generalize hb : w.heap.size = b at *
  have hun := runlike80 (H1.out.fr q2 (by simp)) (by have := Hl.out; omega)
  have Hun := Lib.hid hun; have Q1 := Lib.hid q1; have Q2 := Lib.hid q2; have Hb := Lib.hid hb; clear q1 q2 hb hun
  go_wp2_with fail
  refine Hun.out.mono ?_
  rintro e w1 ⟨rfl, hf1⟩
  have q1 := hf1.heap Q1.out (by simp)
  have q2 := Q2.out.trans hf1 (by simp)
  have Q1' := Lib.hid q1; have Q2' := Lib.hid q2; clear q1 q2 hf1 Q1 Q2 Hun
  obtain ⟨p0, p1, pf⟩ := two Q1'.out
  have hbW := lt_of_heap Q1'.out
  by_cases h8 : 8 < l.length
  · have hd8 : decide ((8 : Int) < (l.length : Int)) = true := decide_eq_true (by omega)
    have hres : R = (30, ⟨[], []⟩) := by rw [← HR.out]; unfold ofT; rw [if_pos (.inl h8)]
    subst hres
    clear h8
    go_wp2
    have hfin := (OwnTab.empty (w := w) Q2'.out).put Q1'.out (by have := Hb.out; omega)
    obtain ⟨f0, f1, _⟩ := two hfin.2
    have Hfin := Lib.hid hfin.1
    clear hfin p0 p1 pf
    refine bodyPost_ret (v := .tuple #[.agg #[.slice none 0 0, .slice none 0 0], .int .i64 30]) (by simp [results, Tryz.results33, go_sem, f0, f1]) rfl ⟨_, rfl, Hfin.out⟩
  · have hd8 : decide ((8 : Int) < (l.length : Int)) = false := decide_eq_false (by omega)
    have H8 := Lib.hid h8; clear h8
    by_cases hnd : l.Nodup
    · have hdn : decide l.Nodup = true := decide_eq_true hnd
      have hres : R = if rowsErr l.length rs = 0 then (0, madeT cf l rs) else (rowsErr l.length rs, ⟨[], []⟩) := by
        rw [← HR.out]; unfold ofT; rw [if_neg (fun h => h.elim H8.out (fun h => h hnd))]
      have Hnd := Lib.hid hnd; have HR2 := Lib.hid hres; clear hnd HR hres
      rw [hdn]
      go_wp2
      go_loopw [7] (fun i wr => ∃ j : Nat, i = .int .i64 j ∧ j ≤ rs.length ∧ Hid (∀ (i : Nat) (r : Row), i < j → rs[i]? = some r → rowCheck l.length r = 0) ∧ Hid (wr.heap[b]? = some (.cells #[.slice none 0 0, .slice none 0 0] 25 (0, 0))) ∧ Hid (w.Fr wr [])) (fun i _ => (rs.length - intOf i).toNat)
      case atStart => exact ⟨0, rfl, Nat.zero_le _, Lib.hid (fun i a hi => by omega), Q1', Q2'⟩
      case round =>
        obtain ⟨j, rfl, hj, HA, HP, HF⟩ := hrel
        clear p0 p1 pf Q1' Q2' hbW
        obtain ⟨p0, p1, pf⟩ := two HP.out
        have hbW := lt_of_heap HP.out
        by_cases hlt : j < rs.length
        · obtain ⟨x, hx⟩ : ∃ x, rs[j]? = some x := ⟨rs[j], List.getElem?_eq_getElem (by omega)⟩
          obtain ⟨g, off, c, a, m, hv, hg, kx, hrow⟩ := (H2.out.still HF.out).at hx
          cases hv
          have hrI : (j : Int) < (rs.length : Int) := by omega
          have hw1 : IntKind.i64.wrap ((j : Int) + 1) = (j : Int) + 1 := IntWalk.i64_in _ (by have := Hm.out; omega)
          have hxm := List.mem_of_getElem? hx
          by_cases hn : x.length = l.length
          · have hnb : ((x.length : Int) == (l.length : Int)) = true := by rw [hn]; simp
            have hnc : ((x.length : Int) != (l.length : Int)) = false := by rw [hn]; simp
            have hnd : (x.length == l.length) = true := by rw [hn]; simp
            have hne : (x.length != l.length) = false := by rw [hn]; simp
            have hrc : rowCheck l.length x = vchecks x := if_pos hn
            have hc := rvalues50 HK.out hrow (Hok.out x hxm) (Hsh.out x hxm)
            have Hc := Lib.hid hc; have Hx := Lib.hid hx; have Hrc := Lib.hid hrc; clear hc hx hrow hxm hrc hn
            go_wp2_with fail
            refine Hc.out.mono ?_
            rintro e w2 ⟨rfl, hf2⟩
            have HP2 := Lib.hid (hf2.heap HP.out (by simp))
            have HF2 := Lib.hid (HF.out.trans hf2 (by simp)); clear hf2 kx p0 p1 pf Hc hbW
            obtain ⟨p0, p1, pf⟩ := two HP2.out
            have hbW := lt_of_heap HP2.out
            by_cases h0 : vchecks x = 0
            · have H0 := Lib.hid (Hrc.out.trans h0)
              rw [h0]
              clear h0
              go_wp2
              go_roundw
              case rel => exact ⟨j + 1, by go_num, by omega, Lib.hid (fun k r hk hr => by
                rcases Nat.lt_or_ge k j with h | h
                · exact HA.out k r h hr
                · obtain rfl : k = j := by omega
                  rw [Hx.out] at hr
                  cases hr
                  exact H0.out), HP2, HF2⟩
              case measure => simp [intOf]; omega
            · have hres := rowsErr_at rs j HA.out Hx.out (by rw [Hrc.out]; exact h0)
              have h0b : (vchecks x == 0) = false := beq_eq_false_iff_ne.2 h0
              have h0c : (vchecks x != 0) = true := by simp [h0]
              have hres2 : R = (vchecks x, ⟨[], []⟩) := by rw [HR2.out, hres, Hrc.out, if_neg h0]
              clear h0 hres HR2 Hrc
              generalize vchecks x = z at *
              subst hres2
              go_wp2
              have hfin := (OwnTab.empty (w := w) HF2.out).put HP2.out (by have := Hb.out; omega)
              obtain ⟨f0, f1, _⟩ := two hfin.2
              have Hfin := Lib.hid hfin.1
              clear hfin p0 p1 pf
              refine bodyPost_ret (v := .tuple #[.agg #[.slice none 0 0, .slice none 0 0], .int .i64 z]) (by simp [results, Tryz.results33, go_sem, f0, f1]) rfl ⟨_, rfl, Hfin.out⟩
          · have hnb : ((x.length : Int) == (l.length : Int)) = false := beq_eq_false_iff_ne.2 (by omega)
            have hnc : ((x.length : Int) != (l.length : Int)) = true := by simp; omega
            have hnd : (x.length == l.length) = false := beq_eq_false_iff_ne.2 hn
            have hne : (x.length != l.length) = true := by simp; exact hn
            have hrc : rowCheck l.length x = 1 := if_neg hn
            have hres := rowsErr_at rs j HA.out hx (by rw [hrc]; decide)
            have hres2 : R = (1, ⟨[], []⟩) := by rw [HR2.out, hres, hrc, if_neg (by decide)]
            clear hn hres HR2 hrc hxm hx hrow
            subst hres2
            go_wp2
            have hfin := (OwnTab.empty (w := w) HF.out).put HP.out (by have := Hb.out; omega)
            obtain ⟨f0, f1, _⟩ := two hfin.2
            have Hfin := Lib.hid hfin.1
            clear hfin p0 p1 pf
            refine bodyPost_ret (v := .tuple #[.agg #[.slice none 0 0, .slice none 0 0], .int .i64 1]) (by simp [results, Tryz.results33, go_sem, f0, f1]) rfl ⟨_, rfl, Hfin.out⟩
        · have hall : ∀ r, r ∈ rs → rowCheck l.length r = 0 := fun r hr => by
            obtain ⟨i, hi⟩ := List.getElem?_of_mem hr
            exact HA.out i r (by have := (List.getElem?_eq_some_iff.1 hi).1; omega) hi
          have hd : decide ((j : Int) < (rs.length : Int)) = false := decide_eq_false (by omega)
          have hd2 : decide (j < rs.length) = false := decide_eq_false hlt
          have hres2 : R = (0, madeT cf l rs) := by rw [HR2.out, rowsErr_end rs hall, if_pos rfl]
          subst hres2
          have hc := rmade77 HC.out (H1.out.fr HF.out (by simp)) (H2.out.still HF.out) (by have := H8.out; omega) Hm.out (fun r hr => (rowCheck_zero (hall r hr)).1) (fun r hr y hy => ⟨Hok.out r hr y hy, Hok.out r hr y hy⟩)
          have heq : ∀ hs : List Value, hs.length = rs.length → rmadeT cf l rs hs = madeT cf l rs := fun hs hl => rmadeT_eq HO.out Hnd.out hl (fun r hr => (rowCheck_zero (hall r hr)).1) (fun r hr y hy => ⟨Hok.out r hr y hy, (rowCheck_zero (hall r hr)).2 y hy⟩)
          have Hc := Lib.hid hc; have Heq := Lib.hid heq; clear hc heq hall HA hlt hj HR2
          go_wp2_with fail
          refine Hc.out.mono ?_
          rintro e w2 ⟨v, hs', rfl, hsl, ho⟩
          rw [Heq.out hs' hsl] at ho
          obtain ⟨x1, y1, x2, y2, rfl⟩ := ho.shape
          have hbx := ho.fr.heap HP.out (by simp)
          have ho2 := (ho.since HF.out).put hbx (by have := Hb.out; omega)
          clear p0 p1 pf hbW
          obtain ⟨p0, p1, pf⟩ := two hbx
          have hbW := lt_of_heap hbx
          obtain ⟨f0, f1, _⟩ := two ho2.2
          have Hfin := Lib.hid ho2.1
          clear ho2 ho hbx
          go_wp2
          refine bodyPost_ret (v := .tuple #[.agg #[.slice x1 (madeT cf l rs).vars.length y1, .slice x2 (madeT cf l rs).rows.length y2], .int .i64 0]) (by simp [results, Tryz.results33, go_sem, f0, f1]) rfl ⟨_, rfl, Hfin.out⟩
    · have hdn : decide l.Nodup = false := decide_eq_false hnd
      have hres : R = (30, ⟨[], []⟩) := by
        rw [← HR.out]; unfold ofT; rw [if_pos (.inr hnd)]
      subst hres
      rw [hdn]
      clear hnd
      go_wp2
      have hfin := (OwnTab.empty (w := w) Q2'.out).put Q1'.out (by have := Hb.out; omega)
      obtain ⟨f0, f1, _⟩ := two hfin.2
      have Hfin := Lib.hid hfin.1
      clear hfin p0 p1 pf
      refine bodyPost_ret (v := .tuple #[.agg #[.slice none 0 0, .slice none 0 0], .int .i64 30]) (by simp [results, Tryz.results33, go_sem, f0, f1]) rfl ⟨_, rfl, Hfin.out⟩
end Go.Proofs.YtikodapgceokhaaGreat
