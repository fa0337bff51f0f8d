/-
  The walks of table.Of, Empty, True.
-/
import Derived.Test.YtikodapgceokhaaGreatMade
namespace Go.Proofs.YtikodapgceokhaaGreat
open Go.RowKit

theorem rdNil (w : World) (size : Nat) : w.Rd size (.slice none 0 0) 0 [] := ⟨by simp, .inl ⟨rfl, none, 0, rfl, by simp [maxLen]⟩⟩
theorem OwnTab.empty {w w' : World} (hf : w.Fr w' []) : OwnTab w w' (.agg #[.slice none 0 0, .slice none 0 0]) ⟨[], []⟩ :=
  ⟨⟨_, _, [], rfl, World.Sl.nil _ _ _, World.Sl.nil _ _ _, rfl, by simp [Value.blk], by simp [Value.blk], by simp⟩, ⟨by simp, by simp⟩, hf⟩
theorem OwnTab.shape {w w' : World} {v : Value} {t : Tb} (h : OwnTab w w' v t) : ∃ a1 c1 a2 c2, v = .agg #[.slice a1 t.vars.length c1, .slice a2 t.rows.length c2] := by
  obtain ⟨a, b, hs, rfl, h1, h2, h3, _⟩ := h.ex
  obtain ⟨a1, c1, rfl, _, _⟩ := h1.shape
  obtain ⟨a2, c2, rfl, _, _⟩ := h2.shape
  exact ⟨a1, c1, a2, c2, by rw [h3]⟩
/-- what was made behind w0 .. behind w too, where w0 is w with more blocks -/
theorem OwnTab.since {w w0 w' : World} {v : Value} {t : Tb} (h : OwnTab w0 w' v t) (hf : w.Fr w0 []) : OwnTab w w' v t := by
  obtain ⟨a, b, hs, hv, h1, h2, h3, h4, h5, h6⟩ := h.ex
  have hz := hf.size
  exact ⟨⟨a, b, hs, hv, h1, h2, h3, fun k hk => Nat.le_trans hz (h4 k hk), fun k hk => Nat.le_trans hz (h5 k hk), fun i hv r ha hb => ⟨(h6 i hv r ha hb).1, fun k hk => Nat.le_trans hz ((h6 i hv r ha hb).2 k hk)⟩⟩, h.wf, hf.trans h.fr (by simp)⟩
/-- .. and it stays, while what turns are other blocks that were not there at w -/
theorem OwnTab.kept {w w1 w2 : World} {v : Value} {t : Tb} (h : OwnTab w w1 v t) {L : List Nat} (hf : w1.Fr w2 L) (hw : w.Fr w2 []) (hd : ∀ a b hs, v = .agg #[a, b] → w1.Sl 32 1 b hs.length hs → hs.length = t.rows.length → (∀ k, k ∈ a.blk → k ∉ L) ∧ (∀ k, k ∈ b.blk → k ∉ L) ∧ ∀ (i : Nat) (hv : Value) (r : Row), hs[i]? = some hv → t.rows[i]? = some r → w1.Sl 60 4 hv r.length (r.flatMap V.enc) → ∀ k, k ∈ hv.blk → k ∉ L) : OwnTab w w2 v t := by
  obtain ⟨a, b, hs, hv, h1, h2, h3, h4, h5, h6⟩ := h.ex
  obtain ⟨d1, d2, d3⟩ := hd a b hs hv h2 h3
  exact ⟨⟨a, b, hs, hv, h1.fr hf d1, h2.fr hf d2, h3, h4, h5, fun i hv r ha hb => ⟨(h6 i hv r ha hb).1.fr hf (d3 i hv r ha hb (h6 i hv r ha hb).1), (h6 i hv r ha hb).2⟩⟩, h.wf, hw⟩
/-- a store into a box of a table leaves it -/
theorem OwnTab.box {w w1 w2 : World} {v : Value} {t : Tb} (h : OwnTab w w1 v t) {b : Nat} {cs : Array Value} (hb : w1.heap[b]? = some (.cells cs 25 (0, 0))) (hf : w1.Fr w2 [b]) (hw : w.Fr w2 []) : OwnTab w w2 v t := by
  refine h.kept hf hw fun a b' hs hv h1 h2 => ⟨fun k hk => ?_, fun k hk => ?_, fun i hv r h3 h4 h5 k hk => ?_⟩
  · obtain ⟨a', b'', hs', hv', k1, _⟩ := h.ex
    rw [hv] at hv'
    cases hv'
    simpa using sl_box k1 hb (by decide) k hk
  · simpa using sl_box h1 hb (by decide) k hk
  · simpa using sl_box h5 hb (by decide) k hk
theorem OwnTab.rd {w w' : World} {v : Value} {t : Tb} (h : OwnTab w w' v t) : RdTab w' v t := by
  obtain ⟨a, b, hs, hv, h1, h2, h3, h4, h5, h6⟩ := h.ex
  exact ⟨a, b, hs, hv, ⟨by have := h1.rd; exact this, h.wf.1⟩, ⟨h2.rd, h3, fun i hv r ha hb => ⟨(h6 i hv r ha hb).1.rd, h.wf.2 r (List.mem_of_getElem? hb)⟩⟩⟩

/-- a result's box b, made since w, is written with a table made since w -/
theorem OwnTab.put {w w1 : World} {x y u v : Value} {b : Nat} {t : Tb} (h : OwnTab w w1 (.agg #[x, y]) t) (hb : w1.heap[b]? = some (.cells #[u, v] 25 (0, 0))) (hbw : w.heap.size ≤ b) :
    OwnTab w ((w1.setCell ⟨b, 0, none⟩ x).setCell ⟨b, 1, none⟩ y) (.agg #[x, y]) t ∧ ((w1.setCell ⟨b, 0, none⟩ x).setCell ⟨b, 1, none⟩ y).heap[b]? = some (.cells #[x, y] 25 (0, 0)) := by
  have h1 : w1.Fr ((w1.setCell ⟨b, 0, none⟩ x).setCell ⟨b, 1, none⟩ y) [b] := ((World.Fr.refl _ _).setCell (by simp) _).setCell (by simp) _
  refine ⟨h.box hb h1 (h.fr.trans h1 (fun k hk => .inr (by simp at hk; subst hk; exact hbw))), ?_⟩
  have := heap_set_same (heap_set_same hb 0 x) 1 y
  simpa using this

noncomputable def rowsErr (n : Nat) : List Row → Int
  | [] => 0
  | r :: rs => if rowCheck n r = 0 then rowsErr n rs else rowCheck n r
theorem rowsErr_at {n : Nat} : ∀ (rs : List Row) (j : Nat), (∀ (i : Nat) (r : Row), i < j → rs[i]? = some r → rowCheck n r = 0) → ∀ {r : Row}, rs[j]? = some r → rowCheck n r ≠ 0 → rowsErr n rs = rowCheck n r
  | [], _, _, _, h, _ => by simp at h
  | a :: t, 0, _, r, h, hb => by simp at h; subst h; simp [rowsErr, hb]
  | a :: t, j + 1, ha, r, h, hb => by
    have h0 := ha 0 a (by omega) rfl
    simp only [rowsErr, h0, if_true]
    exact rowsErr_at t j (fun i x hi hx => ha (i + 1) x (by omega) (by simpa using hx)) (by simpa using h) hb
theorem rowsErr_end {n : Nat} : ∀ (rs : List Row), (∀ r, r ∈ rs → rowCheck n r = 0) → rowsErr n rs = 0
  | [], _ => rfl
  | a :: t, ha => by
    simp only [rowsErr, ha a (by simp), if_true]
    exact rowsErr_end t (fun r hr => ha r (by simp [hr]))
open Classical in
/-- what Of answers -/
noncomputable def ofT (cf : V → V → Int) (l : List BA) (rs : List Row) : Int × Tb :=
  if 8 < l.length ∨ ¬ l.Nodup then (30, ⟨[], []⟩) else if rowsErr l.length rs = 0 then (0, madeT cf l rs) else (rowsErr l.length rs, ⟨[], []⟩)

/-- Check and Compare are known of the values of which okc holds, and Compare is an order of those that may be -/
structure Ctx (okc : V → Prop) (cf : V → V → Int) : Prop where
  known : Known okc cf
  ord : OrdOk (fun v => okc v ∧ vcheck v = 0) cf
theorem Ctx.cmp {okc : V → Prop} {cf : V → V → Int} (h : Ctx okc cf) : CmpOk (fun v => okc v ∧ vcheck v = 0) cf := fun a b w ha hb => h.known.cmp a b w ha.1 hb.1
theorem vchecks_zero {r : Row} (h : vchecks r = 0) : ∀ x, x ∈ r → vcheck x = 0 := by
  induction r with
  | nil => simp
  | cons a t ih =>
    unfold vchecks at h
    by_cases h0 : vcheck a = 0
    · rw [if_pos h0] at h
      intro x hx
      rcases List.mem_cons.1 hx with rfl | hx
      · exact h0
      · exact ih h x hx
    · rw [if_neg h0] at h; exact absurd h h0
theorem rowCheck_zero {n : Nat} {r : Row} (h : rowCheck n r = 0) : r.length = n ∧ ∀ x, x ∈ r → vcheck x = 0 := by
  unfold rowCheck at h
  split at h
  · exact ⟨by assumption, vchecks_zero h⟩
  · cases h

set_option maxRecDepth 100000 in
set_option maxHeartbeats 4000000 in
theorem of32 {okc : V → Prop} {cf : V → V → Int} (hK : Ctx okc cf) {w : World} {v1 v2 : Value} {l : List BA} {rs : List Row} {hs : List Value} (h1 : RdStr w v1 l) (h2 : RdRows w v2 rs hs) (hl : l.length ≤ 8796093021952) (hm : rs.length ≤ 5864062014634) (hsh : Short rs) (hok : ∀ r, r ∈ rs → ∀ x, x ∈ r → okc x) :
    Calls Tryz.prog 32 #[v1, v2] w fun e w' => ∃ v, e = .returned (.tuple #[v, .int .i64 (ofT cf l rs).1]) ∧ OwnTab w w' v (ofT cf l rs).2 := by
  obtain ⟨a1, c1, rfl, _, _⟩ := h1.rd.shape
  obtain ⟨a2, c2, rfl, _, _⟩ := h2.rd.shape
  have hlen := h2.len
  rw [hlen] at h2 ⊢
  clear hlen
  generalize hR : ofT cf l rs = R
  have H1 := Lib.hid h1; have H2 := Lib.hid h2; have Hl := Lib.hid hl; have Hm := Lib.hid hm; have Hsh := Lib.hid hsh; have HK := Lib.hid hK; have Hok := Lib.hid hok; have HR := Lib.hid hR; clear h1 h2 hl hm hsh hK hok hR
  go_enter Tryz.func32, Tryz.ntmps32
  go_upto_region 1 with (fail)
  generalize hW : World.alloc w _ = W
  have q1 : W.heap[w.heap.size]? = some (.cells #[.slice none 0 0, .slice none 0 0] 25 (0, 0)) := by rw [← hW]; exact heap_alloc_at _ _ _ rfl
  have q2 : w.Fr W [] := by rw [← hW]; exact (World.Fr.refl w []).alloc _
  clear hW
  generalize hb : w.heap.size = b at *
  have hbW := lt_of_heap q1
  have Q1 := Lib.hid q1; have Q2 := Lib.hid q2; have Hb := Lib.hid hb; clear q1 q2 hb
  obtain ⟨p0, p1, pf⟩ := two Q1.out
  by_cases h8 : 8 < l.length
  · have hd8 : decide ((8 : Int) < (l.length : Int)) = true := decide_eq_true (by omega)
    have hres : R = (30, ⟨[], []⟩) := by rw [← HR.out]; unfold ofT; rw [if_pos (.inl h8)]
    subst hres
    clear h8
    go_wp2
    have hfin := (OwnTab.empty (w := w) Q2.out).put Q1.out (by have := Hb.out; omega)
    obtain ⟨f0, f1, _⟩ := two hfin.2
    have Hfin := Lib.hid hfin.1
    clear hfin p0 p1 pf
    refine bodyPost_ret (v := .tuple #[.agg #[.slice none 0 0, .slice none 0 0], .int .i64 30]) (by simp [results, Tryz.results32, go_sem, f0, f1]) rfl ⟨_, rfl, Hfin.out⟩
  · have hd8 : decide ((8 : Int) < (l.length : Int)) = false := decide_eq_false (by omega)
    have hun := unlike78 (H1.out.fr Q2.out (by simp)) Hl.out
    have Hun := Lib.hid hun; have H8 := Lib.hid h8; clear hun h8
    go_wp2_with fail
    refine Hun.out.mono ?_
    rintro e w1 ⟨rfl, hf1⟩
    have q1 := hf1.heap Q1.out (by simp)
    have q2 := Q2.out.trans hf1 (by simp)
    have Q1' := Lib.hid q1; have Q2' := Lib.hid q2; clear q1 q2 hf1 p0 p1 pf Q1 Q2 Hun hbW
    obtain ⟨p0, p1, pf⟩ := two Q1'.out
    have hbW := lt_of_heap Q1'.out
    cases hu : risesB (sortS l) with
    | false =>
      have hres : R = (30, ⟨[], []⟩) := by
        rw [← HR.out]; unfold ofT; rw [if_pos (.inr fun h => by rw [(unlike_iff l).2 h] at hu; cases hu)]
      subst hres
      go_wp2
      have hfin := (OwnTab.empty (w := w) Q2'.out).put Q1'.out (by have := Hb.out; omega)
      obtain ⟨f0, f1, _⟩ := two hfin.2
      have Hfin := Lib.hid hfin.1
      clear hfin p0 p1 pf
      refine bodyPost_ret (v := .tuple #[.agg #[.slice none 0 0, .slice none 0 0], .int .i64 30]) (by simp [results, Tryz.results32, go_sem, f0, f1]) rfl ⟨_, rfl, Hfin.out⟩
    | true =>
      have hnd := (unlike_iff l).1 hu
      have hres : R = if rowsErr l.length rs = 0 then (0, madeT cf l rs) else (rowsErr l.length rs, ⟨[], []⟩) := by
        rw [← HR.out]; unfold ofT; rw [if_neg (fun h => h.elim H8.out (fun h => h hnd))]
      have Hnd := Lib.hid hnd; have HR2 := Lib.hid hres; clear hnd hu HR hres
      go_wp2
      go_loopw [20] (fun i wr => ∃ j : Nat, i = .int .i64 j ∧ j ≤ rs.length ∧ Hid (∀ (i : Nat) (r : Row), i < j → rs[i]? = some r → rowCheck l.length r = 0) ∧ Hid (wr.heap[b]? = some (.cells #[.slice none 0 0, .slice none 0 0] 25 (0, 0))) ∧ Hid (w.Fr wr [])) (fun i _ => (rs.length - intOf i).toNat)
      case atStart => exact ⟨0, rfl, Nat.zero_le _, Lib.hid (fun i a hi => by omega), Q1', Q2'⟩
      case round =>
        obtain ⟨j, rfl, hj, HA, HP, HF⟩ := hrel
        clear p0 p1 pf Q1' Q2'
        obtain ⟨p0, p1, pf⟩ := two HP.out
        have hbW := lt_of_heap HP.out
        by_cases hlt : j < rs.length
        · obtain ⟨x, hx⟩ : ∃ x, rs[j]? = some x := ⟨rs[j], List.getElem?_eq_getElem (by omega)⟩
          obtain ⟨g, off, c, a, m, hv, hg, kx, hrow⟩ := (H2.out.still HF.out).at hx
          cases hv
          have hrI : (j : Int) < (rs.length : Int) := by omega
          have hw1 : IntKind.i64.wrap ((j : Int) + 1) = (j : Int) + 1 := IntWalk.i64_in _ (by have := Hm.out; omega)
          have hxm := List.mem_of_getElem? hx
          have hc := checkRow48 HK.out.known.chk l.length hrow (Hok.out x hxm) (Hsh.out x hxm)
          have Hc := Lib.hid hc; have Hx := Lib.hid hx; clear hc hx hrow hxm
          go_wp2_with fail
          refine Hc.out.mono ?_
          rintro e w2 ⟨rfl, hf2⟩
          have HP2 := Lib.hid (hf2.heap HP.out (by simp))
          have HF2 := Lib.hid (HF.out.trans hf2 (by simp)); clear hf2 kx p0 p1 pf Hc hbW
          obtain ⟨p0, p1, pf⟩ := two HP2.out
          have hbW := lt_of_heap HP2.out
          by_cases h0 : rowCheck l.length x = 0
          · have H0 := Lib.hid h0
            rw [h0]
            clear h0
            go_wp2
            go_roundw
            case rel => exact ⟨j + 1, by go_num, by omega, Lib.hid (fun k r hk hr => by
              rcases Nat.lt_or_ge k j with h | h
              · exact HA.out k r h hr
              · obtain rfl : k = j := by omega
                rw [Hx.out] at hr
                cases hr
                exact H0.out), HP2, HF2⟩
            case measure => simp [intOf]; omega
          · have hres := rowsErr_at rs j HA.out Hx.out h0
            have h0b : (rowCheck l.length x == 0) = false := beq_eq_false_iff_ne.2 h0
            have h0c : (rowCheck l.length x != 0) = true := by simp [h0]
            have hres2 : R = (rowCheck l.length x, ⟨[], []⟩) := by rw [HR2.out, hres, if_neg h0]
            clear h0 hres HR2
            generalize rowCheck l.length x = z at *
            subst hres2
            go_wp2
            have hfin := (OwnTab.empty (w := w) HF2.out).put HP2.out (by have := Hb.out; omega)
            obtain ⟨f0, f1, _⟩ := two hfin.2
            have Hfin := Lib.hid hfin.1
            clear hfin p0 p1 pf
            refine bodyPost_ret (v := .tuple #[.agg #[.slice none 0 0, .slice none 0 0], .int .i64 z]) (by simp [results, Tryz.results32, go_sem, f0, f1]) rfl ⟨_, rfl, Hfin.out⟩
        · have hall : ∀ r, r ∈ rs → rowCheck l.length r = 0 := fun r hr => by
            obtain ⟨i, hi⟩ := List.getElem?_of_mem hr
            exact HA.out i r (by have := (List.getElem?_eq_some_iff.1 hi).1; omega) hi
          have hd : decide ((j : Int) < (rs.length : Int)) = false := decide_eq_false (by omega)
          have hd2 : decide (j < rs.length) = false := decide_eq_false hlt
          have hres2 : R = (0, madeT cf l rs) := by rw [HR2.out, rowsErr_end rs hall, if_pos rfl]
          subst hres2
          have hc := made73 HK.out.cmp HK.out.ord (H1.out.fr HF.out (by simp)) (H2.out.still HF.out) (by have := H8.out; omega) Hm.out (fun r hr => (rowCheck_zero (hall r hr)).1) (fun r hr x hx => ⟨Hok.out r hr x hx, (rowCheck_zero (hall r hr)).2 x hx⟩) Hnd.out
          have Hc := Lib.hid hc; clear hc hall HA hlt hj HR2
          go_wp2_with fail
          refine Hc.out.mono ?_
          rintro e w2 ⟨v, rfl, ho⟩
          obtain ⟨x1, y1, x2, y2, rfl⟩ := ho.shape
          have hbx := ho.fr.heap HP.out (by simp)
          have ho2 := (ho.since HF.out).put hbx (by have := Hb.out; omega)
          clear p0 p1 pf hbW
          obtain ⟨p0, p1, pf⟩ := two hbx
          have hbW := lt_of_heap hbx
          obtain ⟨f0, f1, _⟩ := two ho2.2
          have Hfin := Lib.hid ho2.1
          clear ho2 ho hbx
          go_wp2
          refine bodyPost_ret (v := .tuple #[.agg #[.slice x1 (madeT cf l rs).vars.length y1, .slice x2 (madeT cf l rs).rows.length y2], .int .i64 0]) (by simp [results, Tryz.results32, go_sem, f0, f1]) rfl ⟨_, rfl, Hfin.out⟩

theorem empty31 {okc : V → Prop} {cf : V → V → Int} (hK : Ctx okc cf) {w : World} {v1 : Value} {l : List BA} (h1 : RdStr w v1 l) (hl : l.length ≤ 8796093021952) :
    Calls Tryz.prog 31 #[v1] w fun e w' => ∃ v, e = .returned (.tuple #[v, .int .i64 (ofT cf l []).1]) ∧ OwnTab w w' v (ofT cf l []).2 := by
  have hc := fun (w0 : World) (hf : w.Fr w0 []) => of32 (w := w0) (v2 := .slice none 0 0) (rs := []) (hs := []) hK (h1.fr hf (by simp)) ⟨rdNil _ _, rfl, by simp⟩ hl (by simp) (by simp [Short]) (by simp)
  obtain ⟨a1, c1, rfl, _, _⟩ := h1.rd.shape
  have Hc := Lib.hid hc; clear hc h1 hl hK
  generalize ofT cf l [] = R at *
  obtain ⟨R1, R2⟩ := R
  simp only at Hc
  go_enter Tryz.func31, Tryz.ntmps31
  go_upto_region 1 with (fail)
  generalize hW : World.alloc w _ = W
  have q1 : W.heap[w.heap.size]? = some (.cells #[.slice none 0 0, .slice none 0 0] 25 (0, 0)) := by rw [← hW]; exact heap_alloc_at _ _ _ rfl
  have q2 : w.Fr W [] := by rw [← hW]; exact (World.Fr.refl w []).alloc _
  clear hW
  have Q1 := Lib.hid q1; have Q2 := Lib.hid q2; clear q1 q2
  go_wp2_with fail
  refine (Hc.out _ Q2.out).mono ?_
  rintro e w2 ⟨v, rfl, ho⟩
  obtain ⟨x1, y1, x2, y2, rfl⟩ := ho.shape
  have hbx := ho.fr.heap Q1.out (by simp)
  have ho2 := (ho.since Q2.out).put hbx (Nat.le_refl _)
  obtain ⟨p0, p1, pf⟩ := two hbx
  have hbW := lt_of_heap hbx
  obtain ⟨f0, f1, _⟩ := two ho2.2
  have Hfin := Lib.hid ho2.1
  clear ho2 ho hbx
  go_wp2
  refine bodyPost_ret (v := .tuple #[.agg #[.slice x1 R2.vars.length y1, .slice x2 R2.rows.length y2], .int .i64 R1]) (by simp [results, Tryz.results31, go_sem, f0, f1]) rfl ⟨_, rfl, Hfin.out⟩

/-- the table without names that has one row -/
def tTrue : Tb := ⟨[], [[]]⟩
theorem true41 (w : World) : Calls Tryz.prog 41 #[] w fun e w' => ∃ v, e = .returned v ∧ OwnTab w w' v tTrue := by
  go_enter Tryz.func41, Tryz.ntmps41
  go_wp2
  generalize hB1 : Obj.cells #[Value.slice none 0 0, Value.slice (some ⟨w.heap.size + 1 + 1, 0, none⟩) 1 1] 25 = o1
  have e1 := World.Sl.lit (w.alloc o1) 60 #[] 0 4 (by simp [maxLen]) rfl
  have e2 := World.Sl.lit ((w.alloc o1).alloc (.cells #[] 60)) 32 #[.slice (some ⟨w.heap.size + 1, 0, none⟩) 0 0] 1 1 (by simp [maxLen]) rfl
  have hz1 : (w.alloc o1).heap.size = w.heap.size + 1 := by simp
  have hz2 : ((w.alloc o1).alloc (.cells #[] 60)).heap.size = w.heap.size + 1 + 1 := by simp
  have f0 := heap_alloc_some (heap_alloc_some (heap_alloc_at w o1 _ rfl) (.cells #[] 60)) (.cells #[.slice (some ⟨w.heap.size + 1, 0, none⟩) 0 0] 32)
  rw [← hB1] at f0
  rw [hz1] at e1
  rw [hz2] at e2
  have e3 := e1.alloc (.cells #[.slice (some ⟨w.heap.size + 1, 0, none⟩) 0 0] 32)
  obtain ⟨g0, g1, _⟩ := two f0
  have hfin : OwnTab w (((w.alloc o1).alloc (.cells #[] 60)).alloc (.cells #[.slice (some ⟨w.heap.size + 1, 0, none⟩) 0 0] 32)) (.agg #[.slice none 0 0, .slice (some ⟨w.heap.size + 1 + 1, 0, none⟩) 1 1]) tTrue := by
    refine ⟨⟨_, _, [.slice (some ⟨w.heap.size + 1, 0, none⟩) 0 0], rfl, World.Sl.nil _ _ _, e2, rfl, by simp [Value.blk], by simp [Value.blk]; omega, fun i hv r h1 h2 => ?_⟩, ⟨by simp [tTrue], fun r hr => ?_⟩, (((World.Fr.refl w []).alloc _).alloc _).alloc _⟩
    · cases i with
      | zero => simp [tTrue] at h1 h2; subst h1 h2; exact ⟨e3, by simp [Value.blk]⟩
      | succ i => simp at h1
    · simp [tTrue] at hr; subst hr; simp
  have Hfin := Lib.hid hfin
  rw [hB1] at g0 g1
  clear hfin e1 e2 e3 hz1 hz2 f0
  refine bodyPost_ret (v := .agg #[.slice none 0 0, .slice (some ⟨w.heap.size + 1 + 1, 0, none⟩) 1 1]) (by simp [results, Tryz.results41, go_sem, g0, g1]) rfl ⟨_, rfl, Hfin.out⟩
end Go.Proofs.YtikodapgceokhaaGreat
