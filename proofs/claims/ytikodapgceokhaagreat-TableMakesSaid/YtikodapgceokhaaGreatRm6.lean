/-
  The document's made: a table of unlike variables and rows that may be.
-/
import Derived.Test.YtikodapgceokhaaGreatRm5
namespace Go.Proofs.YtikodapgceokhaaGreat
open Go.RowKit

/-- rows of the call's own, gathered in a slice of its own -/
structure AV (W wr : World) (v : Value) (P : List HR) : Prop where
  sl : wr.Sl 32 1 v P.length (P.map (·.1))
  new : ∀ k, k ∈ v.blk → W.heap.size ≤ k
  row : ∀ x, x ∈ P → wr.Sl 60 4 x.1 x.2.length (x.2.flatMap V.enc) ∧ ∀ k, k ∈ x.1.blk → W.heap.size ≤ k
  fr : W.Fr wr []
theorem AV.nil (W : World) : AV W W (.slice none 0 0) [] := ⟨World.Sl.nil _ _ _, by simp [Value.blk], by simp, World.Fr.refl _ _⟩
theorem AV.still {W w w' : World} {v : Value} {P : List HR} (h : AV W w v P) (hf : w.Fr w' []) : AV W w' v P :=
  ⟨h.sl.fr hf (by simp), h.new, fun x hx => ⟨(h.row x hx).1.fr hf (by simp), (h.row x hx).2⟩, h.fr.trans hf (by simp)⟩
theorem AV.push {W w w1 w2 : World} {v u : Value} {P : List HR} {r : Row} {g off c : Nat} (h : AV W w v P) (ho : OwnRow w w1 u r)
    (hs2 : w2.Sl 32 1 (.slice (some ⟨g, off, none⟩) (P.length + 1) c) (P.length + 1) (P.map (·.1) ++ [u])) (hf : w1.Fr w2 v.blk) (hg : g ∈ v.blk ∨ w1.heap.size ≤ g) :
    AV W w2 (.slice (some ⟨g, off, none⟩) (P.length + 1) c) (P ++ [(u, r)]) := by
  have hWw := h.fr.size
  have hww := ho.fr.size
  refine ⟨?_, fun k hk => ?_, fun x hx => ?_, ?_⟩
  · rw [List.length_append, List.map_append]; exact hs2
  · simp [Value.blk] at hk
    subst hk
    rcases hg with h1 | h1
    · exact h.new _ h1
    · omega
  · have hold : ∀ {y : HR}, w1.Sl 60 4 y.1 y.2.length (y.2.flatMap V.enc) → w2.Sl 60 4 y.1 y.2.length (y.2.flatMap V.enc) := fun hy => hy.fr hf (apart hy (h.sl.fr ho.fr (by simp)) (by decide))
    rcases List.mem_append.1 hx with hx | hx
    · exact ⟨hold ((h.row x hx).1.fr ho.fr (by simp)), (h.row x hx).2⟩
    · rcases List.mem_singleton.1 hx with rfl
      exact ⟨hold (y := (u, r)) ho.sl, fun k hk => by have := ho.new k hk; omega⟩
  · exact (h.fr.trans ho.fr (by simp)).trans hf (fun k hk => .inr (h.new k hk))
theorem AV.rdrow {W w : World} {v : Value} {P : List HR} (h : AV W w v P) (hw : ∀ x, x ∈ P → ∀ y, y ∈ x.2 → V.wf y) : ∀ x, x ∈ P → RdRow w x.1 x.2 := fun x hx => ⟨(h.row x hx).1.rd, hw x hx⟩
/-- the document's table of variables and rows -/
def rmadeT (cf : V → V → Int) (l : List BA) (rs : List Row) (hs : List Value) : Tb := ⟨risL l, (sortP cf (hs.zip (rs.map fun r => pick l r (risL l)))).map (·.2)⟩

set_option maxRecDepth 100000 in
set_option maxHeartbeats 4000000 in
theorem rmade77 {okv : V → Prop} {cf : V → V → Int} (hC : RCmpOk okv cf) {w : World} {v1 v2 : Value} {l : List BA} {rs : List Row} {hs0 : List Value} (h1 : RdStr w v1 l) (h2 : RdRows w v2 rs hs0)
    (hl : l.length ≤ 3518437208780) (hr : rs.length ≤ 5864062014634) (hw : ∀ r, r ∈ rs → r.length = l.length) (hok : ∀ r, r ∈ rs → ∀ y, y ∈ r → okv y ∧ V.wf y) :
    Calls Tryz.prog 77 #[v1, v2] w fun e w' => ∃ u hs, e = .returned u ∧ hs.length = rs.length ∧ OwnTab w w' u (rmadeT cf l rs hs) := by
  obtain ⟨a1, c1, rfl, _, _⟩ := h1.rd.shape
  obtain ⟨a2, c2, rfl, _, _⟩ := h2.rd.shape
  have hlen := h2.len
  rw [hlen] at h2 ⊢
  have H1 := Lib.hid h1; have H2 := Lib.hid h2; have Hl := Lib.hid hl; have Hr := Lib.hid hr; have Hw := Lib.hid hw; have Hok := Lib.hid hok; have HC := Lib.hid hC; clear h1 h2 hl hr hw hok hC hlen
  have q1 := heap_alloc_at w (.cells #[.slice none 0 0, .slice none 0 0] 25) _ rfl
  have q2 := heap_alloc_at (w.alloc (.cells #[.slice none 0 0, .slice none 0 0] 25)) (.cells #[.slice none 0 0, .slice none 0 0] 25) (w.heap.size + 1) (by simp)
  have q1 := heap_alloc_some q1 (.cells #[.slice none 0 0, .slice none 0 0] 25)
  have qf := ((World.Fr.refl w []).alloc (.cells #[.slice none 0 0, .slice none 0 0] 25)).alloc (.cells #[.slice none 0 0, .slice none 0 0] 25)
  go_enter Tryz.func77, Tryz.ntmps77
  go_upto_region 2 with (fail)
  generalize hW : World.alloc (World.alloc w _) _ = W at *
  clear hW
  have hc := rrising104 (H1.out.fr qf (by simp)) (by have := Hl.out; omega)
  have Hc := Lib.hid hc; have Q1 := Lib.hid q1; have Q2 := Lib.hid q2; have Qf := Lib.hid qf
  clear hc q1 q2 qf
  go_wp2_with fail
  (with_reducible refine Hc.out.mono ?_)
  rintro e w1 ⟨u1, rfl, hs1, hn1, hf1⟩
  obtain ⟨b1, d1, rfl, _, _⟩ := hs1.shape
  have q1 := hf1.heap Q1.out (by simp); have q2 := hf1.heap Q2.out (by simp); have qf := Qf.out.trans hf1 (by simp)
  have hWs : w.heap.size + 1 < W.heap.size := lt_of_heap Q2.out
  clear Q1 Q2 Qf Hc
  obtain ⟨z0, z1, zf⟩ := two q2
  go_upto_region 3 with (fail)
  have h1 := heap_set_other q1 ⟨w.heap.size + 1, 0, none⟩ (by show w.heap.size ≠ w.heap.size + 1; omega) (.slice b1 (risL l).length d1)
  have h3 := heap_set_same q2 0 (.slice b1 (risL l).length d1)
  have hff : w.Fr (w1.setCell ⟨w.heap.size + 1, 0, none⟩ (.slice b1 (risL l).length d1)) [] := qf.setCell (.inr (by show w.heap.size ≤ w.heap.size + 1; omega)) _
  have hsl := hs1.setCell (a := ⟨w.heap.size + 1, 0, none⟩) (fun hk => sl_box hs1 q2 (by decide) _ hk rfl) (.slice b1 (risL l).length d1)
  have hxa : ∀ k, k ∈ (Value.slice b1 (risL l).length d1).blk → w.heap.size ≤ k := fun k hk => by have := hn1 k hk; omega
  clear z0 z1 zf q1 q2 qf hs1 hf1 hn1
  generalize hW5 : World.setCell w1 _ _ = W5 at *
  clear hW5
  have hw5 : w.heap.size + 1 < W5.heap.size := lt_of_heap h3
  have HA0 : Hid (AV W5 W5 (.slice none 0 0) []) := Lib.hid (AV.nil W5)
  have Q1 := Lib.hid h1; have Q3 := Lib.hid h3; have Qf := Lib.hid hff; have Hsl := Lib.hid hsl; have Hxa := Lib.hid hxa; have Hw5 := Lib.hid hw5
  clear h1 h3 hff hsl hxa hw5 hWs
  have hrl := risL_len l
  have Hrl := Lib.hid hrl
  clear hrl
  go_wp2
  go_loopw [6, 7] (fun v i wr => ∃ (j : Nat) (hs : List Value), i = .int .i64 j ∧ j ≤ rs.length ∧ hs.length = j ∧ Hid (AV W5 wr v (hs.zip ((rs.take j).map fun r => pick l r (risL l))))) (fun _ i _ => (rs.length - intOf i).toNat)
  case atStart => exact ⟨0, [], rfl, Nat.zero_le _, rfl, HA0⟩
  case round =>
    obtain ⟨j, hs, rfl, hj, hhl, HA⟩ := hrel
    clear HA0
    have hPl : (hs.zip ((rs.take j).map fun r => pick l r (risL l))).length = j := by rw [List.length_zip, List.length_map, List.length_take]; omega
    obtain ⟨xa, xc, hv, _, _⟩ := HA.out.sl.shape
    subst hv
    rw [hPl]
    have q3 := HA.out.fr.heap Q3.out (by simp)
    obtain ⟨z0, z1, zf⟩ := two q3
    by_cases hlt : j < rs.length
    · obtain ⟨x, hx⟩ : ∃ x, rs[j]? = some x := ⟨rs[j], List.getElem?_eq_getElem (by omega)⟩
      have hxm := List.mem_of_getElem? hx
      have hfr := Qf.out.trans HA.out.fr (by simp)
      obtain ⟨g, off, c, ax, mx, hv, hg, kx, hrow⟩ := (H2.out.still hfr).at hx
      cases hv
      have hjI : (j : Int) < (rs.length : Int) := by omega
      have hw1 : IntKind.i64.wrap ((j : Int) + 1) = (j : Int) + 1 := IntWalk.i64_in _ (by have := Hr.out; omega)
      have hvs : RdStr wr (.slice b1 (risL l).length d1) (risL l) := ⟨(Hsl.out.fr HA.out.fr (by simp)).rd, fun s hs => H1.out.wf s (risL_mem hs)⟩
      have hc := fun w' (hf : wr.Fr w' []) => rpicked76 (w := w') ((H1.out.fr hfr (by simp)).fr hf (by simp)) (hrow.fr hf (by simp)) (hvs.fr hf (by simp)) (by have := Hl.out; omega) (Hw.out x hxm) (fun y hy => risL_mem hy) (by rw [Hrl.out]; exact Hl.out)
      have Hc := Lib.hid hc; have Hx := Lib.hid hx; have Hfr := Lib.hid hfr
      clear hc hx hfr hvs hrow hxm
      go_wp2
      go_still_tail 7, (by kernel_rfl)
      change wpList _ _ _ _ _ wr.drew
      go_wp2_with fail
      refine (Hc.out _ ((World.Fr.refl wr []).drew)).mono ?_
      rintro e w2 ⟨u, rfl, ho⟩
      obtain ⟨ya, yc, rfl, _, _⟩ := ho.sl.shape
      have hA2 := HA.out.still ((World.Fr.refl wr []).drew)
      have hsl2 := hA2.sl.fr ho.fr (by simp)
      have HA2 := Lib.hid hA2; have Ho := Lib.hid ho; have Hsl2 := Lib.hid hsl2
      clear hA2 ho hsl2 kx z0 z1 zf q3 Hc
      obtain ⟨ih, hih, hh0, hh1, hh2⟩ := info_parts infoH
      have hroom : j < 5864062014634 := by have := Hr.out; omega
      have hsn : ((rs.take (j + 1)).map fun r => pick l r (risL l)) = ((rs.take j).map fun r => pick l r (risL l)) ++ [pick l x (risL l)] := by
        rw [List.take_succ_eq_append_getElem hlt, (List.getElem?_eq_some_iff.1 Hx.out).2]
        simp
      have Hsn := Lib.hid hsn
      clear hsn
      generalize hrw : pick l x (risL l) = rw0 at *
      generalize hpp : ((rs.take j).map fun r => pick l r (risL l)) = pp at *
      have hzip : (hs ++ [Value.slice ya rw0.length yc]).zip (pp ++ [rw0]) = hs.zip pp ++ [(Value.slice ya rw0.length yc, rw0)] := by
        rw [List.zip_append (by rw [hhl, ← hpp, List.length_map, List.length_take]; omega)]
        rfl
      have Hzip := Lib.hid hzip; have HPl := Lib.hid hPl
      clear hzip hPl hrw hpp
      rw [HPl.out] at Hsl2
      go_wp2_with (at_builtin; refine wpList_append_one _ rfl (.tmp 27) (.tmp 29) 23 rfl 32 ih (.slice none 0 0) 1 24 Tryz.underlying23 hih hh0 hh1 hh2 rfl (.slice xa j xc) j ((hs.zip pp).map (·.1)) rfl (Hsl2.out.alloc _) w2.heap.size 1 [.slice ya rw0.length yc] 32 rfl (heap_alloc_at _ _ _ rfl) rfl rfl ⟨by omega, by omega⟩ ?_)
      intro g3 off3 c3 w3 hsl3 hfr3 hat hlt3
      have hpush := HA2.out.push (Ho.out.still ((World.Fr.refl w2 []).alloc (.cells #[.slice ya rw0.length yc] 32))) (g := g3) (off := off3) (c := c3) (by rw [HPl.out]; exact hsl3) (by rw [HPl.out]; exact hfr3) (by rw [HPl.out]; rcases hat with h | h; exact .inl h; exact .inr (by (try simp at h); (try simp); omega))
      rw [HPl.out, ← Hzip.out, ← Hsn.out] at hpush
      have Hpush := Lib.hid hpush
      clear hpush hsl3 hfr3 hat hlt3
      go_wp2
      go_roundw
      case rel => exact ⟨j + 1, hs ++ [.slice ya rw0.length yc], by go_num, by omega, by simp; omega, Hpush⟩
      case measure => simp [intOf]; omega
    · have hd : decide ((j : Int) < (rs.length : Int)) = false := decide_eq_false (by omega)
      have hd2 : decide (j < rs.length) = false := decide_eq_false hlt
      obtain rfl : j = rs.length := by omega
      have hA := HA.out
      rw [List.take_of_length_le (Nat.le_refl _)] at hA hPl
      generalize hP : hs.zip (rs.map fun r => pick l r (risL l)) = P at *
      have hmem : ∀ x, x ∈ P → (∀ y, y ∈ x.2 → okv y ∧ V.wf y) ∧ x.2.length = l.length := by
        intro x hx
        rw [← hP] at hx
        have h2 := (List.of_mem_zip hx).2
        obtain ⟨r, hrm, he⟩ := List.mem_map.1 h2
        refine ⟨fun y hy => ?_, ?_⟩
        · rw [← he] at hy
          exact Hok.out r hrm y (pick_mem (fun z hz => risL_mem hz) (Hw.out r hrm) hy)
        · rw [← he, pick_len, Hrl.out]
      have hsl := hA.sl
      rw [hPl] at hsl
      have hc := rsorted105 HC.out P.length wr (.slice xa rs.length xc) P (Nat.le_refl _) (by rw [hPl]; exact hsl.rd) (hA.rdrow (fun x hx y hy => ((hmem x hx).1 y hy).2)) (fun x hx => ⟨fun y hy => ((hmem x hx).1 y hy).1, by rw [(hmem x hx).2]; have := Hl.out; omega⟩) (by rw [hPl]; exact Hr.out)
      have Hc := Lib.hid hc; have HA' := Lib.hid hA; have Hmem := Lib.hid hmem; have HP := Lib.hid hP; have HPl := Lib.hid hPl; have Hhl := Lib.hid hhl
      clear hc hA hmem hP hPl hsl HA hhl hlt hj
      go_wp2_with fail
      (with_reducible refine Hc.out.mono ?_)
      rintro e w2 ⟨u2, rfl, hrd, hcase, hf2⟩
      obtain ⟨b2, d2, rfl, _, _⟩ := hrd.shape
      have hA2 := HA'.out.still hf2
      have hsub := sortP_sub (cf := cf) P.length P (Nat.le_refl _)
      have hS : w2.Sl 32 1 (.slice b2 (sortP cf P).length d2) (sortP cf P).length ((sortP cf P).map (·.1)) ∧ ∀ k, k ∈ (Value.slice b2 (sortP cf P).length d2).blk → w.heap.size ≤ k := by
        rcases hcase with ⟨h1, h2⟩ | ⟨h1, h2⟩
        · have h3 := hA2.sl
          have h4 := hA2.new
          rw [HPl.out, ← h1] at h3 h4
          rw [h2, ← HPl.out] at h3
          refine ⟨by rw [h2]; exact h3, fun k hk => by have := h4 k hk; have := Hw5.out; omega⟩
        · exact ⟨h1, fun k hk => by have := h2 k hk; have := Hw5.out; have := HA'.out.fr.size; omega⟩
      have hon : OwnTab w w2 (.agg #[.slice b1 (risL l).length d1, .slice b2 (sortP cf P).length d2]) ⟨risL l, (sortP cf P).map (·.2)⟩ := by
        refine ⟨⟨_, _, (sortP cf P).map (·.1), rfl, (Hsl.out.fr HA'.out.fr (by simp)).fr hf2 (by simp), by rw [List.length_map]; exact hS.1, by simp, Hxa.out, hS.2, fun i hv r h1 h2 => ?_⟩, ⟨fun s hs => H1.out.wf s (risL_mem hs), fun r hr v hv => ?_⟩, (Qf.out.trans HA'.out.fr (by simp)).trans hf2 (by simp)⟩
        · rw [List.getElem?_map, Option.map_eq_some_iff] at h1 h2
          obtain ⟨x, hx, rfl⟩ := h1
          obtain ⟨y, hy, rfl⟩ := h2
          rw [hx] at hy
          cases hy
          have hh := hA2.row x (hsub.1 x (List.mem_of_getElem? hx))
          exact ⟨hh.1, fun k hk => by have := hh.2 k hk; have := Hw5.out; omega⟩
        · obtain ⟨x, hx, rfl⟩ := List.mem_map.1 hr
          exact ((Hmem.out x (hsub.1 x hx)).1 v hv).2
      have q3' := hf2.heap (HA'.out.fr.heap Q3.out (by simp)) (by simp)
      have q1' := hf2.heap (HA'.out.fr.heap Q1.out (by simp)) (by simp)
      have hbox := hon.box q3' (b := w.heap.size + 1) (((World.Fr.refl w2 [w.heap.size + 1]).setCell (.inl (by simp)) (.slice b2 (sortP cf P).length d2)) : w2.Fr (w2.setCell ⟨w.heap.size + 1, 1, none⟩ (.slice b2 (sortP cf P).length d2)) [w.heap.size + 1]) (hon.fr.setCell (.inr (by show w.heap.size ≤ w.heap.size + 1; omega)) _)
      have q3b := heap_set_same q3' 1 (.slice b2 (sortP cf P).length d2)
      have q1b := heap_set_other q1' ⟨w.heap.size + 1, 1, none⟩ (by show w.heap.size ≠ w.heap.size + 1; omega) (.slice b2 (sortP cf P).length d2)
      have hput := hbox.put q1b (by omega)
      obtain ⟨z0, z1, zf⟩ := two q3'
      obtain ⟨y0, y1, yf⟩ := two q3b
      obtain ⟨x0, x1, xf⟩ := two q1b
      obtain ⟨f0, f1, _⟩ := two hput.2
      have hT : (⟨risL l, (sortP cf P).map (·.2)⟩ : Tb) = rmadeT cf l rs hs := by rw [rmadeT, HP.out]
      have Hfin := Lib.hid (hT ▸ hput.1)
      clear hput hon hbox hS hcase hrd hf2 hA2 hsub q3' q1' q3b q1b hT
      go_wp2
      refine bodyPost_ret (v := .agg #[.slice b1 (risL l).length d1, .slice b2 (sortP cf P).length d2]) (by simp [results, Tryz.results77, go_sem, f0, f1]) rfl ⟨_, hs, rfl, Hhl.out, Hfin.out⟩
end Go.Proofs.YtikodapgceokhaaGreat
