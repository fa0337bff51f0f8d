/-
  The document's made: a table of unlike variables and rows that may be. What the document's made tells is the program's: plainly. The document's Rename. The document's Of. The document's Empty; the law's spoil. The law's spoil: a table's rows and names are written over.
-/
import Derived.Test.YtbejmdlncnkaaaaGreatRmA
import Derived.Test.YtbejmdlncnkaaaaGreatRvs
import Derived.Test.YtbejmdlncnkaaaaGreatKys
import Derived.Test.YtbejmdlncnkaaaaGreatTbY
set_option maxRecDepth 100000
set_option maxHeartbeats 16000000
set_option linter.unusedSimpArgs false
namespace Go.Proofs.YtbejmdlncnkaaaaGreat
section
open Go.RowKit
structure AV (W wr : World) (v : Value) (P : List HR) : Prop where
 sl : wr.Sl 81 1 v P.length (P.map (·.1))
 new : ∀ k, k ∈ v.blk -> W.heap.size <= k
 row : ∀ x, x ∈ P -> wr.Sl 83 4 x.1 x.2.length (x.2.flatMap V.enc) /\ ∀ k, k ∈ x.1.blk -> W.heap.size <= k
 fr : W.Fr wr []
theorem AV.nil (W : World) : AV W W (.slice none 0 0) [] := ⟨World.Sl.nil _ _ _, by simp [Value.blk], by simp, World.Fr.refl _ _⟩
theorem AV.still {W w w' : World} {v : Value} {P : List HR} (h : AV W w v P) (hf : w.Fr w' []) : AV W w' v P :=
 ⟨h.sl.fr hf (by simp), h.new, fun x hx => ⟨(h.row x hx).1.fr hf (by simp), (h.row x hx).2⟩, h.fr.trans hf (by simp)⟩
theorem AV.push {W w w1 w2 : World} {v u : Value} {P : List HR} {r : Row} {g off c : Nat} (h : AV W w v P) (ho : OwnRow w w1 u r)
  (hs2 : w2.Sl 81 1 (.slice (some ⟨g, off, none⟩) (P.length + 1) c) (P.length + 1) (P.map (·.1) ++ [u])) (hf : w1.Fr w2 v.blk) (hg : g ∈ v.blk ∨ w1.heap.size <= g) :
  AV W w2 (.slice (some ⟨g, off, none⟩) (P.length + 1) c) (P ++ [(u, r)]) := by
 have hWw := h.fr.size
 have hww := ho.fr.size
 refine ⟨?_, fun k hk => ?_, fun x hx => ?_, ?_⟩
 ·rw [List.length_append, List.map_append]; exact hs2
 ·simp [Value.blk] at hk
  subst hk
  rcases hg with h1 | h1
  ·exact h.new _ h1
  ·omega
 ·have hold : ∀ {y : HR}, w1.Sl 83 4 y.1 y.2.length (y.2.flatMap V.enc) -> w2.Sl 83 4 y.1 y.2.length (y.2.flatMap V.enc) := fun hy => hy.fr hf (apart hy (h.sl.fr ho.fr (by simp)) (by decide))
  rcases List.mem_append.1 hx with hx | hx
  ·exact ⟨hold ((h.row x hx).1.fr ho.fr (by simp)), (h.row x hx).2⟩
  ·rcases List.mem_singleton.1 hx with rfl
   exact ⟨hold (y := (u, r)) ho.sl, fun k hk => by have := ho.new k hk; omega⟩
 ·exact (h.fr.trans ho.fr (by simp)).trans hf (fun k hk => .inr (h.new k hk))
theorem AV.rdrow {W w : World} {v : Value} {P : List HR} (h : AV W w v P) (hw : ∀ x, x ∈ P -> ∀ y, y ∈ x.2 -> V.wf y) : ∀ x, x ∈ P -> RdRow w x.1 x.2 := fun x hx => ⟨(h.row x hx).1.rd, hw x hx⟩
def rmadeT (cf : V -> V -> Int) (l : List BA) (rs : List Row) (hs : List Value) : Tb := ⟨risL l, (sortP cf (hs.zip (rs.map fun r => pick l r (risL l)))).map (·.2)⟩
theorem rmade77 {okv : V -> Prop} {cf : V -> V -> Int} (hC : RCmpOk okv cf) {w : World} {v1 v2 : Value} {l : List BA} {rs : List Row} {hs0 : List Value} (h1 : RdStr w v1 l) (h2 : RdRows w v2 rs hs0)
  (hl : l.length <= 3518437208780) (hr : rs.length <= 5864062014634) (hw : ∀ r, r ∈ rs -> r.length = l.length) (hok : ∀ r, r ∈ rs -> ∀ y, y ∈ r -> okv y /\ V.wf y) :
  Calls Tryz.prog 67 #[v1, v2] w fun e w' => ∃ u hs, e = .returned u /\ hs.length = rs.length /\ OwnTab w w' u (rmadeT cf l rs hs) := by
 obtain ⟨a1, c1, rfl, _, _⟩ := h1.rd.shape
 obtain ⟨a2, c2, rfl, _, _⟩ := h2.rd.shape
 have hlen := h2.len
 rw [hlen] at h2 ⊢
 have H1 := Hz h1; have H2 := Hz h2; have Hl := Hz hl; have Hr := Hz hr; have Hw := Hz hw; have Hok := Hz hok; have HC := Hz hC; clear h1 h2 hl hr hw hok hC hlen
 have q1 := heap_alloc_at w (.cells #[.slice none 0 0, .slice none 0 0] 34) _ rfl
 have q2 := heap_alloc_at (w.alloc (.cells #[.slice none 0 0, .slice none 0 0] 34)) (.cells #[.slice none 0 0, .slice none 0 0] 34) (w.heap.size + 1) (by simp)
 have q1 := heap_alloc_some q1 (.cells #[.slice none 0 0, .slice none 0 0] 34)
 have qf := ((World.Fr.refl w []).alloc (.cells #[.slice none 0 0, .slice none 0 0] 34)).alloc (.cells #[.slice none 0 0, .slice none 0 0] 34)
 go_enter Tryz.func67, Tryz.ntmps67
 go_upto_region 2 with (fail)
 generalize hW : World.alloc (World.alloc w _) _ = W at *
 clear hW
 have hc := rrising104 (H1.out.fr qf (by simp)) (by have := Hl.out; omega)
 have Hc := Hz hc; have Q1 := Hz q1; have Q2 := Hz q2; have Qf := Hz qf
 clear hc q1 q2 qf
 go_wp2_with fail
 (with_reducible refine Hc.out.mono ?_)
 rintro e w1 ⟨u1, rfl, hs1, hn1, hf1⟩
 obtain ⟨b1, d1, rfl, _, _⟩ := hs1.shape
 have q1 := hf1.heap Q1.out (by simp); have q2 := hf1.heap Q2.out (by simp); have qf := Qf.out.trans hf1 (by simp)
 have hWs : w.heap.size + 1 < W.heap.size := lt_of_heap Q2.out
 clear Q1 Q2 Qf Hc
 obtain ⟨z0, z1, zf⟩ := two q2
 go_upto_region 3 with (fail)
 have h1 := heap_set_other q1 ⟨w.heap.size + 1, 0, none⟩ (by show w.heap.size ≠ w.heap.size + 1; omega) (.slice b1 (risL l).length d1)
 have h3 := heap_set_same q2 0 (.slice b1 (risL l).length d1)
 have hff : w.Fr (w1.setCell ⟨w.heap.size + 1, 0, none⟩ (.slice b1 (risL l).length d1)) [] := qf.setCell (.inr (by show w.heap.size <= w.heap.size + 1; omega)) _
 have hsl := hs1.setCell (a := ⟨w.heap.size + 1, 0, none⟩) (fun hk => sl_box hs1 q2 (by decide) _ hk rfl) (.slice b1 (risL l).length d1)
 have hxa : ∀ k, k ∈ (Value.slice b1 (risL l).length d1).blk -> w.heap.size <= k := fun k hk => by have := hn1 k hk; omega
 clear z0 z1 zf q1 q2 qf hs1 hf1 hn1
 generalize hW5 : World.setCell w1 _ _ = W5 at *
 clear hW5
 have hw5 : w.heap.size + 1 < W5.heap.size := lt_of_heap h3
 have HA0 : Hid (AV W5 W5 (.slice none 0 0) []) := Hz (AV.nil W5)
 have Q1 := Hz h1; have Q3 := Hz h3; have Qf := Hz hff; have Hsl := Hz hsl; have Hxa := Hz hxa; have Hw5 := Hz hw5
 clear h1 h3 hff hsl hxa hw5 hWs
 have hrl := risL_len l
 have Hrl := Hz hrl
 clear hrl
 go_wp2
 go_loopw [6, 7] (fun v i wr => ∃ (j : Nat) (hs : List Value), i = .int .i64 j /\ j <= rs.length /\ hs.length = j /\ Hid (AV W5 wr v (hs.zip ((rs.take j).map fun r => pick l r (risL l))))) (fun _ i _ => (rs.length - intOf i).toNat)
 case atStart => exact ⟨0, [], rfl, Nat.zero_le _, rfl, HA0⟩
 case round =>
  obtain ⟨j, hs, rfl, hj, hhl, HA⟩ := hrel
  clear HA0
  have hPl : (hs.zip ((rs.take j).map fun r => pick l r (risL l))).length = j := by rw [List.length_zip, List.length_map, List.length_take]; omega
  obtain ⟨xa, xc, hv, _, _⟩ := HA.out.sl.shape
  subst hv
  rw [hPl]
  have q3 := HA.out.fr.heap Q3.out (by simp)
  obtain ⟨z0, z1, zf⟩ := two q3
  by_cases hlt : j < rs.length
  ·obtain ⟨x, hx⟩ : ∃ x, rs[j]? = some x := ⟨rs[j], List.getElem?_eq_getElem (by omega)⟩
   have hxm := List.mem_of_getElem? hx
   have hfr := Qf.out.trans HA.out.fr (by simp)
   obtain ⟨g, off, c, ax, mx, hv, hg, kx, hrow⟩ := (H2.out.still hfr).at hx
   cases hv
   have hjI : (j : Int) < (rs.length : Int) := by omega
   have hw1 : IntKind.i64.wrap ((j : Int) + 1) = (j : Int) + 1 := IntWalk.i64_in _ (by have := Hr.out; omega)
   have hvs : RdStr wr (.slice b1 (risL l).length d1) (risL l) := ⟨(Hsl.out.fr HA.out.fr (by simp)).rd, fun s hs => H1.out.wf s (risL_mem hs)⟩
   have hc := fun w' (hf : wr.Fr w' []) => rpicked76 (w := w') ((H1.out.fr hfr (by simp)).fr hf (by simp)) (hrow.fr hf (by simp)) (hvs.fr hf (by simp)) (by have := Hl.out; omega) (Hw.out x hxm) (fun y hy => risL_mem hy) (by rw [Hrl.out]; exact Hl.out)
   have Hc := Hz hc; have Hx := Hz hx; have Hfr := Hz hfr
   clear hc hx hfr hvs hrow hxm
   go_wp2
   go_still_tail 7, (by kernel_rfl)
   change wpList _ _ _ _ _ wr.drew
   go_wp2_with fail
   refine (Hc.out _ ((World.Fr.refl wr []).drew)).mono ?_
   rintro e w2 ⟨u, rfl, ho⟩
   obtain ⟨ya, yc, rfl, _, _⟩ := ho.sl.shape
   have hA2 := HA.out.still ((World.Fr.refl wr []).drew)
   have hsl2 := hA2.sl.fr ho.fr (by simp)
   have HA2 := Hz hA2; have Ho := Hz ho; have Hsl2 := Hz hsl2
   clear hA2 ho hsl2 kx z0 z1 zf q3 Hc
   obtain ⟨ih, hih, hh0, hh1, hh2⟩ := info_parts infoH
   have hroom : j < 5864062014634 := by have := Hr.out; omega
   have hsn : ((rs.take (j + 1)).map fun r => pick l r (risL l)) = ((rs.take j).map fun r => pick l r (risL l)) ++ [pick l x (risL l)] := by
    rw [List.take_succ_eq_append_getElem hlt, (List.getElem?_eq_some_iff.1 Hx.out).2]
    simp
   have Hsn := Hz hsn
   clear hsn
   generalize hrw : pick l x (risL l) = rw0 at *
   generalize hpp : ((rs.take j).map fun r => pick l r (risL l)) = pp at *
   have hzip : (hs ++ [Value.slice ya rw0.length yc]).zip (pp ++ [rw0]) = hs.zip pp ++ [(Value.slice ya rw0.length yc, rw0)] := by
    rw [List.zip_append (by rw [hhl, <- hpp, List.length_map, List.length_take]; omega)]
    rfl
   have Hzip := Hz hzip; have HPl := Hz hPl
   clear hzip hPl hrw hpp
   rw [HPl.out] at Hsl2
   go_wp2_with (at_builtin; refine wpList_append_one _ rfl (.tmp 27) (.tmp 29) 32 rfl 81 ih (.slice none 0 0) 1 24 Tryz.underlying32 hih hh0 hh1 hh2 rfl (.slice xa j xc) j ((hs.zip pp).map (·.1)) rfl (Hsl2.out.alloc _) w2.heap.size 1 [.slice ya rw0.length yc] 81 rfl (heap_alloc_at _ _ _ rfl) rfl rfl ⟨by omega, by omega⟩ ?_)
   intro g3 off3 c3 w3 hsl3 hfr3 hat hlt3
   have hpush := HA2.out.push (Ho.out.still ((World.Fr.refl w2 []).alloc (.cells #[.slice ya rw0.length yc] 81))) (g := g3) (off := off3) (c := c3) (by rw [HPl.out]; exact hsl3) (by rw [HPl.out]; exact hfr3) (by rw [HPl.out]; rcases hat with h | h; exact .inl h; exact .inr (by (try simp at h); (try simp); omega))
   rw [HPl.out, <- Hzip.out, <- Hsn.out] at hpush
   have Hpush := Hz hpush
   clear hpush hsl3 hfr3 hat hlt3
   go_wp2
   go_roundw
   case rel => exact ⟨j + 1, hs ++ [.slice ya rw0.length yc], by go_num, by omega, by simp; omega, Hpush⟩
   case measure => simp [intOf]; omega
  ·have hd : decide ((j : Int) < (rs.length : Int)) = false := decide_eq_false (by omega)
   have hd2 : decide (j < rs.length) = false := decide_eq_false hlt
   obtain rfl : j = rs.length := by omega
   have hA := HA.out
   rw [List.take_of_length_le (Nat.le_refl _)] at hA hPl
   generalize hP : hs.zip (rs.map fun r => pick l r (risL l)) = P at *
   have hmem : ∀ x, x ∈ P -> (∀ y, y ∈ x.2 -> okv y /\ V.wf y) /\ x.2.length = l.length := by
    intro x hx
    rw [<- hP] at hx
    have h2 := (List.of_mem_zip hx).2
    obtain ⟨r, hrm, he⟩ := List.mem_map.1 h2
    refine ⟨fun y hy => ?_, ?_⟩
    ·rw [<- he] at hy
     exact Hok.out r hrm y (pick_mem (fun z hz => risL_mem hz) (Hw.out r hrm) hy)
    ·rw [<- he, pick_len, Hrl.out]
   have hsl := hA.sl
   rw [hPl] at hsl
   have hc := rsorted105 HC.out P.length wr (.slice xa rs.length xc) P (Nat.le_refl _) (by rw [hPl]; exact hsl.rd) (hA.rdrow (fun x hx y hy => ((hmem x hx).1 y hy).2)) (fun x hx => ⟨fun y hy => ((hmem x hx).1 y hy).1, by rw [(hmem x hx).2]; have := Hl.out; omega⟩) (by rw [hPl]; exact Hr.out)
   have Hc := Hz hc; have HA' := Hz hA; have Hmem := Hz hmem; have HP := Hz hP; have HPl := Hz hPl; have Hhl := Hz hhl
   clear hc hA hmem hP hPl hsl HA hhl hlt hj
   go_wp2_with fail
   (with_reducible refine Hc.out.mono ?_)
   rintro e w2 ⟨u2, rfl, hrd, hcase, hf2⟩
   obtain ⟨b2, d2, rfl, _, _⟩ := hrd.shape
   have hA2 := HA'.out.still hf2
   have hsub := sortP_sub (cf := cf) P.length P (Nat.le_refl _)
   have hS : w2.Sl 81 1 (.slice b2 (sortP cf P).length d2) (sortP cf P).length ((sortP cf P).map (·.1)) /\ ∀ k, k ∈ (Value.slice b2 (sortP cf P).length d2).blk -> w.heap.size <= k := by
    rcases hcase with ⟨h1, h2⟩ | ⟨h1, h2⟩
    ·have h3 := hA2.sl
     have h4 := hA2.new
     rw [HPl.out, <- h1] at h3 h4
     rw [h2, <- HPl.out] at h3
     refine ⟨by rw [h2]; exact h3, fun k hk => by have := h4 k hk; have := Hw5.out; omega⟩
    ·exact ⟨h1, fun k hk => by have := h2 k hk; have := Hw5.out; have := HA'.out.fr.size; omega⟩
   have hon : OwnTab w w2 (.agg #[.slice b1 (risL l).length d1, .slice b2 (sortP cf P).length d2]) ⟨risL l, (sortP cf P).map (·.2)⟩ := by
    refine ⟨⟨_, _, (sortP cf P).map (·.1), rfl, (Hsl.out.fr HA'.out.fr (by simp)).fr hf2 (by simp), by rw [List.length_map]; exact hS.1, by simp, Hxa.out, hS.2, fun i hv r h1 h2 => ?_⟩, ⟨fun s hs => H1.out.wf s (risL_mem hs), fun r hr v hv => ?_⟩, (Qf.out.trans HA'.out.fr (by simp)).trans hf2 (by simp)⟩
    ·rw [List.getElem?_map, Option.map_eq_some_iff] at h1 h2
     obtain ⟨x, hx, rfl⟩ := h1
     obtain ⟨y, hy, rfl⟩ := h2
     rw [hx] at hy
     cases hy
     have hh := hA2.row x (hsub.1 x (List.mem_of_getElem? hx))
     exact ⟨hh.1, fun k hk => by have := hh.2 k hk; have := Hw5.out; omega⟩
    ·obtain ⟨x, hx, rfl⟩ := List.mem_map.1 hr
     exact ((Hmem.out x (hsub.1 x hx)).1 v hv).2
   have q3' := hf2.heap (HA'.out.fr.heap Q3.out (by simp)) (by simp)
   have q1' := hf2.heap (HA'.out.fr.heap Q1.out (by simp)) (by simp)
   have hbox := hon.box q3' (b := w.heap.size + 1) (((World.Fr.refl w2 [w.heap.size + 1]).setCell (.inl (by simp)) (.slice b2 (sortP cf P).length d2)) : w2.Fr (w2.setCell ⟨w.heap.size + 1, 1, none⟩ (.slice b2 (sortP cf P).length d2)) [w.heap.size + 1]) (hon.fr.setCell (.inr (by show w.heap.size <= w.heap.size + 1; omega)) _)
   have q3b := heap_set_same q3' 1 (.slice b2 (sortP cf P).length d2)
   have q1b := heap_set_other q1' ⟨w.heap.size + 1, 1, none⟩ (by show w.heap.size ≠ w.heap.size + 1; omega) (.slice b2 (sortP cf P).length d2)
   have hput := hbox.put q1b (by omega)
   obtain ⟨z0, z1, zf⟩ := two q3'
   obtain ⟨y0, y1, yf⟩ := two q3b
   obtain ⟨x0, x1, xf⟩ := two q1b
   obtain ⟨f0, f1, _⟩ := two hput.2
   have hT : (⟨risL l, (sortP cf P).map (·.2)⟩ : Tb) = rmadeT cf l rs hs := by rw [rmadeT, HP.out]
   have Hfin := Hz (hT ▸ hput.1)
   clear hput hon hbox hS hcase hrd hf2 hA2 hsub q3' q1' q3b q1b hT
   go_wp2
   refine bodyPost_ret (v := .agg #[.slice b1 (risL l).length d1, .slice b2 (sortP cf P).length d2]) (by simp [results, Tryz.results67, go_sem, f0, f1]) rfl ⟨_, hs, rfl, Hhl.out, Hfin.out⟩
end
section
open Go.RowKit
theorem insS_cons (x a : BA) (L : List BA) : insS x (a :: L) = if ltS a x = true then a :: insS x L else x :: a :: L := by
 unfold insS
 by_cases h : ltS a x = true
 ·rw [if_pos h]; simp only [List.takeWhile_cons, List.dropWhile_cons, h, if_true, List.cons_append]
 ·rw [if_neg h]
  have h' : ltS a x = false := by simpa using h
  simp only [List.takeWhile_cons, List.dropWhile_cons, h', Bool.false_eq_true, if_false, List.nil_append]
theorem insS_mem {x b : BA} : ∀ {L : List BA}, b ∈ insS x L ↔ b = x ∨ b ∈ L
 | [] => by simp [insS]
 | a :: L => by
  rw [insS_cons]
  split
  ·rw [List.mem_cons, insS_mem (L := L), List.mem_cons]
   constructor
   ·rintro (h | h | h) <;> simp [h]
   ·rintro (h | h | h) <;> simp [h]
  ·simp
theorem insS_pair {x : BA} : ∀ {L : List BA}, L.Pairwise (fun a b => ltS a b = true) -> x ∉ L -> (insS x L).Pairwise fun a b => ltS a b = true
 | [], _, _ => by simp [insS]
 | a :: L, h, hx => by
  obtain ⟨h1, h2⟩ := List.pairwise_cons.1 h
  rw [insS_cons]
  split
  ·rename_i hax
   refine List.pairwise_cons.2 ⟨fun b hb => ?_, insS_pair h2 (fun hm => hx (List.mem_cons_of_mem _ hm))⟩
   rcases insS_mem.1 hb with rfl | hb
   ·exact hax
   ·exact h1 b hb
  ·rename_i hax
   have hxa : ltS x a = true := by
    have hne : x ≠ a := fun e => hx (by rw [e]; simp)
    have hp := pair_of_nodup (l := [x, a]) (by simp [hne]) (by simp; simpa using hax)
    simpa using hp
   refine List.pairwise_cons.2 ⟨fun b hb => ?_, h⟩
   rcases List.mem_cons.1 hb with rfl | hb
   ·exact hxa
   ·exact ltS_trans hxa (h1 b hb)
theorem risL_mem_iff (l : List BA) (s : BA) : s ∈ risL l ↔ s ∈ l := by
 suffices ∀ (l L : List BA), s ∈ l.foldl (fun L x => insS x L) L ↔ s ∈ L ∨ s ∈ l by
  have := this l []
  simpa [risL] using this
 intro l
 induction l with
 | nil => intro L; simp
 | cons a l ih =>
  intro L
  rw [List.foldl_cons, ih, insS_mem, List.mem_cons]
  constructor
  ·rintro ((h | h) | h) <;> simp [h]
  ·rintro (h | h | h) <;> simp [h]
theorem risL_sortS {l : List BA} (hn : l.Nodup) : risL l = sortS l := by
 have hp : ∀ (l L : List BA), l.Nodup -> (∀ x, x ∈ l -> x ∉ L) -> L.Pairwise (fun a b => ltS a b = true) -> (l.foldl (fun L x => insS x L) L).Pairwise fun a b => ltS a b = true := by
  intro l
  induction l with
  | nil => intro L _ _ h; exact h
  | cons a l ih =>
   intro L hn hd h
   rw [List.foldl_cons]
   obtain ⟨n1, n2⟩ := List.nodup_cons.1 hn
   refine ih _ n2 (fun x hx hm => ?_) (insS_pair h (hd a (by simp)))
   rcases insS_mem.1 hm with rfl | hm
   ·exact n1 hx
   ·exact hd x (by simp [hx]) hm
 refine names_one (hp l [] hn (by simp) List.Pairwise.nil) (sortS_pair hn) fun a => ?_
 rw [risL_mem_iff, (sortS_perm l).mem_iff]
section
variable {okv : V -> Prop} {cf : V -> V -> Int} (h : OrdOk okv cf)
include h
theorem mergeP_rows : ∀ (n : Nat) (p q : List HR), p.length + q.length <= n -> (∀ x, x ∈ p -> ∀ y, y ∈ x.2 -> okv y) -> (∀ x, x ∈ q -> ∀ y, y ∈ x.2 -> okv y) ->
  (p.map (·.2)).Pairwise (rlt cf) -> (q.map (·.2)).Pairwise (rlt cf) -> ((mergeP cf p q).map (·.2)).Pairwise (rlt cf) /\ ∀ r, r ∈ (mergeP cf p q).map (·.2) ↔ r ∈ p.map (·.2) ∨ r ∈ q.map (·.2) := by
 intro n
 induction n with
 | zero =>
  intro p q hl _ _ _ hq
  have : p = [] := List.eq_nil_of_length_eq_zero (by omega)
  subst this
  rw [mergeP_nil]
  exact ⟨hq, fun r => by simp⟩
 | succ n ih =>
  intro p q hl op oq hp hq
  cases p with
  | nil => rw [mergeP_nil]; exact ⟨hq, fun r => by simp⟩
  | cons a p =>
   cases q with
   | nil => rw [mergeP_nil2]; exact ⟨hp, fun r => by simp⟩
   | cons b q =>
    simp only [List.length_cons] at hl
    have oa := op a (by simp)
    have ob := oq b (by simp)
    have op' : ∀ x, x ∈ p -> ∀ y, y ∈ x.2 -> okv y := fun x hx => op x (by simp [hx])
    have oq' : ∀ x, x ∈ q -> ∀ y, y ∈ x.2 -> okv y := fun x hx => oq x (by simp [hx])
    have rowp : ∀ r, r ∈ p.map (·.2) -> ∀ y, y ∈ r -> okv y := fun r hr => by obtain ⟨x, hx, rfl⟩ := List.mem_map.1 hr; exact op' x hx
    have rowq : ∀ r, r ∈ q.map (·.2) -> ∀ y, y ∈ r -> okv y := fun r hr => by obtain ⟨x, hx, rfl⟩ := List.mem_map.1 hr; exact oq' x hx
    rw [List.map_cons] at hp hq
    obtain ⟨p1, p2⟩ := List.pairwise_cons.1 hp
    obtain ⟨q1, q2⟩ := List.pairwise_cons.1 hq
    rw [mergeP_cons]
    by_cases h1 : rcmp cf a.2 b.2 < 0
    ·rw [if_pos h1]
     obtain ⟨m1, m2⟩ := ih p (b :: q) (by simp only [List.length_cons]; omega) op' oq p2 (by rw [List.map_cons]; exact hq)
     refine ⟨?_, fun r => ?_⟩
     ·rw [List.map_cons]
      refine List.pairwise_cons.2 ⟨fun r hr => ?_, m1⟩
      rcases (m2 r).1 hr with hr | hr
      ·exact p1 r hr
      ·rw [List.map_cons] at hr
       rcases List.mem_cons.1 hr with rfl | hr
       ·exact h1
       ·exact rcmp_trans h a.2 b.2 r oa ob (rowq r hr) h1 (q1 r hr)
     ·rw [List.map_cons, List.mem_cons, m2 r, List.map_cons (l := p), List.mem_cons]
      constructor
      ·rintro (x | x | x)
       ·exact .inl (.inl x)
       ·exact .inl (.inr x)
       ·exact .inr x
      ·rintro ((x | x) | x)
       ·exact .inl x
       ·exact .inr (.inl x)
       ·exact .inr (.inr x)
    ·rw [if_neg h1]
     by_cases h2 : 0 < rcmp cf a.2 b.2
     ·rw [if_pos h2]
      have hba : rcmp cf b.2 a.2 < 0 := (rcmp_anti h b.2 a.2 ob oa).2 h2
      obtain ⟨m1, m2⟩ := ih (a :: p) q (by simp only [List.length_cons]; omega) op oq' (by rw [List.map_cons]; exact hp) q2
      refine ⟨?_, fun r => ?_⟩
      ·rw [List.map_cons]
       refine List.pairwise_cons.2 ⟨fun r hr => ?_, m1⟩
       rcases (m2 r).1 hr with hr | hr
       ·rw [List.map_cons] at hr
        rcases List.mem_cons.1 hr with rfl | hr
        ·exact hba
        ·exact rcmp_trans h b.2 a.2 r ob oa (rowp r hr) hba (p1 r hr)
       ·exact q1 r hr
      ·rw [List.map_cons, List.mem_cons, m2 r, List.map_cons (l := q), List.mem_cons]
       constructor
       ·rintro (x | x | x)
        ·exact .inr (.inl x)
        ·exact .inl x
        ·exact .inr (.inr x)
       ·rintro (x | x | x)
        ·exact .inr (.inl x)
        ·exact .inl x
        ·exact .inr (.inr x)
     ·rw [if_neg h2]
      have hab : a.2 = b.2 := rcmp_zero h a.2 b.2 oa ob (by omega)
      obtain ⟨m1, m2⟩ := ih p q (by omega) op' oq' p2 q2
      refine ⟨?_, fun r => ?_⟩
      ·rw [List.map_cons]
       refine List.pairwise_cons.2 ⟨fun r hr => ?_, m1⟩
       rcases (m2 r).1 hr with hr | hr
       ·exact p1 r hr
       ·rw [hab]; exact q1 r hr
      ·rw [List.map_cons, List.mem_cons, m2 r, List.map_cons (l := p), List.mem_cons, List.map_cons (l := q), List.mem_cons, <- hab]
       constructor
       ·rintro (x | x | x)
        ·exact .inl (.inl x)
        ·exact .inl (.inr x)
        ·exact .inr (.inr x)
       ·rintro ((x | x) | (x | x))
        ·exact .inl x
        ·exact .inr (.inl x)
        ·exact .inl x
        ·exact .inr (.inr x)
theorem sortP_rows : ∀ (n : Nat) (p : List HR), p.length <= n -> (∀ x, x ∈ p -> ∀ y, y ∈ x.2 -> okv y) -> ((sortP cf p).map (·.2)).Pairwise (rlt cf) /\ ∀ r, r ∈ (sortP cf p).map (·.2) ↔ r ∈ p.map (·.2) := by
 intro n
 induction n with
 | zero =>
  intro p hl _
  have : p = [] := List.eq_nil_of_length_eq_zero (by omega)
  subst this
  rw [sortP_short (by simp)]
  exact ⟨List.Pairwise.nil, fun r => Iff.rfl⟩
 | succ n ih =>
  intro p hl op
  by_cases h2 : p.length < 2
  ·rw [sortP_short h2]
   refine ⟨?_, fun r => Iff.rfl⟩
   match p, h2 with
   | [], _ => exact List.Pairwise.nil
   | [a], _ => simp
  ·rw [sortP_long h2]
   have o1 : ∀ x, x ∈ p.take (p.length / 2) -> ∀ y, y ∈ x.2 -> okv y := fun x hx => op x (List.mem_of_mem_take hx)
   have o2 : ∀ x, x ∈ p.drop (p.length / 2) -> ∀ y, y ∈ x.2 -> okv y := fun x hx => op x (List.mem_of_mem_drop hx)
   obtain ⟨a1, a2⟩ := ih (p.take (p.length / 2)) (by rw [List.length_take]; omega) o1
   obtain ⟨b1, b2⟩ := ih (p.drop (p.length / 2)) (by rw [List.length_drop]; omega) o2
   have s1 := sortP_sub (cf := cf) _ (p.take (p.length / 2)) (Nat.le_refl _)
   have s2 := sortP_sub (cf := cf) _ (p.drop (p.length / 2)) (Nat.le_refl _)
   obtain ⟨m1, m2⟩ := mergeP_rows h _ (sortP cf (p.take (p.length / 2))) (sortP cf (p.drop (p.length / 2))) (Nat.le_refl _) (fun x hx => o1 x (s1.1 x hx)) (fun x hx => o2 x (s2.1 x hx)) a1 b1
   refine ⟨m1, fun r => ?_⟩
   rw [m2 r, a2 r, b2 r]
   have e := congrArg (List.map (·.2)) (List.take_append_drop (p.length / 2) p)
   rw [List.map_append] at e
   rw [<- e, List.mem_append]
end
theorem rmadeT_eq {okv : V -> Prop} {cf : V -> V -> Int} (h : OrdOk okv cf) {l : List BA} {rs : List Row} {hs : List Value} (hn : l.Nodup) (hl : hs.length = rs.length) (hw : ∀ r, r ∈ rs -> r.length = l.length) (hok : ∀ r, r ∈ rs -> ∀ y, y ∈ r -> okv y) : rmadeT cf l rs hs = madeT cf l rs := by
 unfold rmadeT madeT
 rw [risL_sortS hn]
 congr 1
 have hz : (hs.zip (rs.map fun r => pick l r (sortS l))).map (·.2) = rs.map fun r => pick l r (sortS l) := List.map_snd_zip (by rw [List.length_map]; omega)
 have hor : ∀ r, r ∈ (rs.map fun r => pick l r (sortS l)) -> ∀ y, y ∈ r -> okv y := fun r hr y hy => by
  obtain ⟨s, hs', rfl⟩ := List.mem_map.1 hr
  exact hok s hs' y (pick_mem (fun z hz => (sortS_perm l).mem_iff.1 hz) (hw s hs') hy)
 have hop : ∀ x, x ∈ (hs.zip (rs.map fun r => pick l r (sortS l))) -> ∀ y, y ∈ x.2 -> okv y := fun x hx => hor x.2 (by rw [<- hz]; exact List.mem_map_of_mem hx)
 obtain ⟨h1, h2⟩ := sortP_rows h _ _ (Nat.le_refl _) hop
 rw [hz] at h2
 exact (canon_eq h hor h1 h2).symm
end
section
open Go.RowKit
theorem rmade77m {cf : V -> V -> Int} (hC : RCmpOk V.wf cf) (hO : OrdOk (fun v => V.wf v /\ vcheck v = 0) cf) {w : World} {v1 v2 : Value} {l : List BA} {rs : List Row} {hs0 : List Value} (h1 : RdStr w v1 l) (h2 : RdRows w v2 rs hs0)
  (hl : l.length <= 3518437208780) (hr : rs.length <= 5864062014634) (hn : l.Nodup) (hw : ∀ r, r ∈ rs -> r.length = l.length /\ ∀ x, x ∈ r -> vcheck x = 0) (hwf : ∀ r, r ∈ rs -> ∀ x, x ∈ r -> V.wf x) :
  Calls Tryz.prog 67 #[v1, v2] w fun e w' => ∃ u, e = .returned u /\ OwnTab w w' u (madeT cf l rs) := by
 refine (rmade77 hC h1 h2 hl hr (fun r h => (hw r h).1) (fun r h y hy => ⟨hwf r h y hy, hwf r h y hy⟩)).mono ?_
 rintro e w' ⟨u, hs, he, hl', ho⟩
 rw [rmadeT_eq hO hn hl' (fun r h => (hw r h).1) (fun r h y hy => ⟨hwf r h y hy, (hw r h).2 y hy⟩)] at ho
 exact ⟨u, he, ho⟩
end
section
open Go.RowKit
theorem rof33 {cf : V -> V -> Int} (hRK : RChkOk V.wf) (hRC : RCmpOk V.wf cf) (hO : OrdOk (fun v => V.wf v /\ vcheck v = 0) cf) {w : World} {v1 v2 : Value} {l : List BA} {rs : List Row} {hs : List Value} (h1 : RdStr w v1 l) (h2 : RdRows w v2 rs hs) (hl : l.length <= 8796093021952) (hm : rs.length <= 5864062014634) (hsh : Short rs) (hok : ∀ r, r ∈ rs -> ∀ x, x ∈ r -> V.wf x) :
  Calls Tryz.prog 60 #[v1, v2] w fun e w' => ∃ v, e = .returned (.tuple #[v, .int .i64 (ofT cf l rs).1]) /\ OwnTab w w' v (ofT cf l rs).2 := by
 obtain ⟨a1, c1, rfl, _, _⟩ := h1.rd.shape
 obtain ⟨a2, c2, rfl, _, _⟩ := h2.rd.shape
 have hlen := h2.len
 rw [hlen] at h2 ⊢
 clear hlen
 generalize hR : ofT cf l rs = R
 have H1 := Hz h1; have H2 := Hz h2; have Hl := Hz hl; have Hm := Hz hm; have Hsh := Hz hsh; have HK := Hz hRK; have HC := Hz hRC; have HO := Hz hO; have Hok := Hz hok; have HR := Hz hR; clear h1 h2 hl hm hsh hRK hRC hO hok hR
 go_enter Tryz.func60, Tryz.ntmps60
 go_upto_region 1 with (fail)
 generalize hW : World.alloc w _ = W
 have q1 : W.heap[w.heap.size]? = some (.cells #[.slice none 0 0, .slice none 0 0] 34 (0, 0)) := by rw [<- hW]; exact heap_alloc_at _ _ _ rfl
 have q2 : w.Fr W [] := by rw [<- hW]; exact (World.Fr.refl w []).alloc _
 clear hW
 generalize hb : w.heap.size = b at *
 have hun := runlike80 (H1.out.fr q2 (by simp)) (by have := Hl.out; omega)
 have Hun := Hz hun; have Q1 := Hz q1; have Q2 := Hz q2; have Hb := Hz hb; clear q1 q2 hb hun
 go_wp2_with fail
 refine Hun.out.mono ?_
 rintro e w1 ⟨rfl, hf1⟩
 have q1 := hf1.heap Q1.out (by simp)
 have q2 := Q2.out.trans hf1 (by simp)
 have Q1' := Hz q1; have Q2' := Hz q2; clear q1 q2 hf1 Q1 Q2 Hun
 obtain ⟨p0, p1, pf⟩ := two Q1'.out
 have hbW := lt_of_heap Q1'.out
 by_cases h8 : 8 < l.length
 ·have hd8 : decide ((8 : Int) < (l.length : Int)) = true := decide_eq_true (by omega)
  have hres : R = (30, ⟨[], []⟩) := by rw [<- HR.out]; unfold ofT; rw [if_pos (.inl h8)]
  subst hres
  clear h8
  go_wp2
  have hfin := (OwnTab.empty (w := w) Q2'.out).put Q1'.out (by have := Hb.out; omega)
  obtain ⟨f0, f1, _⟩ := two hfin.2
  have Hfin := Hz hfin.1
  clear hfin p0 p1 pf
  refine bodyPost_ret (v := .tuple #[.agg #[.slice none 0 0, .slice none 0 0], .int .i64 30]) (by simp [results, Tryz.results60, go_sem, f0, f1]) rfl ⟨_, rfl, Hfin.out⟩
 ·have hd8 : decide ((8 : Int) < (l.length : Int)) = false := decide_eq_false (by omega)
  have H8 := Hz h8; clear h8
  by_cases hnd : l.Nodup
  ·have hdn : decide l.Nodup = true := decide_eq_true hnd
   have hres : R = if rowsErr l.length rs = 0 then (0, madeT cf l rs) else (rowsErr l.length rs, ⟨[], []⟩) := by
    rw [<- HR.out]; unfold ofT; rw [if_neg (fun h => h.elim H8.out (fun h => h hnd))]
   have Hnd := Hz hnd; have HR2 := Hz hres; clear hnd HR hres
   rw [hdn]
   go_wp2
   go_loopw [7] (fun i wr => ∃ j : Nat, i = .int .i64 j /\ j <= rs.length /\ Hid (∀ (i : Nat) (r : Row), i < j -> rs[i]? = some r -> rowCheck l.length r = 0) /\ Hid (wr.heap[b]? = some (.cells #[.slice none 0 0, .slice none 0 0] 34 (0, 0))) /\ Hid (w.Fr wr [])) (fun i _ => (rs.length - intOf i).toNat)
   case atStart => exact ⟨0, rfl, Nat.zero_le _, Hz (fun i a hi => by omega), Q1', Q2'⟩
   case round =>
    obtain ⟨j, rfl, hj, HA, HP, HF⟩ := hrel
    clear p0 p1 pf Q1' Q2' hbW
    obtain ⟨p0, p1, pf⟩ := two HP.out
    have hbW := lt_of_heap HP.out
    by_cases hlt : j < rs.length
    ·obtain ⟨x, hx⟩ : ∃ x, rs[j]? = some x := ⟨rs[j], List.getElem?_eq_getElem (by omega)⟩
     obtain ⟨g, off, c, a, m, hv, hg, kx, hrow⟩ := (H2.out.still HF.out).at hx
     cases hv
     have hrI : (j : Int) < (rs.length : Int) := by omega
     have hw1 : IntKind.i64.wrap ((j : Int) + 1) = (j : Int) + 1 := IntWalk.i64_in _ (by have := Hm.out; omega)
     have hxm := List.mem_of_getElem? hx
     by_cases hn : x.length = l.length
     ·have hnb : ((x.length : Int) == (l.length : Int)) = true := by rw [hn]; simp
      have hnc : ((x.length : Int) != (l.length : Int)) = false := by rw [hn]; simp
      have hnd : (x.length == l.length) = true := by rw [hn]; simp
      have hne : (x.length != l.length) = false := by rw [hn]; simp
      have hrc : rowCheck l.length x = vchecks x := if_pos hn
      have hc := rvalues50 HK.out hrow (Hok.out x hxm) (Hsh.out x hxm)
      have Hc := Hz hc; have Hx := Hz hx; have Hrc := Hz hrc; clear hc hx hrow hxm hrc hn
      go_wp2_with fail
      refine Hc.out.mono ?_
      rintro e w2 ⟨rfl, hf2⟩
      have HP2 := Hz (hf2.heap HP.out (by simp))
      have HF2 := Hz (HF.out.trans hf2 (by simp)); clear hf2 kx p0 p1 pf Hc hbW
      obtain ⟨p0, p1, pf⟩ := two HP2.out
      have hbW := lt_of_heap HP2.out
      by_cases h0 : vchecks x = 0
      ·have H0 := Hz (Hrc.out.trans h0)
       rw [h0]
       clear h0
       go_wp2
       go_roundw
       case rel => exact ⟨j + 1, by go_num, by omega, Hz (fun k r hk hr => by
        rcases Nat.lt_or_ge k j with h | h
        ·exact HA.out k r h hr
        ·obtain rfl : k = j := by omega
         rw [Hx.out] at hr
         cases hr
         exact H0.out), HP2, HF2⟩
       case measure => simp [intOf]; omega
      ·have hres := rowsErr_at rs j HA.out Hx.out (by rw [Hrc.out]; exact h0)
       have h0b : (vchecks x == 0) = false := beq_eq_false_iff_ne.2 h0
       have h0c : (vchecks x != 0) = true := by simp [h0]
       have hres2 : R = (vchecks x, ⟨[], []⟩) := by rw [HR2.out, hres, Hrc.out, if_neg h0]
       clear h0 hres HR2 Hrc
       generalize vchecks x = z at *
       subst hres2
       go_wp2
       have hfin := (OwnTab.empty (w := w) HF2.out).put HP2.out (by have := Hb.out; omega)
       obtain ⟨f0, f1, _⟩ := two hfin.2
       have Hfin := Hz hfin.1
       clear hfin p0 p1 pf
       refine bodyPost_ret (v := .tuple #[.agg #[.slice none 0 0, .slice none 0 0], .int .i64 z]) (by simp [results, Tryz.results60, go_sem, f0, f1]) rfl ⟨_, rfl, Hfin.out⟩
     ·have hnb : ((x.length : Int) == (l.length : Int)) = false := beq_eq_false_iff_ne.2 (by omega)
      have hnc : ((x.length : Int) != (l.length : Int)) = true := by simp; omega
      have hnd : (x.length == l.length) = false := beq_eq_false_iff_ne.2 hn
      have hne : (x.length != l.length) = true := by simp; exact hn
      have hrc : rowCheck l.length x = 1 := if_neg hn
      have hres := rowsErr_at rs j HA.out hx (by rw [hrc]; decide)
      have hres2 : R = (1, ⟨[], []⟩) := by rw [HR2.out, hres, hrc, if_neg (by decide)]
      clear hn hres HR2 hrc hxm hx hrow
      subst hres2
      go_wp2
      have hfin := (OwnTab.empty (w := w) HF.out).put HP.out (by have := Hb.out; omega)
      obtain ⟨f0, f1, _⟩ := two hfin.2
      have Hfin := Hz hfin.1
      clear hfin p0 p1 pf
      refine bodyPost_ret (v := .tuple #[.agg #[.slice none 0 0, .slice none 0 0], .int .i64 1]) (by simp [results, Tryz.results60, go_sem, f0, f1]) rfl ⟨_, rfl, Hfin.out⟩
    ·have hall : ∀ r, r ∈ rs -> rowCheck l.length r = 0 := fun r hr => by
      obtain ⟨i, hi⟩ := List.getElem?_of_mem hr
      exact HA.out i r (by have := (List.getElem?_eq_some_iff.1 hi).1; omega) hi
     have hd : decide ((j : Int) < (rs.length : Int)) = false := decide_eq_false (by omega)
     have hd2 : decide (j < rs.length) = false := decide_eq_false hlt
     have hres2 : R = (0, madeT cf l rs) := by rw [HR2.out, rowsErr_end rs hall, if_pos rfl]
     subst hres2
     have hc := rmade77 HC.out (H1.out.fr HF.out (by simp)) (H2.out.still HF.out) (by have := H8.out; omega) Hm.out (fun r hr => (rowCheck_zero (hall r hr)).1) (fun r hr y hy => ⟨Hok.out r hr y hy, Hok.out r hr y hy⟩)
     have heq : ∀ hs : List Value, hs.length = rs.length -> rmadeT cf l rs hs = madeT cf l rs := fun hs hl => rmadeT_eq HO.out Hnd.out hl (fun r hr => (rowCheck_zero (hall r hr)).1) (fun r hr y hy => ⟨Hok.out r hr y hy, (rowCheck_zero (hall r hr)).2 y hy⟩)
     have Hc := Hz hc; have Heq := Hz heq; clear hc heq hall HA hlt hj HR2
     go_wp2_with fail
     refine Hc.out.mono ?_
     rintro e w2 ⟨v, hs', rfl, hsl, ho⟩
     rw [Heq.out hs' hsl] at ho
     obtain ⟨x1, y1, x2, y2, rfl⟩ := ho.shape
     have hbx := ho.fr.heap HP.out (by simp)
     have ho2 := (ho.since HF.out).put hbx (by have := Hb.out; omega)
     clear p0 p1 pf hbW
     obtain ⟨p0, p1, pf⟩ := two hbx
     have hbW := lt_of_heap hbx
     obtain ⟨f0, f1, _⟩ := two ho2.2
     have Hfin := Hz ho2.1
     clear ho2 ho hbx
     go_wp2
     refine bodyPost_ret (v := .tuple #[.agg #[.slice x1 (madeT cf l rs).vars.length y1, .slice x2 (madeT cf l rs).rows.length y2], .int .i64 0]) (by simp [results, Tryz.results60, go_sem, f0, f1]) rfl ⟨_, rfl, Hfin.out⟩
  ·have hdn : decide l.Nodup = false := decide_eq_false hnd
   have hres : R = (30, ⟨[], []⟩) := by
    rw [<- HR.out]; unfold ofT; rw [if_pos (.inr hnd)]
   subst hres
   rw [hdn]
   clear hnd
   go_wp2
   have hfin := (OwnTab.empty (w := w) Q2'.out).put Q1'.out (by have := Hb.out; omega)
   obtain ⟨f0, f1, _⟩ := two hfin.2
   have Hfin := Hz hfin.1
   clear hfin p0 p1 pf
   refine bodyPost_ret (v := .tuple #[.agg #[.slice none 0 0, .slice none 0 0], .int .i64 30]) (by simp [results, Tryz.results60, go_sem, f0, f1]) rfl ⟨_, rfl, Hfin.out⟩
end
section
open Go.RowKit
theorem rempty34 {cf : V -> V -> Int} (hRK : RChkOk V.wf) (hRC : RCmpOk V.wf cf) (hO : OrdOk (fun v => V.wf v /\ vcheck v = 0) cf) {w : World} {v1 : Value} {l : List BA} (h1 : RdStr w v1 l) (hl : l.length <= 8796093021952) :
  Calls Tryz.prog 17 #[v1] w fun e w' => ∃ v, e = .returned (.tuple #[v, .int .i64 (ofT cf l []).1]) /\ OwnTab w w' v (ofT cf l []).2 := by
 have hc := fun (w0 : World) (hf : w.Fr w0 []) => rof33 (w := w0) (v2 := .slice none 0 0) (rs := []) (hs := []) hRK hRC hO (h1.fr hf (by simp)) ⟨rdNil _ _, rfl, by simp⟩ hl (by simp) (by simp [Short]) (by simp)
 obtain ⟨a1, c1, rfl, _, _⟩ := h1.rd.shape
 have Hc := Hz hc; clear hc h1 hl hRK hRC hO
 generalize ofT cf l [] = R at *
 obtain ⟨R1, R2⟩ := R
 simp only at Hc
 go_enter Tryz.func17, Tryz.ntmps17
 go_upto_region 1 with (fail)
 generalize hW : World.alloc w _ = W
 have q1 : W.heap[w.heap.size]? = some (.cells #[.slice none 0 0, .slice none 0 0] 34 (0, 0)) := by rw [<- hW]; exact heap_alloc_at _ _ _ rfl
 have q2 : w.Fr W [] := by rw [<- hW]; exact (World.Fr.refl w []).alloc _
 clear hW
 have Q1 := Hz q1; have Q2 := Hz q2; clear q1 q2
 go_wp2_with fail
 refine (Hc.out _ Q2.out).mono ?_
 rintro e w2 ⟨v, rfl, ho⟩
 obtain ⟨x1, y1, x2, y2, rfl⟩ := ho.shape
 have hbx := ho.fr.heap Q1.out (by simp)
 have ho2 := (ho.since Q2.out).put hbx (Nat.le_refl _)
 obtain ⟨p0, p1, pf⟩ := two hbx
 have hbW := lt_of_heap hbx
 obtain ⟨f0, f1, _⟩ := two ho2.2
 have Hfin := Hz ho2.1
 clear ho2 ho hbx
 go_wp2
 refine bodyPost_ret (v := .tuple #[.agg #[.slice x1 R2.vars.length y1, .slice x2 R2.rows.length y2], .int .i64 R1]) (by simp [results, Tryz.results17, go_sem, f0, f1]) rfl ⟨_, rfl, Hfin.out⟩
def Room (w : World) (e : TypeId) (size : Nat) (v : Value) (n : Nat) : Prop :=
 ∃ a cap, v = .slice a n cap /\ n <= cap /\ (n = 0 ∨ ∃ g off cur, a = some ⟨g, off, none⟩ /\ w.heap[g]? = some (.cells cur e (0, 0)) /\ off + n * size <= cur.size)
theorem Room.of_sl {w : World} {e : TypeId} {size n : Nat} {v : Value} {xs : List Value} (h : w.Sl e size v n xs) : Room w e size v n := by
 rcases h.2 with ⟨rfl, rfl⟩ | ⟨g, off, cap, cur, rfl, hg, hc, hm, hfit, _⟩
 ·exact ⟨none, 0, rfl, Nat.le_refl _, .inl rfl⟩
 ·exact ⟨_, _, rfl, hc, .inr ⟨g, off, cur, rfl, hg, by have := Nat.mul_le_mul_right size hc; omega⟩⟩
theorem Room.fr {w w' : World} {e : TypeId} {size n : Nat} {v : Value} (h : Room w e size v n) (hf : w.Fr w' []) : Room w' e size v n := by
 obtain ⟨a, cap, hv, hc, h⟩ := h
 refine ⟨a, cap, hv, hc, ?_⟩
 rcases h with h | ⟨g, off, cur, ha, hg, hs⟩
 ·exact .inl h
 ·exact .inr ⟨g, off, cur, ha, hf.heap hg (by simp), hs⟩
theorem Room.set {w : World} {e : TypeId} {size n : Nat} {v : Value} (h : Room w e size v n) (b i : Nat) (u : Value) : Room (w.setCell ⟨b, i, none⟩ u) e size v n := by
 obtain ⟨a, cap, hv, hc, h⟩ := h
 refine ⟨a, cap, hv, hc, ?_⟩
 rcases h with h | ⟨g, off, cur, ha, hg, hs⟩
 ·exact .inl h
 ·refine .inr ?_
  by_cases hb : g = b
  ·subst hb
   exact ⟨g, off, _, ha, heap_set_same hg i u, by rw [Array.size_setIfInBounds]; exact hs⟩
  ·exact ⟨g, off, cur, ha, heap_set_other hg _ hb _, hs⟩
theorem Room.at {w : World} {e : TypeId} {size n : Nat} {v : Value} (h : Room w e size v n) {j : Nat} (hj : j < n) : ∃ g off cap, v = .slice (some ⟨g, off, none⟩) n cap /\ g < w.heap.size /\ (∃ cur, w.heap[g]? = some (.cells cur e (0, 0))) /\ ∀ i, i < size -> ∃ u, w.cell? ⟨g, off + j * size + i, none⟩ = some u := by
 obtain ⟨a, cap, hv, hc, h⟩ := h
 rcases h with h | ⟨g, off, cur, ha, hg, hs⟩
 ·omega
 ·subst ha
  refine ⟨g, off, cap, hv, lt_of_heap hg, ⟨cur, hg⟩, fun i hi => ?_⟩
  have h1 : (j + 1) * size <= n * size := Nat.mul_le_mul_right _ (by omega)
  rw [Nat.add_mul, Nat.one_mul] at h1
  have h2 : off + j * size + i < cur.size := by omega
  exact ⟨cur[off + j * size + i], by simp [World.cell?, hg, h2]⟩
end
section
open Go.RowKit
structure SP (L : List Nat) (w0 wr : World) (b : Nat) (va vb : Value) (n : Nat) (hs : List Value) (ls : List Nat) : Prop where
 box : wr.heap[b]? = some (.cells #[va, vb] 34 (0, 0))
 sl : wr.Sl 81 1 vb hs.length hs
 len : hs.length = ls.length
 row : ∀ (i : Nat) (hv : Value) (k : Nat), hs[i]? = some hv -> ls[i]? = some k -> Room wr 83 4 hv k
 names : Room wr 9 1 va n
 newr : ∀ (i : Nat) (hv : Value), hs[i]? = some hv -> ∀ g, g ∈ hv.blk -> g ∈ L ∨ w0.heap.size <= g
 newn : ∀ g, g ∈ va.blk -> g ∈ L ∨ w0.heap.size <= g
 fr : w0.Fr wr L
theorem SP.still {L : List Nat} {w0 w w' : World} {b : Nat} {va vb : Value} {n : Nat} {hs : List Value} {ls : List Nat} (h : SP L w0 w b va vb n hs ls) (hf : w.Fr w' []) : SP L w0 w' b va vb n hs ls :=
 ⟨hf.heap h.box (by simp), h.sl.fr hf (by simp), h.len, fun i hv k h1 h2 => (h.row i hv k h1 h2).fr hf, h.names.fr hf, h.newr, h.newn, h.fr.trans hf (by simp)⟩
theorem SP.set {L : List Nat} {w0 w : World} {b : Nat} {va vb : Value} {n : Nat} {hs : List Value} {ls : List Nat} (h : SP L w0 w b va vb n hs ls) {g : Nat} {cur : Array Value} {e : TypeId} (hg : w.heap[g]? = some (.cells cur e (0, 0))) (h25 : e ≠ 34) (h32 : (81 : TypeId) ≠ e) (hn : g ∈ L ∨ w0.heap.size <= g) (i : Nat) (u : Value) : SP L w0 (w.setCell ⟨g, i, none⟩ u) b va vb n hs ls := by
 have hgb : b ≠ g := fun e' => by
  subst e'
  have := h.box
  rw [hg] at this
  injection this with this
  injection this with _ this
  exact h25 this
 exact ⟨heap_set_other h.box _ hgb _, h.sl.setCell (a := ⟨g, i, none⟩) (fun hk => sl_box h.sl hg h32 _ hk rfl) u, h.len, fun j hv k h1 h2 => (h.row j hv k h1 h2).set g i u, h.names.set g i u, h.newr, h.newn, h.fr.setCell hn u⟩
structure Lent (L : List Nat) (w : World) (v : Value) (t : Tb) : Prop where
 ex : ∃ a b hs, v = .agg #[a, b] /\ w.Sl 9 1 a t.vars.length (t.vars.map Value.string) /\ w.Sl 81 1 b hs.length hs /\ hs.length = t.rows.length /\
  (∀ k, k ∈ a.blk -> k ∈ L) /\ (∀ k, k ∈ b.blk -> k ∈ L) /\
  (∀ (i : Nat) (hv : Value) (r : Row), hs[i]? = some hv -> t.rows[i]? = some r -> w.Sl 83 4 hv r.length (r.flatMap V.enc) /\ ∀ k, k ∈ hv.blk -> k ∈ L)
 wf : (∀ s, s ∈ t.vars -> s.size <= 9223372036854775807) /\ ∀ r, r ∈ t.rows -> ∀ v, v ∈ r -> v.wf
def span (a b : Nat) : List Nat := (List.range b).filter fun k => decide (a <= k)
theorem span_mem {a b k : Nat} : k ∈ span a b ↔ a <= k /\ k < b := by unfold span; simp [and_comm]
theorem OwnTab.lent {w0 w : World} {v : Value} {t : Tb} (h : OwnTab w0 w v t) : Lent (span w0.heap.size w.heap.size) w v t := by
 obtain ⟨a, b, hs, hv, h1, h2, h3, h4, h5, h6⟩ := h.ex
 exact ⟨⟨a, b, hs, hv, h1, h2, h3, fun k hk => span_mem.2 ⟨h4 k hk, h1.lt k hk⟩, fun k hk => span_mem.2 ⟨h5 k hk, h2.lt k hk⟩, fun i hv r ha hb => ⟨(h6 i hv r ha hb).1, fun k hk => span_mem.2 ⟨(h6 i hv r ha hb).2 k hk, (h6 i hv r ha hb).1.lt k hk⟩⟩⟩, h.wf⟩
theorem Lent.fr {L M : List Nat} {w w' : World} {v : Value} {t : Tb} (h : Lent L w v t) (hf : w.Fr w' M) (hd : ∀ k, k ∈ L -> k ∉ M) : Lent L w' v t := by
 obtain ⟨a, b, hs, hv, h1, h2, h3, h4, h5, h6⟩ := h.ex
 exact ⟨⟨a, b, hs, hv, h1.fr hf (fun k hk => hd k (h4 k hk)), h2.fr hf (fun k hk => hd k (h5 k hk)), h3, h4, h5, fun i hv r ha hb => ⟨(h6 i hv r ha hb).1.fr hf (fun k hk => hd k ((h6 i hv r ha hb).2 k hk)), (h6 i hv r ha hb).2⟩⟩, h.wf⟩
theorem Lent.shape {L : List Nat} {w : World} {v : Value} {t : Tb} (h : Lent L w v t) : ∃ a1 c1 a2 c2, v = .agg #[.slice a1 t.vars.length c1, .slice a2 t.rows.length c2] := by
 obtain ⟨a, b, hs, rfl, h1, h2, h3, _⟩ := h.ex
 obtain ⟨a1, c1, rfl, _, _⟩ := h1.shape
 obtain ⟨a2, c2, rfl, _, _⟩ := h2.shape
 exact ⟨a1, c1, a2, c2, by rw [h3]⟩
theorem Lent.rd {L : List Nat} {w : World} {v : Value} {t : Tb} (h : Lent L w v t) : RdTab w v t := by
 obtain ⟨a, b, hs, hv, h1, h2, h3, h4, h5, h6⟩ := h.ex
 exact ⟨a, b, hs, hv, ⟨by have := h1.rd; exact this, h.wf.1⟩, ⟨h2.rd, h3, fun i hv r ha hb => ⟨(h6 i hv r ha hb).1.rd, h.wf.2 r (List.mem_of_getElem? hb)⟩⟩⟩
theorem SP.of {L : List Nat} {w0 w : World} {b : Nat} {va vb : Value} {t : Tb} (h : Lent L w (.agg #[va, vb]) t) (hf : w0.Fr w L) (hb : w.heap[b]? = some (.cells #[va, vb] 34 (0, 0))) : ∃ hs, SP L w0 w b va vb t.vars.length hs (t.rows.map List.length) := by
 obtain ⟨a, b', hs, hv, h1, h2, h3, h4, h5, h6⟩ := h.ex
 cases hv
 refine ⟨hs, hb, h2, by rw [List.length_map]; exact h3, fun i hv k e1 e2 => ?_, Room.of_sl h1, fun i hv e1 => ?_, fun k hk => .inl (h4 k hk), hf⟩
 ·rw [List.getElem?_map, Option.map_eq_some_iff] at e2
  obtain ⟨r, hr, rfl⟩ := e2
  exact Room.of_sl (h6 i hv r e1 hr).1
 ·have hi := (List.getElem?_eq_some_iff.1 e1).1
  obtain ⟨r, hr⟩ : ∃ r, t.rows[i]? = some r := ⟨t.rows[i]'(by omega), List.getElem?_eq_getElem (by omega)⟩
  exact fun k hk => .inl ((h6 i hv r e1 hr).2 k hk)
end
end Go.Proofs.YtbejmdlncnkaaaaGreat
