/-
  Package past: what prev tells. Package past: which of the points kept are let go: since's closure; slices.IndexFunc with it. Package past: slices.DeleteFunc at points kept: stores and clear at elements of three cells. Package past: slices.DeleteFunc at points kept. Package past: what since tells. Package past, plainly: the tables that Once and Since keep and tell may be, and are small.
-/
import Derived.Test.YtbejmdlncnkaaaaGreatPaA
import Derived.Test.YtbejmdlncnkaaaaGreatAlgA
import Derived.Test.YtbejmdlncnkaaaaGreatTbZ
import Derived.Test.YtbejmdlncnkaaaaGreatTbY
set_option maxRecDepth 100000
set_option maxHeartbeats 16000000
set_option linter.unusedSimpArgs false
namespace Go.Proofs.YtbejmdlncnkaaaaGreat
section
open Go.RowKit
variable {Q : Nat -> Prop}
theorem flat3 {ks : List Kp} {j : Nat} {k : Kp} (h : ks[j]? = some k) : (ks.flatMap Kp.cells)[j * 3]? = some (.int .i64 k.time) /\ (ks.flatMap Kp.cells)[j * 3 + 1]? = some k.a /\ (ks.flatMap Kp.cells)[j * 3 + 2]? = some k.b := by
 induction ks generalizing j with
 | nil => simp at h
 | cons a t ih =>
  cases j with
  | zero => simp at h; subst h; simp [Kp.cells]
  | succ j =>
   have h' : t[j]? = some k := by simpa using h
   obtain ⟨i1, i2, i3⟩ := ih h'
   simp only [List.flatMap_cons]
   rw [List.getElem?_append_right (by simp [Kp.cells]; omega), List.getElem?_append_right (by simp [Kp.cells]; omega), List.getElem?_append_right (by simp [Kp.cells]; omega)]
   have e1 : (j + 1) * 3 - a.cells.length = j * 3 := by simp [Kp.cells]; omega
   have e2 : (j + 1) * 3 + 1 - a.cells.length = j * 3 + 1 := by simp [Kp.cells]; omega
   have e3 : (j + 1) * 3 + 2 - a.cells.length = j * 3 + 2 := by simp [Kp.cells]; omega
   rw [e1, e2, e3]
   exact ⟨i1, i2, i3⟩
theorem KeptAt.at {w : World} {v : Value} {ks : List Kp} (h : KeptAt Q w v ks) {j : Nat} {k : Kp} (hj : ks[j]? = some k) :
  ∃ g off c, v = .slice (some ⟨g, off, none⟩) ks.length c /\ g < w.heap.size /\ w.cell? ⟨g, off + j * 3, none⟩ = some (.int .i64 k.time) /\ w.cell? ⟨g, off + j * 3 + 1, none⟩ = some k.a /\ w.cell? ⟨g, off + j * 3 + 2, none⟩ = some k.b /\ (∀ i, w.frozen? ⟨g, i, none⟩ = false) /\ TabIn Q w (.agg #[k.a, k.b]) k.t := by
 have hjl := (List.getElem?_eq_some_iff.1 hj).1
 obtain ⟨g, off, c, he, _, _, hg, hc, hf⟩ := h.sl.form (by omega)
 obtain ⟨f1, f2, f3⟩ := flat3 hj
 have c1 := hc (j * 3) (by omega)
 have c2 := hc (j * 3 + 1) (by omega)
 have c3 := hc (j * 3 + 2) (by omega)
 rw [f1] at c1
 rw [f2] at c2
 rw [f3] at c3
 exact ⟨g, off, c, he, hg, c1, by rw [Nat.add_assoc]; exact c2, by rw [Nat.add_assoc]; exact c3, hf, h.tab k (List.mem_of_getElem? hj)⟩
theorem Odd.one {w : World} {k : Nat} {cs : Array Value} {T : TypeId} (h : w.heap[k]? = some (.cells cs T (0, 0))) (hT : T ≠ 9 /\ T ≠ 81 /\ T ≠ 83) : Odd w [k] := by
 intro j hj
 simp at hj
 subst hj
 exact ⟨cs, T, h, hT⟩
def prevO (i : Iv) (n : Int) (e : Tb) (ks : List Kp) : Tb := ks.foldl (fun o k => if inB (n - k.time) i then k.t else o) e
theorem prevO_step {i : Iv} {n : Int} {e : Tb} {ks : List Kp} {j : Nat} {k : Kp} (hj : ks[j]? = some k) : prevO i n e (ks.take (j + 1)) = if inB (n - k.time) i then k.t else prevO i n e (ks.take j) := by
 have hlt := (List.getElem?_eq_some_iff.1 hj).1
 unfold prevO
 rw [List.take_succ_eq_append_getElem hlt, (List.getElem?_eq_some_iff.1 hj).2, List.foldl_append]
 rfl
structure POk (cf : V -> V -> Int) (S : PS) (M : Nat := 600) : Prop where
 upl : S.left.Pairwise fun a b => ltS a b = true
 up : S.right.Pairwise fun a b => ltS a b = true
 le8 : S.left.length <= 8 /\ S.right.length <= 8
 parts : S.parts = 1 ∨ S.parts = 2
 sub : ∀ s, s ∈ S.left -> s ∈ S.right
 time : -1 <= S.time /\ S.time <= 1099511627776
 times : ∀ k, k ∈ S.waits -> 0 <= k.time /\ k.time <= S.time
 good : ∀ k, k ∈ S.waits -> Good cf k.t /\ k.t.vars = S.right /\ k.t.rows.length <= M
 many : S.waits.length <= 1000
theorem Good.fits {cf : V -> V -> Int} {t : Tb} (h : Good cf t) (hr : t.rows.length <= 5864062014634) : Fits V.wf t :=
 ⟨⟨by have := h.len; omega, by omega, fun r hr => by have := h.row r hr; have := h.len; omega⟩, by omega, fun r hr x hx => (h.ok r hr x hx).1⟩
theorem prev59 {cf : V -> V -> Int} (hK : Ctx V.wf cf) {w : World} (hQ : QFrom Q w) {p : Nat} {S : PS} {vl vr vw v : Value} {ts : List Tb} {t : Tb} {n : Int} (h : PastAt Q w p S vl vr vw) {M : Nat} (hO : POk cf S M) (ht : RdTabs w v ts) (h0 : ts[0]? = some t) (hg : Good cf t) (hm : t.rows.length <= 5864062014634) (hn : 0 <= n /\ n <= 1099511627776) :
  Calls Tryz.prog 59 #[.pointer (some ⟨p, 0, none⟩), .int .i64 n, v] w fun e w' => ∃ u x y vw', e = .returned u /\ TabIn Q w' u (prevO S.i n ⟨S.right, []⟩ S.waits) /\ PastAt Q w' p { S with waits := [⟨n, x, y, t⟩] } vl vr vw' /\ (∀ k, k ∈ vw'.blk -> w.heap.size <= k) /\ w.Fr w' [p] := by
 obtain ⟨v1, v2, rfl⟩ := ht.shape
 obtain ⟨a1, a2, rfl, _, _⟩ := h.left.shape
 obtain ⟨b1, b2, rfl, _, _⟩ := h.right.shape
 obtain ⟨d1, d2, rfl, _, _⟩ := h.kept.sl.shape
 have f6 := (World.Fr.refl w []).alloc (.cells #[.slice none 0 0, .slice none 0 0] 34)
 have q6 := heap_alloc_at w (.cells #[.slice none 0 0, .slice none 0 0] 34) _ rfl
 have hlt6 : p < w.heap.size := lt_of_heap h.box
 have H := Hz h; have HT := Hz ht; have HK := Hz hK; have HQf := Hz hQ; have HG := Hz hg; have HO := Hz hO; have H0 := Hz h0; have HM := Hz hm; have HN := Hz hn
 have Q6 := Hz q6; have F := Hz f6
 have hml := hO.many
 clear hQ h ht hK hg hO h0 hm hn q6 f6
 go_enter Tryz.func59, Tryz.ntmps59
 go_upto_region 1 with (fail)
 generalize hW : World.alloc w _ = W at *
 clear hW
 generalize hp6 : w.heap.size = p6 at Q6 ⊢
 have HP6 := Hz hp6
 have HZ6 := Hz (lt_of_heap Q6.out)
 clear hp6
 have k := Hz (empty124 HK.out (H.out.still F.out) HO.out.up HO.out.le8.2)
 go_wp2_with fail
 (with_reducible refine k.out.mono ?_)
 rintro e w1 ⟨u, rfl, ho⟩
 obtain ⟨t1, t2, t3, t4, rfl⟩ := ho.shape
 simp only [List.length_nil] at ho ⊢
 have HQw := HQf.out.fr F.out
 have Q6 := Hz (heap_alloc_some (ho.fr.heap Q6.out (by simp)) (.cells #[.slice t1 S.right.length t2, .slice t3 0 t4] 34))
 have Q7 := Hz (heap_alloc_at w1 (.cells #[.slice t1 S.right.length t2, .slice t3 0 t4] 34) _ rfl)
 have F := Hz (F.out.trans (ho.fr.alloc (.cells #[.slice t1 S.right.length t2, .slice t3 0 t4] 34)) (by simp))
 have O := Hz ((ho.stay ((World.Fr.refl w1 []).alloc (.cells #[.slice t1 S.right.length t2, .slice t3 0 t4] 34))).inq HQw)
 have HZ7 : Hid (p6 < w1.heap.size) := Hz (Nat.lt_of_lt_of_le HZ6.out ho.fr.size)
 clear ho k HZ6 HQw
 go_upto_region 2 with (fail)
 generalize hW : World.alloc w1 _ = w2 at *
 clear hW
 generalize hp7 : w1.heap.size = p7 at Q7 HZ7 ⊢
 have HZ7' : Hid (p6 < p7) := HZ7
 clear HZ7 hp7
 obtain ⟨e0, e1, e2, e3, e4, e5, e6, e7, e8, e9, ef⟩ := ten (F.out.heap H.out.box (by simp))
 have hzp := lt_of_heap (F.out.heap H.out.box (by simp))
 go_wp2
 go_loopw [17] (fun i wr => ∃ (j : Nat) (xa xb : Value), i = .int .i64 j /\ j <= S.waits.length /\ Hid (w.Fr wr []) /\ Hid (wr.heap[p6]? = some (.cells #[.slice none 0 0, .slice none 0 0] 34 (0, 0))) /\ Hid (wr.heap[p7]? = some (.cells #[xa, xb] 34 (0, 0))) /\ Hid (TabIn Q wr (.agg #[xa, xb]) (prevO S.i n ⟨S.right, []⟩ (S.waits.take j)))) (fun i _ => (S.waits.length - intOf i).toNat)
 case atStart => exact ⟨0, _, _, rfl, Nat.zero_le _, F, Q6, Q7, O⟩
 case round =>
  obtain ⟨j, xa, xb, rfl, hj, HF, HQ6, HQ7, HSl⟩ := hrel
  clear e0 e1 e2 e3 e4 e5 e6 e7 e8 e9 ef hzp F Q6 Q7 O
  by_cases hlt : j < S.waits.length
  ·obtain ⟨k, hk⟩ : ∃ k, S.waits[j]? = some k := ⟨S.waits[j], List.getElem?_eq_getElem hlt⟩
   have HPA := Hz (H.out.still HF.out)
   obtain ⟨g, off, c, hv, hg, k0, k1, k2, kf, ksl⟩ := HPA.out.kept.at hk
   cases hv
   have hktime := HO.out.times k (List.mem_of_getElem? hk)
   have hw2 : IntKind.i64.wrap (n - k.time) = n - k.time := IntWalk.i64_in _ (by have := HN.out; have := HO.out.time; omega)
   obtain ⟨kt, ka, kb, ktb⟩ := k
   obtain ⟨z1, z2, z3, z4, ea, eb⟩ := ksl.shape
   simp only at k0 k1 k2 ksl hktime hw2 ea eb
   subst ea eb
   have hjI : (j : Int) < (S.waits.length : Int) := by omega
   have hw1 : IntKind.i64.wrap ((j : Int) + 1) = (j : Int) + 1 := IntWalk.i64_in _ (by omega)
   have hnn : (0 : Int) <= (j : Int) := by omega
   have hst := prevO_step (i := S.i) (n := n) (e := ⟨S.right, []⟩) hk
   simp only at hst
   have q9 := heap_alloc_at wr (.cells #[.int .i64 kt, .slice z1 ktb.vars.length z2, .slice z3 ktb.rows.length z4] 115) _ rfl
   have hf9 := (World.Fr.refl wr []).alloc (.cells #[.int .i64 kt, .slice z1 ktb.vars.length z2, .slice z3 ktb.rows.length z4] 115)
   have hq6 := hf9.heap HQ6.out (by simp)
   have hq7 := hf9.heap HQ7.out (by simp)
   have hsl := HSl.out.still hf9
   have hks := ksl.still hf9
   have hfr := HF.out.trans hf9 (by simp)
   have hbx := hf9.heap HPA.out.box (by simp)
   have Hst := Hz hst; have HQ6 := Hz hq6; have HQ7 := Hz hq7; have HSl := Hz hsl; have HKs := Hz hks; have HF := Hz hfr; have HBx := Hz hbx; have HQ9 := Hz q9
   clear hst hq6 hq7 hsl hks hfr hbx HPA ksl hk hktime q9 hf9
   go_upto_region 5 with (fail)
   generalize hWW : World.alloc wr _ = w5 at *
   clear hWW
   have HZ9 := Hz (lt_of_heap HQ7.out)
   generalize hp9 : wr.heap.size = p9 at *
   obtain ⟨e0, e1, e2, e3, e4, e5, e6, e7, e8, e9, ef⟩ := ten HBx.out
   obtain ⟨m0, m1, m2, mf⟩ := tri HQ9.out
   have hzp := lt_of_heap HBx.out
   have hz9 := lt_of_heap HQ9.out
   clear k0 k1 k2 kf hg hp9
   go_wp2
   go_still_tail 8, (by kernel_rfl)
   change wpList _ _ _ _ _ w5.drew
   go_wp2_with fail
   (with_reducible refine (in125 (n - kt) S.i _).mono ?_)
   rintro e w6 ⟨rfl, fx⟩
   have hf6 := ((World.Fr.refl w5 []).drew).trans fx (by simp)
   have hq6 := hf6.heap HQ6.out (by simp)
   have hq7 := hf6.heap HQ7.out (by simp)
   have hq9 := hf6.heap HQ9.out (by simp)
   have hsl := HSl.out.still hf6
   have hks := HKs.out.still hf6
   have hfr := HF.out.trans hf6 (by simp)
   clear e0 e1 e2 e3 e4 e5 e6 e7 e8 e9 ef m0 m1 m2 mf hzp hz9 HBx HQ6 HQ7 HQ9 HSl HKs HF fx hf6
   have HQ6 := Hz hq6; have HQ7 := Hz hq7; have HSl := Hz hsl; have HKs := Hz hks; have HF := Hz hfr; have HQ9 := Hz hq9
   clear hq6 hq7 hq9 hsl hks hfr
   cases hin : inB (n - kt) S.i with
   | false =>
    have hst := Hst.out
    rw [hin, if_neg (by simp)] at hst
    rw [<- hst] at HSl
    clear hin hst Hst
    go_wp2
    go_roundw
    case rel => exact ⟨j + 1, xa, xb, by go_num, by omega, HF, HQ6, HQ7, HSl⟩
    case measure => simp [intOf]; omega
   | true =>
    have hst := Hst.out
    rw [hin, if_pos rfl] at hst
    have h1 := ((World.Fr.refl w6 [p7]).setCell (a := ⟨p7, 0, none⟩) (.inl (by simp)) (.slice z1 ktb.vars.length z2)).setCell (a := ⟨p7, 1, none⟩) (.inl (by simp)) (.slice z3 ktb.rows.length z4)
    have hfr := Hz (HF.out.trans h1 (fun k hk => .inr (by simp at hk; subst hk; have := HZ7'.out; have := HP6.out; omega)))
    have hks0 := HKs.out.fr h1 (Odd.one HQ7.out (by decide))
    have hks := Hz (hst.symm ▸ hks0 : TabIn Q ((w6.setCell ⟨p7, 0, none⟩ (.slice z1 ktb.vars.length z2)).setCell ⟨p7, 1, none⟩ (.slice z3 ktb.rows.length z4)) (.agg #[.slice z1 ktb.vars.length z2, .slice z3 ktb.rows.length z4]) (prevO S.i n ⟨S.right, []⟩ (S.waits.take (j + 1))))
    clear hks0
    have hq6 := Hz (h1.heap HQ6.out (by have := HZ7'.out; simp; omega))
    have hq7 := Hz (heap_set_same (heap_set_same HQ7.out 0 (.slice z1 ktb.vars.length z2)) 1 (.slice z3 ktb.rows.length z4))
    obtain ⟨m0, m1, m2, mf⟩ := tri HQ9.out
    obtain ⟨n0, n1, nf⟩ := two HQ7.out
    have hz9 := lt_of_heap HQ9.out
    have hz7 := lt_of_heap HQ7.out
    clear hin hst Hst h1
    go_wp2
    go_roundw
    case rel => exact ⟨j + 1, _, _, by go_num, by omega, hfr, hq6, hq7, hks⟩
    case measure => simp [intOf]; omega
  ·have hd : decide ((j : Int) < (S.waits.length : Int)) = false := decide_eq_false (by omega)
   have hd2 : decide (j < S.waits.length) = false := decide_eq_false hlt
   obtain rfl : j = S.waits.length := by omega
   have hsl := HSl.out
   rw [List.take_of_length_le (Nat.le_refl _)] at hsl
   have HSl := Hz hsl
   clear hlt hj hsl
   have hpa := H.out.still HF.out
   obtain ⟨g, off, c, x1, x2, x3, x4, hv, hg, k1, k2, hrd⟩ := (HT.out.still HF.out).at H0.out
   cases hv
   simp only [Nat.zero_mul, Nat.add_zero] at k1 k2
   have htl : (0 : Int) < (ts.length : Int) := by have := (List.getElem?_eq_some_iff.1 H0.out).1; omega
   have htl2 : 0 < ts.length := by omega
   obtain ⟨e0, e1, e2, e3, e4, e5, e6, e7, e8, e9, ef⟩ := ten hpa.box
   have hzp := lt_of_heap hpa.box
   have Hc := Hz (copied62 HK.out hrd (HG.out.fits (by have := HM.out; omega)) HG.out.check)
   have HPA := Hz hpa
   clear hpa hrd
   go_wp2_with fail
   (with_reducible refine Hc.out.mono ?_)
   rintro e w2 ⟨u, rfl, ho⟩
   obtain ⟨y1, y2, y3, y4, rfl⟩ := ho.shape
   obtain ⟨z1, z2, z3, z4, rfl, rfl⟩ := HSl.out.shape
   have hpa := HPA.out.still ho.fr
   have hsl := HSl.out.still ho.fr
   have hq6 := ho.fr.heap HQ6.out (by simp)
   have hq7 := ho.fr.heap HQ7.out (by simp)
   have hfr := HF.out.trans ho.fr (by simp)
   have hsp := ho.inq (HQf.out.fr HF.out)
   clear ho e0 e1 e2 e3 e4 e5 e6 e7 e8 e9 ef hzp Hc HQ6 HQ7 HSl HPA HF k1 k2 hg
   generalize hX : prevO S.i n ⟨S.right, []⟩ S.waits = X at *
   have HX := Hz hX
   clear hX
   have hne : p ≠ p6 := by have := HP6.out; omega
   obtain ⟨o, ho⟩ : ∃ o : Obj, o = .cells #[.int .i64 n, .slice y1 t.vars.length y2, .slice y3 t.rows.length y4] 115 := ⟨_, rfl⟩
   obtain ⟨W3, hW3⟩ : ∃ W3, W3 = ((w2.setCell ⟨p, 7, none⟩ (.slice (some ⟨w2.heap.size, 0, none⟩) 1 1)).setCell ⟨p6, 0, none⟩ (.slice z1 X.vars.length z2)).setCell ⟨p6, 1, none⟩ (.slice z3 X.rows.length z4) := ⟨_, rfl⟩
   have h3 : w2.Fr W3 [p, p6] := by rw [hW3]; exact (((World.Fr.refl w2 [p, p6]).setCell (a := ⟨p, 7, none⟩) (.inl (by simp)) _).setCell (a := ⟨p6, 0, none⟩) (.inl (by simp)) _).setCell (a := ⟨p6, 1, none⟩) (.inl (by simp)) _
   have hz3 : W3.heap.size = w2.heap.size := by rw [hW3]; simp [World.setCell]
   have hb3 : W3.heap[p]? = some (.cells (pcells10 { S with waits := [⟨n, .slice y1 t.vars.length y2, .slice y3 t.rows.length y4, t⟩] } (.slice a1 S.left.length a2) (.slice b1 S.right.length b2) (.slice (some ⟨w2.heap.size, 0, none⟩) 1 1)) 96 (0, 0)) := by
    rw [hW3]
    exact heap_set_other (heap_set_other (heap_set_same hpa.box 7 (.slice (some ⟨w2.heap.size, 0, none⟩) 1 1)) _ hne _) _ hne _
   have hb6 : W3.heap[p6]? = some (.cells #[.slice z1 X.vars.length z2, .slice z3 X.rows.length z4] 34 (0, 0)) := by
    rw [hW3]
    exact heap_set_same (heap_set_same (heap_set_other hq6 _ (Ne.symm hne) _) 0 (.slice z1 X.vars.length z2)) 1 (.slice z3 X.rows.length z4)
   have hodd : Odd w2 [p, p6] := by
    intro k hk
    rcases List.mem_cons.1 hk with rfl | hk
    ·exact ⟨_, _, hpa.box, by decide, by decide, by decide⟩
    ·exact Odd.one hq6 (by decide) k hk
   have hF := h3.alloc o
   have hrow : (W3.alloc o).heap[w2.heap.size]? = some (.cells #[.int .i64 n, .slice y1 t.vars.length y2, .slice y3 t.rows.length y4] 115 (0, 0)) := by rw [ho]; exact heap_alloc_at W3 _ _ hz3.symm
   have hfin : TabIn Q (W3.alloc o) (.agg #[.slice z1 X.vars.length z2, .slice z3 X.rows.length z4]) (prevO S.i n ⟨S.right, []⟩ S.waits) /\ PastAt Q (W3.alloc o) p { S with waits := [⟨n, .slice y1 t.vars.length y2, .slice y3 t.rows.length y4, t⟩] } (.slice a1 S.left.length a2) (.slice b1 S.right.length b2) (.slice (some ⟨w2.heap.size, 0, none⟩) 1 1) /\ (∀ k, k ∈ (Value.slice (some ⟨w2.heap.size, 0, none⟩) 1 1).blk -> w.heap.size <= k) /\ w.Fr (W3.alloc o) [p] := by
    refine ⟨by rw [HX.out]; exact hsl.fr hF hodd, ⟨heap_alloc_some hb3 o, hpa.left.fr hF (hodd.off hpa.left (.inl rfl)), hpa.right.fr hF (hodd.off hpa.right (.inl rfl)), hpa.lw, hpa.rw, hpa.names, ⟨⟨by simp [Kp.cells], .inr ⟨w2.heap.size, 0, 1, _, rfl, hrow, by simp, by simp [maxLen], by simp, by simp [Kp.cells]⟩⟩, ?_⟩⟩, ?_, (hfr.mono (L' := [p]) (by simp)).trans hF ?_⟩
    ·intro k hk
     simp at hk
     subst hk
     exact hsp.fr hF hodd
    ·intro k hk
     simp [Value.blk] at hk
     subst hk
     exact hfr.size
    ·intro k hk
     simp at hk
     rcases hk with rfl | rfl
     ·exact .inl (by simp)
     ·exact .inr (Nat.le_of_eq HP6.out)
   have Hfin := Hz hfin
   have Hc6 := Hz (two (heap_alloc_some hb6 o))
   obtain ⟨e0, e1, e2, e3, e4, e5, e6, e7, e8, e9, ef⟩ := ten hpa.box
   have hzp := lt_of_heap hpa.box
   obtain ⟨n0, n1, nf⟩ := two hq7
   obtain ⟨s0, s1, sf⟩ := two hq6
   have hz7 := lt_of_heap hq7
   have hz6 := lt_of_heap hq6
   have HW3 := Hz hW3
   have HO3 := Hz ho
   clear hpa hsl hsp hodd hF hrow hfin h3 hb3 hb6 hq6 hq7 hW3 ho hfr hz3
   go_wp2
   rw [<- HO3.out, <- HW3.out]
   obtain ⟨f0, f1, _⟩ := Hc6.out
   obtain ⟨g1, g2, g3, g4⟩ := Hfin.out
   refine bodyPost_ret (v := .agg #[.slice z1 _ z2, .slice z3 _ z4]) (by simp [results, Tryz.results59, go_sem, f0, f1]) rfl ⟨_, _, _, _, rfl, g1, g2, g3, g4⟩
end
section
open Go.RowKit
variable {Q : Nat -> Prop}
def goneB (i : Iv) (n : Int) (k : Kp) : Bool := (!i.op && decide (i.hi < n - k.time)) || (k.t.rows.length == 0)
theorem uno {w : World} {p : Nat} {t : TypeId} {a : Value} (hh : w.heap[p]? = some (.cells #[a] t (0, 0))) : w.cell? ⟨p, 0, none⟩ = some a /\ ∀ j, w.frozen? ⟨p, j, none⟩ = false := by
 refine ⟨by simp [World.cell?, hh], fun j => frozen_of_row w p j _ _ hh⟩
def KSh (k : Kp) : Prop := ∃ z1 z2 z3 z4, k.a = .slice z1 k.t.vars.length z2 /\ k.b = .slice z3 k.t.rows.length z4
structure Tells3 (g : Nat) (cb : Array Value) (f : Kp -> Bool) (w : World) (M : List Nat) (ks : List Kp) : Prop where
 eg : ∀ args w, (callFunc g args).run Tryz.prog w = .ok (.enter g args) w
 call : ∀ W k, w.Fr W M -> k ∈ ks -> KSh k -> Calls Tryz.prog g (#[.agg #[.int .i64 k.time, k.a, k.b]] ++ cb) W fun e W' => e = .returned (.bool (f k)) /\ W.Fr W' []
theorem since131 {W : World} {p p3 p4 : Nat} {T3 T4 : TypeId} {S : PS} {vl vr vw : Value} {n : Int} {k : Kp} (h3 : W.heap[p3]? = some (.cells #[.pointer (some ⟨p, 0, none⟩)] T3 (0, 0))) (h4 : W.heap[p4]? = some (.cells #[.int .i64 n] T4 (0, 0))) (hb : W.heap[p]? = some (.cells (pcells10 S vl vr vw) 96 (0, 0))) (hk : KSh k) (hw : IntKind.i64.wrap (n - k.time) = n - k.time) :
  Calls Tryz.prog 131 #[.agg #[.int .i64 k.time, k.a, k.b], .pointer (some ⟨p3, 0, none⟩), .pointer (some ⟨p4, 0, none⟩)] W fun e W' => e = .returned (.bool (goneB S.i n k)) /\ W.Fr W' [] := by
 obtain ⟨kt, ka, kb, t⟩ := k
 obtain ⟨z1, z2, z3, z4, ea, eb⟩ := hk
 simp only at ea eb hw ⊢
 subst ea eb
 obtain ⟨R, hR⟩ : ∃ R, goneB S.i n ⟨kt, .slice z1 t.vars.length z2, .slice z3 t.rows.length z4, t⟩ = R := ⟨_, rfl⟩
 rw [hR]
 unfold goneB at hR
 simp only at hR
 have h3' := heap_alloc_some h3 (.cells #[.int .i64 kt, .slice z1 t.vars.length z2, .slice z3 t.rows.length z4] 115)
 have h4' := heap_alloc_some h4 (.cells #[.int .i64 kt, .slice z1 t.vars.length z2, .slice z3 t.rows.length z4] 115)
 have hb' := heap_alloc_some hb (.cells #[.int .i64 kt, .slice z1 t.vars.length z2, .slice z3 t.rows.length z4] 115)
 have hf := (World.Fr.refl W []).alloc (.cells #[.int .i64 kt, .slice z1 t.vars.length z2, .slice z3 t.rows.length z4] 115)
 have q := heap_alloc_at W (.cells #[.int .i64 kt, .slice z1 t.vars.length z2, .slice z3 t.rows.length z4] 115) _ rfl
 have HF := Hz hf
 obtain ⟨c0, c1, c2, cf⟩ := tri q
 obtain ⟨a0, af⟩ := uno h3'
 obtain ⟨b0, bf⟩ := uno h4'
 obtain ⟨e0, e1, e2, e3, e4, e5, e6, e7, e8, e9, ef⟩ := ten hb'
 have l0 := lt_of_heap q
 have l3 := lt_of_heap h3'
 have l4 := lt_of_heap h4'
 have lp := lt_of_heap hb'
 clear h3 h4 hb h3' h4' hb' hf q
 go_enter Tryz.func131, Tryz.ntmps131
 go_upto_region 1 with (fail)
 generalize hW : World.alloc W _ = W2 at *
 clear hW
 generalize W.heap.size = p5 at *
 cases h0 : ((t.rows.length : Int) == 0) with
 | true =>
  have h00 : (t.rows.length == 0) = true := by simp at h0 ⊢; omega
  rw [h00, Bool.or_true] at hR
  subst hR
  cases ho : S.i.op with
  | true =>
   rw [ho] at e2
   go_wp2
   go_quiet (fail)
   go_wp2
   go_ret
   exact ⟨rfl, HF.out.of_drewN _⟩
  | false =>
   rw [ho] at e2
   cases hg : decide (S.i.hi < n - kt) with
   | true =>
    go_wp2
    go_quiet (fail)
    go_wp2
    go_ret
    exact ⟨rfl, HF.out.of_drewN _⟩
   | false =>
    go_wp2
    go_quiet (fail)
    go_wp2
    go_ret
    exact ⟨rfl, HF.out.of_drewN _⟩
 | false =>
  have h00 : (t.rows.length == 0) = false := by simp at h0 ⊢; omega
  rw [h00, Bool.or_false] at hR
  cases ho : S.i.op with
  | true =>
   rw [ho] at e2 hR
   simp only [Bool.not_true, Bool.false_and] at hR
   subst hR
   go_wp2
   go_quiet (fail)
   go_wp2
   go_ret
   exact ⟨rfl, HF.out.of_drewN _⟩
  | false =>
   rw [ho] at e2 hR
   simp only [Bool.not_false, Bool.true_and] at hR
   cases hg : decide (S.i.hi < n - kt) with
   | true =>
    rw [hg] at hR
    subst hR
    go_wp2
    go_quiet (fail)
    go_wp2
    go_ret
    exact ⟨rfl, HF.out.of_drewN _⟩
   | false =>
    rw [hg] at hR
    subst hR
    go_wp2
    go_quiet (fail)
    go_wp2
    go_ret
    exact ⟨rfl, HF.out.of_drewN _⟩
def firstK (f : Kp -> Bool) : List Kp -> Nat -> Int
 | [], _ => -1
 | k :: ks, i => if f k then (i : Int) else firstK f ks (i + 1)
theorem firstK_none {f : Kp -> Bool} : ∀ (ks : List Kp) (i : Nat), (∀ k, k ∈ ks -> f k = false) -> firstK f ks i = -1
 | [], _, _ => rfl
 | k :: ks, i, h => by
  unfold firstK
  rw [h k (by simp), if_neg (by simp)]
  exact firstK_none ks (i + 1) (fun x hx => h x (by simp [hx]))
theorem firstK_some {f : Kp -> Bool} : ∀ (ks : List Kp) (i j : Nat) (k : Kp), ks[j]? = some k -> f k = true -> (∀ x, x ∈ ks.take j -> f x = false) -> firstK f ks i = ((i + j : Nat) : Int)
 | [], _, _, _, hj, _, _ => by simp at hj
 | a :: ks, i, 0, k, hj, hk, _ => by
  simp at hj
  subst hj
  unfold firstK
  rw [hk, if_pos rfl, Nat.add_zero]
 | a :: ks, i, j + 1, k, hj, hk, h => by
  unfold firstK
  rw [h a (by simp), if_neg (by simp), firstK_some ks (i + 1) j k (by simpa using hj) hk (fun x hx => h x (by simp [hx]))]
  congr 1
  omega
theorem index174 {w : World} {v : Value} {ks : List Kp} {g : Nat} {cb : Array Value} {f : Kp -> Bool} (h : KeptAt Q w v ks) (hm : ks.length <= 1001) (hsh : ∀ k, k ∈ ks -> KSh k) (hT : Tells3 g cb f w [] ks) :
  Calls Tryz.prog 174 #[v, .func (.func g) #[] cb] w fun e w' => e = .returned (.int .i64 (firstK f ks 0)) /\ w.Fr w' [] := by
 obtain ⟨d1, d2, rfl, _, _⟩ := h.sl.shape
 obtain ⟨R, hR⟩ : ∃ R, firstK f ks 0 = R := ⟨_, rfl⟩
 rw [hR]
 have heg := hT.eg
 have H := Hz h; have HT := Hz hT; have HR := Hz hR; have HS := Hz hsh
 have HB0 : Hid (∀ x, x ∈ ks.take 0 -> f x = false) := Hz (by simp)
 have HF0 := Hz (World.Fr.refl w [])
 clear h hT hR hsh
 go_enter Tryz.func174, Tryz.ntmps174
 go_wp2
 go_loopw [8] (fun i wr => ∃ j : Nat, i = .int .i64 j /\ j <= ks.length /\ Hid (∀ x, x ∈ ks.take j -> f x = false) /\ Hid (w.Fr wr [])) (fun i _ => (ks.length - intOf i).toNat)
 case atStart => exact ⟨0, rfl, Nat.zero_le _, HB0, HF0⟩
 case round =>
  obtain ⟨j, rfl, hj, HB, HF⟩ := hrel
  clear HB0 HF0
  by_cases hlt : j < ks.length
  ·obtain ⟨k, hk⟩ : ∃ k, ks[j]? = some k := ⟨ks[j], List.getElem?_eq_getElem hlt⟩
   have hkm := List.mem_of_getElem? hk
   obtain ⟨gb, off, c, hv, hg, k0, k1, k2, kf, ksl⟩ := (H.out.still HF.out).at hk
   cases hv
   have hjI : (j : Int) < (ks.length : Int) := by omega
   have hw1 : IntKind.i64.wrap ((j : Int) + 1) = (j : Int) + 1 := IntWalk.i64_in _ (by omega)
   have hnn : (0 : Int) <= (j : Int) := by omega
   have hc := HT.out.call wr k HF.out hkm (HS.out k hkm)
   obtain ⟨z1, z2, z3, z4, ea, eb⟩ := HS.out k hkm
   rw [ea] at k1 hc
   rw [eb] at k2 hc
   have Hc := Hz hc; have Hk := Hz hk
   have hsn : ks.take (j + 1) = ks.take j ++ [k] := by rw [List.take_succ_eq_append_getElem hlt, (List.getElem?_eq_some_iff.1 hk).2]
   have Hsn := Hz hsn
   cases hfk : f k with
   | true =>
    rw [hfk] at Hc
    have hres : R = (j : Int) := by rw [<- HR.out]; have := firstK_some ks 0 j k hk hfk HB.out; rwa [Nat.zero_add] at this
    subst hres
    clear hc hk hkm ksl ea eb hsn hfk HR Hk Hsn
    go_wp2_with (go_at_fn g; with_reducible refine Hc.out.mono ?_; rintro e w9 ⟨rfl, fx⟩)
    go_ret
    exact ⟨rfl, HF.out.trans fx (by simp)⟩
   | false =>
    rw [hfk] at Hc
    have HB2 : Hid (∀ x, x ∈ ks.take (j + 1) -> f x = false) := Hz fun x hx => by
     rw [hsn] at hx
     rcases List.mem_append.1 hx with h | h
     ·exact HB.out x h
     ·simp at h; subst h; exact hfk
    clear hc hk hkm ksl ea eb hsn hfk Hk Hsn
    go_wp2_with (go_at_fn g; with_reducible refine Hc.out.mono ?_; rintro e w9 ⟨rfl, fx⟩)
    go_roundw
    case rel => exact ⟨j + 1, by go_num, by omega, HB2, Hz (HF.out.trans fx (by simp))⟩
    case measure => simp [intOf]; omega
  ·have hd : decide ((j : Int) < (ks.length : Int)) = false := decide_eq_false (by omega)
   have hd2 : decide (j < ks.length) = false := decide_eq_false hlt
   obtain rfl : j = ks.length := by omega
   have hb := HB.out
   rw [List.take_of_length_le (Nat.le_refl _)] at hb
   have hres : R = -1 := by rw [<- HR.out]; exact firstK_none ks 0 hb
   subst hres
   clear hb HR HB
   go_wp2
   go_ret
   exact ⟨rfl, HF.out⟩
end
end Go.Proofs.YtbejmdlncnkaaaaGreat
namespace Go
theorem Lib.run_clear_rows {P : Program} (w : World) (t e ty : TypeId) (z : Value) (ht : P.underlying t = some (.slice e)) (hv : ∀ w, (zeroValue e).run P w = .ok z w) (b o n c : Nat) (hn : 0 < n) (h1 : ∀ v, v ∈ (Builtin.zeroCells z.cells n).toList -> v.oneCell' = true)
  (hc : ∀ j, j < (Builtin.zeroCells z.cells n).toList.length -> (w.cell? ⟨b, o + j, none⟩).isSome = true) (hf : ∀ j, j < (Builtin.zeroCells z.cells n).toList.length -> w.frozen? ⟨b, o + j, none⟩ = false) :
  (Builtin.clear_ #[t] ty #[.slice (some ⟨b, o, none⟩) n c]).run P w = .ok (.tuple #[]) (w.setCells b o (Builtin.zeroCells z.cells n).toList) := by
 have hst := run_storeCells_cells (P := P) b o (Builtin.zeroCells z.cells n).toList 0 w (by simpa using hc) (by simpa using hf) h1
 simp only [Nat.add_zero] at hst
 obtain ⟨m, rfl⟩ : ∃ m, n = m + 1 := ⟨n - 1, by omega⟩
 simp [Builtin.clear_, run_underlying ht, hv, hst]
theorem World.Sl.setAt {w : World} {e : TypeId} {s g off n c : Nat} {xs : List Value} (h : w.Sl e s (.slice (some ⟨g, off, none⟩) n c) n xs) (k : Nat) (hk : k < n * s) (v : Value) :
  (w.setCell ⟨g, off + k, none⟩ v).Sl e s (.slice (some ⟨g, off, none⟩) n c) n (xs.set k v) /\ w.Fr (w.setCell ⟨g, off + k, none⟩ v) [g] := by
 obtain ⟨hlen, h2⟩ := h
 rcases h2 with ⟨h0, _⟩ | ⟨g', off', cap', cur, he, hb, hc, hm, hfit, htake⟩
 ·cases h0
 cases he
 refine ⟨⟨by simpa using hlen, .inr ⟨g, off, c, cur.setIfInBounds (off + k) v, rfl, heap_set_same hb (off + k) v, hc, hm, by simpa using hfit, ?_⟩⟩, (World.Fr.refl w [g]).setCell (by simp) _⟩
 subst htake
 have hcn : n * s <= c * s := Nat.mul_le_mul_right s hc
 apply List.ext_getElem?
 intro j
 rw [List.getElem?_set]
 simp only [List.getElem?_take, List.getElem?_drop, List.length_take, List.length_drop, Array.getElem?_toList, Array.getElem?_setIfInBounds, Array.length_toList]
 generalize n * s = N at *
 generalize c * s = C at *
 have : off + k < cur.size := by omega
 by_cases hj : j < N
 ·by_cases hjk : k = j
  ·subst hjk
   simp [hj, this]
   omega
  ·simp [hj, hjk]
 ·simp [hj]
  omega
theorem World.Sl.setsAt {e : TypeId} {s g off n c : Nat} (vs : List Value) : ∀ {w : World} {xs : List Value} (k : Nat), w.Sl e s (.slice (some ⟨g, off, none⟩) n c) n xs -> k + vs.length <= n * s ->
  ∃ ys, (w.setCells g (off + k) vs).Sl e s (.slice (some ⟨g, off, none⟩) n c) n ys /\ ys.take k = xs.take k /\ w.Fr (w.setCells g (off + k) vs) [g] := by
 induction vs with
 | nil => intro w xs k h _; exact ⟨xs, h, rfl, World.Fr.refl _ _⟩
 | cons v r ih =>
  intro w xs k h hk
  simp only [List.length_cons] at hk
  obtain ⟨h1, h2⟩ := h.setAt k (by omega) v
  obtain ⟨ys, h3, h4, h5⟩ := ih (k + 1) h1 (by omega)
  refine ⟨ys, h3, ?_, h2.trans h5 (fun j hj => .inl hj)⟩
  have e1 : ys.take k = (ys.take (k + 1)).take k := by rw [List.take_take]; congr 1; omega
  rw [e1, h4, List.take_take]
  have : min k (k + 1) = k := by omega
  rw [this, List.take_set_of_le (by omega)]
end Go
namespace Go.Proofs.YtbejmdlncnkaaaaGreat
section
open Go.RowKit
theorem cells_len (ks : List Kp) : (ks.flatMap Kp.cells).length = ks.length * 3 := by
 induction ks with
 | nil => rfl
 | cons a t ih => rw [List.flatMap_cons, List.length_append, ih]; simp [Kp.cells]; omega
theorem cells_take (ks : List Kp) (i : Nat) : (ks.flatMap Kp.cells).take (i * 3) = (ks.take i).flatMap Kp.cells := by
 induction ks generalizing i with
 | nil => simp
 | cons a t ih =>
  cases i with
  | zero => simp
  | succ i =>
   rw [List.flatMap_cons, List.take_succ_cons, List.flatMap_cons, <- ih i]
   have e : (i + 1) * 3 = a.cells.length + i * 3 := by simp [Kp.cells]; omega
   rw [e, List.take_length_add_append]
theorem cells_set (ks : List Kp) (i : Nat) (k : Kp) (hi : i < ks.length) : (((ks.flatMap Kp.cells).set (i * 3) (.int .i64 k.time)).set (i * 3 + 1) k.a).set (i * 3 + 2) k.b = (ks.set i k).flatMap Kp.cells := by
 induction ks generalizing i with
 | nil => simp at hi
 | cons a t ih =>
  cases i with
  | zero => simp [Kp.cells]
  | succ i =>
   rw [List.set_cons_succ, List.flatMap_cons, List.flatMap_cons, <- ih i (by simpa using hi)]
   have e0 : (i + 1) * 3 = a.cells.length + i * 3 := by simp [Kp.cells]; omega
   rw [e0, Nat.add_assoc, Nat.add_assoc, List.set_append_right _ _ (by omega), List.set_append_right _ _ (by omega), List.set_append_right _ _ (by omega)]
   congr 1
   congr 1
   ·congr 1
    ·congr 1; omega
    ·omega
   ·omega
theorem KeptSl.put {w : World} {g off n c : Nat} {ks : List Kp} (h : w.Sl 115 3 (.slice (some ⟨g, off, none⟩) n c) n (ks.flatMap Kp.cells)) (hn : ks.length = n) (i : Nat) (k : Kp) (hi : i < n) :
  (((w.setCell ⟨g, off + i * 3, none⟩ (.int .i64 k.time)).setCell ⟨g, off + i * 3 + 1, none⟩ k.a).setCell ⟨g, off + i * 3 + 2, none⟩ k.b).Sl 115 3 (.slice (some ⟨g, off, none⟩) n c) n ((ks.set i k).flatMap Kp.cells) /\ w.Fr (((w.setCell ⟨g, off + i * 3, none⟩ (.int .i64 k.time)).setCell ⟨g, off + i * 3 + 1, none⟩ k.a).setCell ⟨g, off + i * 3 + 2, none⟩ k.b) [g] := by
 have h1 := (((h.setAt (i * 3) (by omega) (.int .i64 k.time)).1.setAt (i * 3 + 1) (by omega) k.a).1.setAt (i * 3 + 2) (by omega) k.b).1
 rw [cells_set ks i k (by omega)] at h1
 refine ⟨h1, (((World.Fr.refl w [g]).setCell (a := ⟨g, off + i * 3, none⟩) (.inl (by simp)) _).setCell (a := ⟨g, off + i * 3 + 1, none⟩) (.inl (by simp)) _).setCell (a := ⟨g, off + i * 3 + 2, none⟩) (.inl (by simp)) _⟩
end
section
open Go.RowKit
variable {Q : Nat -> Prop}
theorem KeptSl.at {w : World} {v : Value} {ks : List Kp} {n : Nat} (h : w.Sl 115 3 v n (ks.flatMap Kp.cells)) (hn : ks.length = n) {j : Nat} {k : Kp} (hj : ks[j]? = some k) :
  ∃ g off c, v = .slice (some ⟨g, off, none⟩) n c /\ g < w.heap.size /\ w.cell? ⟨g, off + j * 3, none⟩ = some (.int .i64 k.time) /\ w.cell? ⟨g, off + j * 3 + 1, none⟩ = some k.a /\ w.cell? ⟨g, off + j * 3 + 2, none⟩ = some k.b /\ (∀ i, w.frozen? ⟨g, i, none⟩ = false) := by
 have hjl := (List.getElem?_eq_some_iff.1 hj).1
 obtain ⟨g, off, c, he, _, _, hg, hc, hf⟩ := h.form (by omega)
 obtain ⟨f1, f2, f3⟩ := flat3 hj
 have c1 := hc (j * 3) (by omega)
 have c2 := hc (j * 3 + 1) (by omega)
 have c3 := hc (j * 3 + 2) (by omega)
 rw [f1] at c1
 rw [f2] at c2
 rw [f3] at c3
 exact ⟨g, off, c, he, hg, c1, by rw [Nat.add_assoc]; exact c2, by rw [Nat.add_assoc]; exact c3, hf⟩
theorem filter_step {f : Kp -> Bool} {ks : List Kp} {j : Nat} {k : Kp} (hj : ks[j]? = some k) : (ks.take (j + 1)).filter (fun k => !f k) = if f k then (ks.take j).filter (fun k => !f k) else (ks.take j).filter (fun k => !f k) ++ [k] := by
 have hlt := (List.getElem?_eq_some_iff.1 hj).1
 rw [List.take_succ_eq_append_getElem hlt, (List.getElem?_eq_some_iff.1 hj).2, List.filter_append]
 cases h : f k <;> simp [h]
structure DelInv (f : Kp -> Bool) (ks : List Kp) (i j : Nat) (dk : List Kp) : Prop where
 lt : i < j
 le : j <= ks.length
 len : dk.length = ks.length
 low : dk.take i = (ks.take j).filter fun k => !f k
 high : dk.drop j = ks.drop j
theorem DelInv.skip {f : Kp -> Bool} {ks dk : List Kp} {i j : Nat} (h : DelInv f ks i j dk) {k : Kp} (hk : ks[j]? = some k) (hf : f k = true) : DelInv f ks i (j + 1) dk :=
 ⟨by have := h.lt; omega, by have := (List.getElem?_eq_some_iff.1 hk).1; omega, h.len, by rw [filter_step hk, if_pos hf]; exact h.low, by rw [<- List.drop_drop, h.high, List.drop_drop]⟩
theorem DelInv.keep {f : Kp -> Bool} {ks dk : List Kp} {i j : Nat} (h : DelInv f ks i j dk) {k : Kp} (hk : ks[j]? = some k) (hf : f k = false) : DelInv f ks (i + 1) (j + 1) (dk.set i k) := by
 have hlt := (List.getElem?_eq_some_iff.1 hk).1
 have hil := h.lt
 have hl := h.len
 refine ⟨by omega, by omega, by simpa using h.len, ?_, ?_⟩
 ·rw [filter_step hk, hf, if_neg (by simp), <- h.low]
  have hi : i < (dk.set i k).length := by rw [List.length_set]; omega
  rw [List.take_succ_eq_append_getElem hi, List.getElem_set_self, List.take_set_of_le (Nat.le_refl _)]
 ·rw [List.drop_set_of_lt (by omega), <- List.drop_drop, h.high, List.drop_drop]
theorem DelInv.get {f : Kp -> Bool} {ks dk : List Kp} {i j : Nat} (h : DelInv f ks i j dk) {k : Kp} (hk : ks[j]? = some k) : dk[j]? = some k := by
 have e : dk[j]? = (dk.drop j)[0]? := by simp
 rw [e, h.high]
 simpa using hk
theorem DelInv.start {f : Kp -> Bool} {ks : List Kp} {i : Nat} {k : Kp} (hk : ks[i]? = some k) (hf : f k = true) (hl : ∀ x, x ∈ ks.take i -> f x = false) : DelInv f ks i (i + 1) ks := by
 have hlt := (List.getElem?_eq_some_iff.1 hk).1
 refine ⟨by omega, by omega, rfl, ?_, rfl⟩
 rw [filter_step hk, if_pos hf]
 exact (List.filter_eq_self.2 fun x hx => by rw [hl x hx]; rfl).symm
theorem firstK_cases (f : Kp -> Bool) (ks : List Kp) : (firstK f ks 0 = -1 /\ ∀ k, k ∈ ks -> f k = false) ∨ ∃ (j : Nat) (k : Kp), ks[j]? = some k /\ f k = true /\ (∀ x, x ∈ ks.take j -> f x = false) /\ firstK f ks 0 = (j : Int) := by
 by_cases h : ∀ k, k ∈ ks -> f k = false
 ·exact .inl ⟨firstK_none ks 0 h, h⟩
 ·refine .inr ?_
  have key : ∀ l : List Kp, (¬ ∀ k, k ∈ l -> f k = false) -> ∃ (j : Nat) (k : Kp), l[j]? = some k /\ f k = true /\ (∀ x, x ∈ l.take j -> f x = false) := by
   intro l
   induction l with
   | nil => intro h; exact absurd (by simp) h
   | cons a t ih =>
    intro h
    cases ha : f a with
    | true => exact ⟨0, a, rfl, ha, by simp⟩
    | false =>
     obtain ⟨j, k, h1, h2, h3⟩ := ih (fun ht => h fun k hk => by
      rcases List.mem_cons.1 hk with rfl | hk
      ·exact ha
      ·exact ht k hk)
     refine ⟨j + 1, k, by simpa using h1, h2, fun x hx => ?_⟩
     rw [List.take_succ_cons] at hx
     rcases List.mem_cons.1 hx with rfl | hx
     ·exact ha
     ·exact h3 x hx
  obtain ⟨j, k, h1, h2, h3⟩ := key ks h
  exact ⟨j, k, h1, h2, h3, by have := firstK_some ks 0 j k h1 h2 h3; rwa [Nat.zero_add] at this⟩
theorem del130 {w : World} {v : Value} {ks : List Kp} {g : Nat} {cb : Array Value} {f : Kp -> Bool} (h : KeptAt Q w v ks) (hm : ks.length <= 1001) (hsh : ∀ k, k ∈ ks -> KSh k) (hT : Tells3 g cb f w v.blk ks) :
  Calls Tryz.prog 130 #[v, .func (.func g) #[] cb] w fun e w' => ∃ v', e = .returned v' /\ w'.Sl 115 3 v' (ks.filter fun k => !f k).length ((ks.filter fun k => !f k).flatMap Kp.cells) /\ (∀ b, b ∈ v'.blk -> b ∈ v.blk) /\ w.Fr w' v.blk := by
 have hi := index174 h hm hsh ⟨hT.eg, fun W k hf hk hs => hT.call W k (hf.mono (by simp)) hk hs⟩
 rcases firstK_cases f ks with ⟨e1, hall⟩ | ⟨i0, k0, hk0, hf0, hl0, e1⟩
 ·obtain ⟨d1, d2, rfl, _, _⟩ := h.sl.shape
  rw [e1] at hi
  have hfil : (ks.filter fun k => !f k) = ks := List.filter_eq_self.2 fun x hx => by rw [hall x hx]; rfl
  rw [hfil]
  have H := Hz h; have Hi := Hz hi
  clear h hi hsh hT hall hfil e1
  go_enter Tryz.func130, Tryz.ntmps130
  go_wp2_with fail
  (with_reducible refine Hi.out.mono ?_)
  rintro e w1 ⟨rfl, fx⟩
  go_wp2
  go_ret
  exact ⟨_, rfl, H.out.sl.fr fx (by simp), fun b hb => hb, fx.mono (by simp)⟩
 ·have hi0 := (List.getElem?_eq_some_iff.1 hk0).1
  obtain ⟨gb, off, c, rfl, hcap, hcm, hg, _, _⟩ := h.sl.form (by omega)
  rw [e1] at hi
  have hne1 : ((i0 : Int) == -1) = false := beq_eq_false_iff_ne.2 (by omega)
  have hw0 : IntKind.i64.wrap ((i0 : Int) + 1) = (i0 : Int) + 1 := IntWalk.i64_in _ (by omega)
  have HD0 := Hz (DelInv.start hk0 hf0 hl0)
  have heg := hT.eg
  have H := Hz h; have Hi := Hz hi; have HT := Hz hT; have HS := Hz hsh; have Hcap := Hz hcap; have Hcm := Hz hcm
  clear h hi hsh hT hk0 hf0 hl0 e1 hg hcap hcm
  go_enter Tryz.func130, Tryz.ntmps130
  go_wp2_with fail
  (with_reducible refine Hi.out.mono ?_)
  rintro e w1 ⟨rfl, fx⟩
  have HSl := Hz (H.out.sl.fr fx (by simp))
  have HF := Hz (fx.mono (L' := [gb]) (by simp))
  clear fx Hi
  go_wp2
  go_loopw [5, 6] (fun s5 s6 wr => ∃ (i j : Nat) (dk : List Kp), s5 = .int .i64 i /\ s6 = .int .i64 j /\ i < j /\ j <= ks.length /\ Hid (DelInv f ks i j dk) /\ Hid (wr.Sl 115 3 (.slice (some ⟨gb, off, none⟩) ks.length c) ks.length (dk.flatMap Kp.cells)) /\ Hid (w.Fr wr [gb])) (fun _ s6 _ => (ks.length - intOf s6).toNat)
  case atStart => exact ⟨i0, i0 + 1, ks, rfl, by go_num, by omega, by omega, HD0, HSl, HF⟩
  case round =>
   obtain ⟨i, j, dk, rfl, rfl, hij, hj, HD, HK, HW⟩ := hrel
   clear HD0 HSl HF
   by_cases hlt : j < ks.length
   ·obtain ⟨k, hk⟩ : ∃ k, ks[j]? = some k := ⟨ks[j], List.getElem?_eq_getElem hlt⟩
    have hkm := List.mem_of_getElem? hk
    obtain ⟨g', off', c', hv, hg, k0, k1, k2, kf⟩ := KeptSl.at HK.out HD.out.len (HD.out.get hk)
    cases hv
    obtain ⟨z1, z2, z3, z4, ea, eb⟩ := HS.out k hkm
    have hjI : (j : Int) < (ks.length : Int) := by omega
    have hiI : (i : Int) < (ks.length : Int) := by omega
    have hiN : i < ks.length := by omega
    have hw1 : IntKind.i64.wrap ((j : Int) + 1) = (j : Int) + 1 := IntWalk.i64_in _ (by omega)
    have hw2 : IntKind.i64.wrap ((i : Int) + 1) = (i : Int) + 1 := IntWalk.i64_in _ (by omega)
    have hnn : (0 : Int) <= (j : Int) := by omega
    have hni : (0 : Int) <= (i : Int) := by omega
    have hf9 := (World.Fr.refl wr []).alloc (.cells #[.int .i64 k.time, k.a, k.b] 115)
    have q7 := heap_alloc_at wr (.cells #[.int .i64 k.time, k.a, k.b] 115) _ rfl
    have hW := HW.out.trans hf9 (by simp)
    have hc := HT.out.call _ k (by simpa [Value.blk] using hW) hkm (HS.out k hkm)
    have hSl := HK.out.fr hf9 (by simp)
    rw [ea, eb] at hc
    rw [ea] at k1
    rw [eb] at k2
    rw [ea, eb] at hf9 q7 hW hSl
    have Hc := Hz hc; have HSl := Hz hSl; have HW := Hz hW; have Q7 := Hz q7; have Hk := Hz hk
    have Ea := Hz ea; have Eb := Hz eb
    clear hc hf9 q7 hW hSl HK hkm hk ea eb
    go_upto_region 8 with (fail)
    generalize hWW : World.alloc wr _ = w8 at *
    clear hWW
    generalize hp7 : wr.heap.size = p7 at *
    have hgp : gb < p7 := hg
    obtain ⟨m0, m1, m2, mf⟩ := tri Q7.out
    have hz7 := lt_of_heap Q7.out
    clear k0 k1 k2 kf hg hp7
    cases hfk : f k with
    | true =>
     rw [hfk] at Hc
     have HD2 := Hz (HD.out.skip Hk.out hfk)
     clear hfk
     go_wp2_with (go_at_fn g; with_reducible refine Hc.out.mono ?_; rintro e w9 ⟨rfl, fx⟩)
     go_roundw
     case rel => exact ⟨i, j + 1, dk, rfl, by go_num, by omega, by omega, HD2, Hz (HSl.out.fr fx (by simp)), Hz (HW.out.trans fx (by simp))⟩
     case measure => simp [intOf]; omega
    | false =>
     rw [hfk] at Hc
     have HD2 := Hz (HD.out.keep Hk.out hfk)
     clear hfk
     go_wp2_with fail
     (with_reducible refine Hc.out.mono ?_)
     rintro e w9 ⟨rfl, fx⟩
     have q7 := fx.heap Q7.out (by simp)
     have hsl := HSl.out.fr fx (by simp)
     have hw9 := HW.out.trans fx (by simp)
     clear m0 m1 m2 mf hz7 Q7 HSl HW fx Hc
     obtain ⟨m0, m1, m2, mf⟩ := tri q7
     have hz7 := lt_of_heap q7
     obtain ⟨kk, hkk⟩ : ∃ kk, dk[i]? = some kk := ⟨dk[i]'(by rw [HD.out.len]; omega), List.getElem?_eq_getElem _⟩
     obtain ⟨g', off', c', hv, hg, k0, k1, k2, kf⟩ := KeptSl.at hsl HD.out.len hkk
     cases hv
     obtain ⟨hp1, hp2⟩ := KeptSl.put hsl HD.out.len i k hiN
     rw [Ea.out, Eb.out] at hp1 hp2
     have HP1 := Hz hp1; have HP2 := Hz (hw9.trans hp2 (fun j hj => .inl hj))
     clear hp1 hp2 hw9 hsl q7 hkk
     go_wp2
     go_roundw
     case rel => exact ⟨i + 1, j + 1, dk.set i k, by go_num, by go_num, by omega, by omega, HD2, HP1, HP2⟩
     case measure => simp [intOf]; omega
   ·have hd : decide ((j : Int) < (ks.length : Int)) = false := decide_eq_false (by omega)
    have hd2 : decide (j < ks.length) = false := decide_eq_false hlt
    obtain rfl : j = ks.length := by omega
    have hlow := HD.out.low
    rw [List.take_of_length_le (Nat.le_refl _)] at hlow
    have hlen := congrArg List.length hlow
    rw [List.length_take, HD.out.len] at hlen
    have hil : i = (ks.filter fun k => !f k).length := by omega
    have hzl : (Builtin.zeroCells (Value.agg #[.int .i64 0, .slice none 0 0, .slice none 0 0]).cells (ks.length - i)).toList.length = (ks.length - i) * 3 := by
     simp [Builtin.zeroCells, Value.cells]
    generalize hL : (Builtin.zeroCells (Value.agg #[.int .i64 0, .slice none 0 0, .slice none 0 0]).cells (ks.length - i)).toList = L at *
    obtain ⟨ys, hys, htk, hfr⟩ := HK.out.setsAt L (i * 3) (by rw [hzl]; omega)
    have hfin := hys.take i (by omega)
    have htk2 : ys.take (i * 3) = (ks.filter fun k => !f k).flatMap Kp.cells := by rw [htk, cells_take, hlow]
    rw [htk2] at hfin
    have hfr2 := HW.out.trans hfr (fun j hj => .inl hj)
    have hclear : ∀ ty, (Builtin.clear_ #[94] ty #[.slice (some ⟨gb, off + i * 3, none⟩) (ks.length - i) (c - i)]).run Tryz.prog wr = .ok (.tuple #[]) (wr.setCells gb (off + i * 3) L) := fun ty => by
     have := Lib.run_clear_rows (P := Tryz.prog) wr 94 115 ty (.agg #[.int .i64 0, .slice none 0 0, .slice none 0 0]) Tryz.underlying94 (fun w => by kernel_rfl) gb (off + i * 3) (ks.length - i) (c - i) (by omega) (fun v hv => by
      simp [Builtin.zeroCells, Value.cells] at hv
      obtain ⟨a, ha, rfl⟩ := hv
      have h3 : a % 3 < 3 := Nat.mod_lt _ (by omega)
      generalize a % 3 = r at h3
      match r, h3 with
      | 0, _ => rfl
      | 1, _ => rfl
      | 2, _ => rfl) (fun z hz => by
       rw [hL, hzl] at hz
       have := HK.out.cells rfl (i * 3 + z) (by omega)
       rw [Nat.add_assoc, this]
       have hxl := HK.out.len
       rw [List.getElem?_eq_getElem (by rw [hxl]; omega)]
       rfl) (fun z _ => HK.out.free _)
     rwa [hL] at this
    have hiN : i < ks.length := hij
    have hqI : (i : Int) < (ks.length : Int) := by omega
    have hqc : (i : Int) < (c : Int) := by have := Hcap.out; omega
    have hqc2 : (i : Int) <= (c : Int) := by omega
    have hqn : (i : Int) <= (ks.length : Int) := by omega
    have hqd : decide ((i : Int) < (c : Int)) = true := decide_eq_true hqc
    have hcm2 := Hcm.out
    have hni : (0 : Int) <= (i : Int) := by omega
    have hcap2 := Hcap.out
    have Hfin := Hz hfin; have Hfr2 := Hz hfr2; have Hil := Hz hil
    clear hfin hfr2 hys htk hfr htk2 HK HW hzl hL hlow hlen hil HD hj hlt
    go_wp2
    go_ret
    refine ⟨_, rfl, ?_, fun b hb => hb, Hfr2.out⟩
    have := Hfin.out
    rw [<- Hil.out]
    exact this
end
section
open Go.RowKit
variable {Q : Nat -> Prop}
abbrev Kp.tt (k : Kp) : Int × Tb := (k.time, k.t)
noncomputable def holdT (cf : V -> V -> Int) (nt : Bool) (k a : Tb) : Tb := if nt then (antiT cf k a).2 else (joinT cf k a).2
noncomputable def holdK (cf : V -> V -> Int) (nt : Bool) (a : Tb) (x : Int × Tb) : Int × Tb := (x.1, holdT cf nt x.2 a)
noncomputable def heldTo (cf : V -> V -> Int) (nt : Bool) (a : Tb) (ks : List Kp) (j : Nat) : List (Int × Tb) := ((ks.take j).map Kp.tt).map (holdK cf nt a) ++ (ks.drop j).map Kp.tt
theorem heldTo_step {cf : V -> V -> Int} {nt : Bool} {a : Tb} {ks : List Kp} {j : Nat} {k : Kp} (hj : ks[j]? = some k) : heldTo cf nt a ks (j + 1) = (heldTo cf nt a ks j).set j (holdK cf nt a k.tt) := by
 have hlt := (List.getElem?_eq_some_iff.1 hj).1
 unfold heldTo
 rw [List.take_succ_eq_append_getElem hlt, (List.getElem?_eq_some_iff.1 hj).2, List.map_append, List.map_append, List.set_append_right _ _ (by simp; omega)]
 have e : j - (((ks.take j).map Kp.tt).map (holdK cf nt a)).length = 0 := by simp; omega
 rw [e, List.drop_eq_getElem_cons hlt, (List.getElem?_eq_some_iff.1 hj).2]
 simp
theorem heldTo_at {cf : V -> V -> Int} {nt : Bool} {a : Tb} {ks : List Kp} {j : Nat} {k : Kp} (hj : ks[j]? = some k) : (heldTo cf nt a ks j)[j]? = some k.tt := by
 have hlt := (List.getElem?_eq_some_iff.1 hj).1
 unfold heldTo
 rw [List.getElem?_append_right (by simp; omega)]
 have e : j - (((ks.take j).map Kp.tt).map (holdK cf nt a)).length = 0 := by simp; omega
 rw [e, List.drop_eq_getElem_cons hlt, (List.getElem?_eq_some_iff.1 hj).2]
 rfl
theorem KeptAt.hold {w : World} {g off n c : Nat} {ks : List Kp} (h : KeptAt Q w (.slice (some ⟨g, off, none⟩) n c) ks) (hn : ks.length = n) {j : Nat} {k : Kp} (hj : ks[j]? = some k) {x y : Value} {t : Tb} (ht : TabIn Q w (.agg #[x, y]) t) :
  KeptAt Q ((w.setCell ⟨g, off + j * 3 + 1, none⟩ x).setCell ⟨g, off + j * 3 + 2, none⟩ y) (.slice (some ⟨g, off, none⟩) n c) (ks.set j ⟨k.time, x, y, t⟩) /\ w.Fr ((w.setCell ⟨g, off + j * 3 + 1, none⟩ x).setCell ⟨g, off + j * 3 + 2, none⟩ y) [g] := by
 have hjl := (List.getElem?_eq_some_iff.1 hj).1
 have hsl := h.sl
 rw [hn] at hsl
 have hfr : w.Fr ((w.setCell ⟨g, off + j * 3 + 1, none⟩ x).setCell ⟨g, off + j * 3 + 2, none⟩ y) [g] := ((World.Fr.refl w [g]).setCell (a := ⟨g, off + j * 3 + 1, none⟩) (.inl (by simp)) _).setCell (a := ⟨g, off + j * 3 + 2, none⟩) (.inl (by simp)) _
 have hodd : Odd w [g] := by
  rcases h.sl.2 with ⟨he, _⟩ | ⟨g', o', c', cur, he, hg, _⟩
  ·cases he
  ·cases he
   exact Odd.one hg (by decide)
 refine ⟨⟨?_, ?_⟩, hfr⟩
 ·rw [List.length_set, hn]
  have h1 := ((hsl.setAt (j * 3 + 1) (by omega) x).1.setAt (j * 3 + 2) (by omega) y).1
  have e : (((ks.flatMap Kp.cells).set (j * 3 + 1) x).set (j * 3 + 2) y) = (ks.set j ⟨k.time, x, y, t⟩).flatMap Kp.cells := by
   rw [<- cells_set ks j ⟨k.time, x, y, t⟩ hjl]
   have e0 : (ks.flatMap Kp.cells).set (j * 3) (.int .i64 k.time) = ks.flatMap Kp.cells := by
    apply List.ext_getElem?
    intro i
    rw [List.getElem?_set]
    by_cases hi : j * 3 = i
    ·subst hi
     rw [if_pos rfl, (flat3 hj).1, if_pos (by rw [cells_len]; omega)]
    ·rw [if_neg hi]
   rw [e0]
  rw [e] at h1
  exact h1
 ·intro q hq
  rcases List.mem_or_eq_of_mem_set hq with hq | rfl
  ·exact (h.tab q hq).fr hfr hodd
  ·exact ht.fr hfr hodd
end
section
open Go.RowKit
theorem rows_le (l m : List Row) (h1 : l.Nodup) (h2 : ∀ x, x ∈ l -> x ∈ m) : l.length <= m.length := by classical exact nodup_le' l m h1 h2
theorem union_small {cf : V -> V -> Int} (hO : OrdOk okW cf) {a b : Tb} (ha : Good cf a) (hb : Good cf b) (hv : a.vars = b.vars) : Good cf (unionT cf a b).2 /\ (unionT cf a b).2.vars = a.vars /\ (unionT cf a b).2.rows.length <= a.rows.length + b.rows.length /\ ∀ r, r ∈ (unionT cf a b).2.rows ↔ r ∈ a.rows ∨ r ∈ b.rows := by
 obtain ⟨u, e, hu, hw, hm⟩ := unionT_like hO ha hb hv
 rw [e]
 refine ⟨hu, hw, ?_, hm⟩
 have h1 := rows_le u.rows (a.rows ++ b.rows) (rows_nodup hO hu) (fun r hr => by rw [List.mem_append]; exact (hm r).1 hr)
 simpa using h1
theorem anti_small {cf : V -> V -> Int} (hO : OrdOk okW cf) {a b : Tb} (ha : Good cf a) (hb : Good cf b) : Good cf (antiT cf a b).2 /\ (antiT cf a b).2.vars = a.vars /\ (antiT cf a b).2.rows.length <= a.rows.length := by
 obtain ⟨u, e, hu, hw, hm⟩ := antiT_good hO ha hb
 rw [e]
 refine ⟨hu, hw, ?_⟩
 exact rows_le u.rows a.rows (rows_nodup hO hu) (fun r hr => ((hm r).1 hr).1)
theorem join_small {cf : V -> V -> Int} (hO : OrdOk okW cf) {a b : Tb} (ha : Good cf a) (hb : Good cf b) (hs : ∀ s, s ∈ b.vars -> s ∈ a.vars) : Good cf (joinT cf a b).2 /\ (joinT cf a b).2.vars = a.vars /\ (joinT cf a b).2.rows.length <= a.rows.length /\ ∀ r, r ∈ (joinT cf a b).2.rows ↔ r ∈ a.rows /\ pick a.vars r b.vars ∈ b.rows := by
 have hall : ∀ s, s ∈ allN a b ↔ s ∈ a.vars := fun s => by rw [allN_mem]; exact ⟨fun h => h.elim id (hs s), .inl⟩
 have hlen : (allN a b).length = a.vars.length := names_len (allN_nodup ha hb) ha.nd hall
 have h8 : (allN a b).length <= 8 := by rw [hlen]; exact ha.len
 rw [joinT_good ha hb, if_neg (by omega)]
 have hg := join_good ha hb hO h8
 have hmv : ∀ s, s ∈ (joinTab cf a b).vars ↔ s ∈ a.vars := fun s => by rw [join_vars]; exact ⟨fun h => h.elim id (hs s), .inl⟩
 have hv : (joinTab cf a b).vars = a.vars := names_one hg.up ha.up hmv
 have hm : ∀ r, r ∈ (joinTab cf a b).rows ↔ r ∈ a.rows /\ pick a.vars r b.vars ∈ b.rows := fun r => by
  rw [join_mem ha hb hO, hv]
  constructor
  ·rintro ⟨h1, h2, h3⟩
   rw [pick_own ha.nd h1] at h2
   exact ⟨h2, h3⟩
  ·rintro ⟨h1, h2⟩
   have hl := ha.row r h1
   exact ⟨hl, by rw [pick_own ha.nd hl]; exact h1, h2⟩
 exact ⟨hg, hv, rows_le _ _ (rows_nodup hO hg) (fun r hr => ((hm r).1 hr).1), hm⟩
noncomputable def heldAll (cf : V -> V -> Int) (S : PS) (a : Tb) : List (Int × Tb) := if S.parts = 1 then S.waits.map Kp.tt else (S.waits.map Kp.tt).map (holdK cf S.nt a)
def goneX (i : Iv) (n : Int) (x : Int × Tb) : Bool := (!i.op && decide (i.hi < n - x.1)) || (x.2.rows.length == 0)
noncomputable def sinceW (cf : V -> V -> Int) (S : PS) (a t : Tb) (n : Int) : List (Int × Tb) := (heldAll cf S a ++ [(n, t)]).filter fun x => !goneX S.i n x
noncomputable def sinceO (cf : V -> V -> Int) (i : Iv) (n : Int) (e : Tb) (l : List (Int × Tb)) : Tb := l.foldl (fun o x => if inB (n - x.1) i then (unionT cf o x.2).2 else o) e
theorem hold_small {cf : V -> V -> Int} (hO : OrdOk okW cf) {nt : Bool} {k a : Tb} (hk : Good cf k) (ha : Good cf a) (hs : ∀ s, s ∈ a.vars -> s ∈ k.vars) : Good cf (holdT cf nt k a) /\ (holdT cf nt k a).vars = k.vars /\ (holdT cf nt k a).rows.length <= k.rows.length := by
 cases nt with
 | true => exact anti_small hO hk ha
 | false =>
  obtain ⟨h1, h2, h3, _⟩ := join_small hO hk ha hs
  exact ⟨h1, h2, h3⟩
theorem sinceW_good {cf : V -> V -> Int} (hO : OrdOk okW cf) {S : PS} {a t : Tb} {n : Int} (h : POk cf S) (ha : Good cf a) (hs : S.parts = 2 -> ∀ s, s ∈ a.vars -> s ∈ S.right) (ht : Good cf t) (hv : t.vars = S.right) (hm : t.rows.length <= 600) :
  ∀ x, x ∈ sinceW cf S a t n -> Good cf x.2 /\ x.2.vars = S.right /\ x.2.rows.length <= 600 := fun x hx => by
 rcases List.mem_append.1 (List.mem_filter.1 hx).1 with hx | hx
 ·unfold heldAll at hx
  split at hx
  ·obtain ⟨k, hk, rfl⟩ := List.mem_map.1 hx
   exact h.good k hk
  ·rename_i hp
   rw [List.map_map] at hx
   obtain ⟨k, hk, rfl⟩ := List.mem_map.1 hx
   obtain ⟨g1, g2, g3⟩ := h.good k hk
   have h2 := h.parts.resolve_left hp
   obtain ⟨q1, q2, q3⟩ := hold_small hO (nt := S.nt) g1 ha (fun s hs' => by rw [g2]; exact hs h2 s hs')
   exact ⟨q1, q2.trans g2, Nat.le_trans q3 g3⟩
 ·simp at hx
  subst hx
  exact ⟨ht, hv, hm⟩
theorem sinceO_good {cf : V -> V -> Int} (hO : OrdOk okW cf) {i : Iv} {n : Int} (l : List (Int × Tb)) : ∀ e : Tb, Good cf e -> (∀ x, x ∈ l -> Good cf x.2 /\ x.2.vars = e.vars /\ x.2.rows.length <= 600) -> Good cf (sinceO cf i n e l) /\ (sinceO cf i n e l).vars = e.vars /\ (sinceO cf i n e l).rows.length <= e.rows.length + l.length * 600 := by
 induction l with
 | nil => intro e he _; exact ⟨he, rfl, by simp [sinceO]⟩
 | cons x r ih =>
  intro e he hx
  obtain ⟨h1, h2, h3⟩ := hx x (by simp)
  unfold sinceO
  rw [List.foldl_cons]
  by_cases hin : inB (n - x.1) i = true
  ·rw [if_pos hin]
   obtain ⟨u1, u2, u3, _⟩ := union_small hO he h1 h2.symm
   obtain ⟨q1, q2, q3⟩ := ih _ u1 (fun y hy => by
    obtain ⟨k1, k2, k3⟩ := hx y (by simp [hy])
    exact ⟨k1, by rw [u2]; exact k2, k3⟩)
   refine ⟨q1, q2.trans u2, Nat.le_trans q3 ?_⟩
   rw [List.length_cons, Nat.succ_mul]
   generalize r.length * 600 = N
   omega
  ·rw [if_neg hin]
   obtain ⟨q1, q2, q3⟩ := ih e he (fun y hy => hx y (by simp [hy]))
   refine ⟨q1, q2, Nat.le_trans q3 ?_⟩
   rw [List.length_cons, Nat.succ_mul]
   generalize r.length * 600 = N
   omega
theorem sinceO_step {cf : V -> V -> Int} {i : Iv} {n : Int} {e : Tb} {l : List (Int × Tb)} {j : Nat} {x : Int × Tb} (hj : l[j]? = some x) : sinceO cf i n e (l.take (j + 1)) = if inB (n - x.1) i then (unionT cf (sinceO cf i n e (l.take j)) x.2).2 else sinceO cf i n e (l.take j) := by
 have hlt := (List.getElem?_eq_some_iff.1 hj).1
 unfold sinceO
 rw [List.take_succ_eq_append_getElem hlt, (List.getElem?_eq_some_iff.1 hj).2, List.foldl_append]
 rfl
end
end Go.Proofs.YtbejmdlncnkaaaaGreat
