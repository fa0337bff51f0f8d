/-
  The walk of table.made. The walks of table.Of, Empty, True.
-/
import Derived.Test.YtbejmdlncnkaaaaGreatTbs
import Derived.Laws.MakeOwn
set_option maxRecDepth 100000
set_option maxHeartbeats 16000000
set_option linter.unusedSimpArgs false
namespace Go.Proofs.YtbejmdlncnkaaaaGreat
section
open Go.RowKit
structure MV (W4 wr : World) (b4 : Nat) (va : Value) (xs : List Value) : Prop where
 box : wr.heap[b4]? = some (.cells #[va, .slice none 0 0] 34 (0, 0))
 sl : wr.Sl 9 1 va xs.length xs
 new : ∀ k, k ∈ va.blk -> W4.heap.size <= k
 fr : W4.Fr wr [b4]
theorem apart {w : World} {e e' : TypeId} {s s' n n' : Nat} {v v' : Value} {xs xs' : List Value} (h : w.Sl e s v n xs) (h' : w.Sl e' s' v' n' xs') (hne : e ≠ e') : ∀ k, k ∈ v.blk -> k ∉ v'.blk := by
 intro k hk hk'
 rcases h.2 with ⟨rfl, _⟩ | ⟨g, off, cap, cur, rfl, hg, _⟩
 ·simp [Value.blk] at hk
 rcases h'.2 with ⟨rfl, _⟩ | ⟨g', off', cap', cur', rfl, hg', _⟩
 ·simp [Value.blk] at hk'
 simp [Value.blk] at hk hk'
 subst hk
 subst hk'
 rw [hg] at hg'
 injection hg' with hg'
 injection hg' with _ he
 exact hne he
structure OwnTab (w w' : World) (v : Value) (t : Tb) : Prop where
 ex : ∃ a b hs, v = .agg #[a, b] /\ w'.Sl 9 1 a t.vars.length (t.vars.map Value.string) /\ w'.Sl 81 1 b hs.length hs /\ hs.length = t.rows.length /\
  (∀ k, k ∈ a.blk -> w.heap.size <= k) /\ (∀ k, k ∈ b.blk -> w.heap.size <= k) /\
  (∀ (i : Nat) (hv : Value) (r : Row), hs[i]? = some hv -> t.rows[i]? = some r -> w'.Sl 83 4 hv r.length (r.flatMap V.enc) /\ ∀ k, k ∈ hv.blk -> w.heap.size <= k)
 wf : (∀ s, s ∈ t.vars -> s.size <= 9223372036854775807) /\ ∀ r, r ∈ t.rows -> ∀ v, v ∈ r -> v.wf
 fr : w.Fr w' []
theorem OwnRow.still {w w1 w2 : World} {v : Value} {r : Row} (h : OwnRow w w1 v r) (hf : w1.Fr w2 []) : OwnRow w w2 v r := ⟨h.sl.fr hf (by simp), h.new, h.fr.trans hf (by simp)⟩
theorem OwnRow.appended {w w1 w2 : World} {v : Value} {r : Row} (h : OwnRow w w1 v r) {y : V} {g off c : Nat} (hs : w2.Sl 83 4 (.slice (some ⟨g, off, none⟩) (r.length + 1) c) (r.length + 1) (r.flatMap V.enc ++ V.enc y)) (hf : w1.Fr w2 v.blk) (hg : g ∈ v.blk ∨ g = w1.heap.size) :
  OwnRow w w2 (.slice (some ⟨g, off, none⟩) (r.length + 1) c) (r ++ [y]) := by
 refine ⟨by simpa using hs, fun k hk => ?_, h.fr.trans hf (fun j hj => .inr (h.new j hj))⟩
 simp [Value.blk] at hk
 subst hk
 exact hg.elim (h.new _) (fun hg => by have := h.fr.size; omega)
theorem sl_box {w : World} {e : TypeId} {s n : Nat} {v : Value} {xs : List Value} {b : Nat} {cs : Array Value} {t : TypeId} (h : w.Sl e s v n xs) (hb : w.heap[b]? = some (.cells cs t (0, 0))) (hne : e ≠ t) : ∀ k, k ∈ v.blk -> k ≠ b := by
 intro k hk he
 subst he
 rcases h.2 with ⟨rfl, _⟩ | ⟨g, off, cap, cur, rfl, hg, _⟩
 ·simp [Value.blk] at hk
 simp [Value.blk] at hk
 subst hk
 rw [hg] at hb
 injection hb with hb
 injection hb with _ he
 exact hne he
theorem infoH : (Tryz.prog.info? 81).map (fun i => (i.zero, i.size, i.bytes)) = some (some (.slice none 0 0), 1, 24) := by kernel_rfl
structure RV (W wr : World) (b4 : Nat) (va vb : Value) (hs : List Value) (rows : List Row) : Prop where
 box : wr.heap[b4]? = some (.cells #[va, vb] 34 (0, 0))
 sl : wr.Sl 81 1 vb hs.length hs
 len : hs.length = rows.length
 new : ∀ k, k ∈ vb.blk -> W.heap.size <= k
 row : ∀ (i : Nat) (hv : Value) (r : Row), hs[i]? = some hv -> rows[i]? = some r -> wr.Sl 83 4 hv r.length (r.flatMap V.enc) /\ ∀ k, k ∈ hv.blk -> W.heap.size <= k
 fr : W.Fr wr [b4]
theorem hO_box {W w w' : World} {b4 : Nat} {va vb v : Value} {hs : List Value} {rows : List Row} {r : Row} (h : RV W w b4 va vb hs rows) (ho : OwnRow w w' v r) : w'.heap[b4]? = some (.cells #[va, vb] 34 (0, 0)) := ho.fr.heap h.box (by simp)
theorem RV.push {W w w1 w2 : World} {b4 g off c : Nat} {va vb v : Value} {hs : List Value} {rows : List Row} {r : Row} (h : RV W w b4 va vb hs rows) (ho : OwnRow w w1 v r)
  (hs2 : w2.Sl 81 1 (.slice (some ⟨g, off, none⟩) (hs.length + 1) c) (hs.length + 1) (hs ++ [v])) (hf : w1.Fr w2 vb.blk) (hg : g ∈ vb.blk ∨ w1.heap.size <= g) :
  RV W (w2.setCell ⟨b4, 1, none⟩ (.slice (some ⟨g, off, none⟩) (hs.length + 1) c)) b4 va (.slice (some ⟨g, off, none⟩) (hs.length + 1) c) (hs ++ [v]) (rows ++ [r]) := by
 have hbox1 := hO_box h ho
 have hb4 : b4 ∉ vb.blk := fun hk => sl_box h.sl h.box (by decide) b4 hk rfl
 have hbox2 := hf.heap hbox1 hb4
 have hgb : g ≠ b4 := by
  rcases hg with h1 | h1
  ·exact fun e => hb4 (e ▸ h1)
  ·have := lt_of_heap hbox1; omega
 have hWw := h.fr.size
 have hww := ho.fr.size
 refine ⟨heap_set_same hbox2 1 _, ?_, by simp [h.len], fun k hk => ?_, fun i hv x h1 h2 => ?_, ?_⟩
 ·have := hs2.setCell (a := ⟨b4, 1, none⟩) (by simp [Value.blk]; exact fun e => hgb e.symm) (.slice (some ⟨g, off, none⟩) (hs.length + 1) c)
  simpa using this
 ·simp [Value.blk] at hk
  subst hk
  rcases hg with h1 | h1
  ·exact h.new _ h1
  ·omega
 ·have hold : ∀ y : Row, (w1.Sl 83 4 hv y.length (y.flatMap V.enc)) -> (w2.setCell ⟨b4, 1, none⟩ (.slice (some ⟨g, off, none⟩) (hs.length + 1) c)).Sl 83 4 hv y.length (y.flatMap V.enc) := fun y hy => by
   have a1 := apart hy (h.sl.fr ho.fr (by simp)) (by decide)
   exact (hy.fr hf a1).setCell (a := ⟨b4, 1, none⟩) (fun hk => sl_box hy hbox1 (by decide) b4 hk rfl) _
  rcases Nat.lt_or_ge i hs.length with hi | hi
  ·rw [List.getElem?_append_left hi] at h1
   rw [List.getElem?_append_left (by rw [<- h.len]; exact hi)] at h2
   obtain ⟨b1, b2⟩ := h.row i hv x h1 h2
   exact ⟨hold x (b1.fr ho.fr (by simp)), b2⟩
  ·rw [List.getElem?_append_right hi] at h1
   rw [List.getElem?_append_right (by rw [<- h.len]; exact hi)] at h2
   have hi0 : i - hs.length = 0 := by
    have := (List.getElem?_eq_some_iff.1 h1).1
    simp at this; omega
   rw [hi0] at h1
   rw [<- h.len, hi0] at h2
   simp at h1 h2
   subst h1 h2
   exact ⟨hold _ ho.sl, fun k hk => by have := ho.new k hk; omega⟩
 ·exact ((h.fr.trans ho.fr (by simp)).trans hf (fun k hk => .inr (h.new k hk))).setCell (by simp) _
theorem zip_fst {hs : List Value} {rows : List Row} (h : hs.length = rows.length) : (hs.zip rows).map (·.1) = hs := List.map_fst_zip (by omega)
theorem zip_snd {hs : List Value} {rows : List Row} (h : hs.length = rows.length) : (hs.zip rows).map (·.2) = rows := List.map_snd_zip (by omega)
theorem RV.pairs {okv : V -> Prop} {W w : World} {b4 : Nat} {va vb : Value} {hs : List Value} {rows : List Row} (h : RV W w b4 va vb hs rows) (hok : ∀ r, r ∈ rows -> ∀ x, x ∈ r -> okv x /\ x.wf) (hl : ∀ r, r ∈ rows -> r.length <= 8) :
  ∀ p, p ∈ hs.zip rows -> HdRow okv w vb.blk p /\ w.Sl 83 4 p.1 p.2.length (p.2.flatMap V.enc) /\ (∀ k, k ∈ p.1.blk -> W.heap.size <= k) /\ ∀ x, x ∈ p.2 -> x.wf := by
 intro p hp
 obtain ⟨i, hi⟩ := List.getElem?_of_mem hp
 rw [List.getElem?_zip_eq_some] at hi
 obtain ⟨h1, h2⟩ := h.row i p.1 p.2 hi.1 hi.2
 have hm := List.mem_of_getElem? hi.2
 exact ⟨⟨⟨h1.rd, fun x hx => (hok _ hm x hx).2⟩, fun k hk => apart h1 h.sl (by decide) k (Value.rblk_sub hk), fun x hx => (hok _ hm x hx).1, by have := hl _ hm; omega⟩, h1, h2, fun x hx => (hok _ hm x hx).2⟩
theorem keep_sub : ∀ (l : List HR) (p : Option Row) (x : HR), x ∈ keep p l -> x ∈ l
 | [], _, _, h => by cases h
 | a :: t, p, x, h => by
  unfold keep at h
  split at h
  ·exact List.mem_cons_of_mem _ (keep_sub t _ x h)
  ·rcases List.mem_cons.1 h with rfl | h
   ·simp
   ·exact List.mem_cons_of_mem _ (keep_sub t _ x h)
abbrev nmS (l : List BA) (os : List (Fin l.length)) : List Value := os.map fun x => Value.string l[x]
theorem sort99' {w : World} {v v2 : Value} {l : List BA} (hl : l.length <= 8796093021952) (h : w.Sl 3 1 v l.length ((List.finRange l.length).map encP)) (hr : RdStr w v2 l) (cb : Nat) (hb : w.heap[cb]? = some (.cells #[v2] 24 (0, 0))) (hcb : cb ∉ v.blk) (hv2 : ∀ k, k ∈ v2.rblk -> k ∉ v.blk) :
  Calls Tryz.prog 161 #[v, .func (.func 162) #[] #[.pointer (some ⟨cb, 0, none⟩)]] w fun e w' => e = .returned (.tuple #[]) /\ ∃ os : List (Fin l.length), os.Perm (List.finRange l.length) /\ (os.Pairwise fun x y => ltS l[y] l[x] = false) /\ w'.Sl 3 1 v l.length (os.map encP) /\ w.Fr w' v.blk := by
 by_cases h0 : l.length = 0
 ·obtain ⟨a, c, rfl, _, _⟩ := h.shape
  have hc := Tryz.slices_SortFunc_none (α := Nat) a c (.func (.func 162) #[] #[.pointer (some ⟨cb, 0, none⟩)]) w
  have e0 : (Value.slice a 0 c) = Value.slice a l.length c := by rw [h0]
  rw [e0] at hc
  refine hc.mono fun e w' ⟨he, hw⟩ => ⟨he, List.finRange l.length, List.Perm.refl _, ?_, ?_, ?_⟩
  ·have : List.finRange l.length = [] := List.eq_nil_of_length_eq_zero (by simpa using h0)
   rw [this]; exact List.Pairwise.nil
  ·subst hw; exact h
  ·subst hw; exact World.Fr.refl _ _
 ·exact sort99 (by omega) hl h hr cb hb hcb hv2
theorem made73 {okv : V -> Prop} {cf : V -> V -> Int} (hK : CmpOk okv cf) (hO : OrdOk okv cf) {w : World} {v1 v2 : Value} {l : List BA} {rs : List Row} {hs : List Value} (h1 : RdStr w v1 l) (h2 : RdRows w v2 rs hs) (hl : l.length <= 8) (hm : rs.length <= 5864062014634) (hw : ∀ r, r ∈ rs -> r.length = l.length) (hok : ∀ r, r ∈ rs -> ∀ x, x ∈ r -> okv x) (hu : l.Nodup) :
  Calls Tryz.prog 107 #[v1, v2] w fun e w' => ∃ v, e = .returned v /\ OwnTab w w' v (madeT cf l rs) := by
 obtain ⟨a1, c1, rfl, _, _⟩ := h1.rd.shape
 obtain ⟨a2, c2, rfl, _, _⟩ := h2.rd.shape
 have hlen := h2.len
 rw [hlen] at h2 ⊢
 clear hlen
 obtain ⟨i0, hi, hz0, hz1, hz2⟩ := info_parts infoI
 have hmk : ∀ W, (Instr.makeSlice 157 (.int .i64 (l.length : Int)) (.int .i64 (l.length : Int))).run Tryz.prog W = .ok (.slice (some ⟨W.heap.size, 0, none⟩) l.length l.length) (W.alloc (.cells (madeCells #[.int .i64 0] l.length) 3)) := fun W => by
  have := run_make (P := Tryz.prog) W 157 3 i0 (.int .i64 0) Tryz.underlying157 hi hz0 .i64 .i64 (l.length : Int) (l.length : Int) (by omega) (Int.le_refl _) (by rw [hz2]; omega) (by omega)
  simp only [Int.toNat_natCast, hz1, Nat.mul_one] at this
  exact this
 have H1 := Hz h1; have H2 := Hz h2; have Hl := Hz hl; have Hm := Hz hm; have Hw := Hz hw; have HK := Hz hK; have HO := Hz hO; have Hok := Hz hok; have Hu := Hz hu; clear h1 h2 hl hm hw hK hO hok hu
 go_enter Tryz.func107, Tryz.ntmps107
 go_upto_region 2 with (fail)
 clear hmk
 generalize hW : World.alloc (World.alloc (World.alloc w _) _) _ = W
 have q1 : W.heap[w.heap.size]? = some (.cells #[.slice a1 l.length c1] 24 (0, 0)) := by rw [<- hW]; exact heap_alloc_some (heap_alloc_some (heap_alloc_at _ _ _ rfl) _) _
 have q2 : W.heap[w.heap.size + 1]? = some (.cells #[.slice none 0 0, .slice none 0 0] 34 (0, 0)) := by rw [<- hW]; exact heap_alloc_some (heap_alloc_at _ _ _ (by simp)) _
 have q3 : w.Fr W [] := by rw [<- hW]; exact (((World.Fr.refl w []).alloc _).alloc _).alloc _
 have q4 : W.Sl 3 1 (.slice (some ⟨w.heap.size + 1 + 1, 0, none⟩) l.length l.length) l.length (madeCells #[.int .i64 0] l.length).toList := by
  rw [<- hW]
  have := World.Sl.lit (((w.alloc (.cells #[.slice a1 l.length c1] 24)).alloc (.cells #[.slice none 0 0, .slice none 0 0] 34))) 3 (madeCells #[.int .i64 0] l.length) l.length 1 (by have := Hl.out; unfold maxLen; omega) (by simp [size_madeCells])
  simpa using this
 have hZ : (madeCells #[.int .i64 0] l.length).toList.length = l.length := by simp [size_madeCells]
 generalize (madeCells #[.int .i64 0] l.length).toList = Z at *
 clear hW
 have hg5 : w.heap.size + 1 + 1 < W.heap.size := q4.lt _ (by simp [Value.blk])
 generalize hB1 : w.heap.size = b1 at *
 generalize hB2 : b1 + 1 = b2 at *
 generalize hB3 : b2 + 1 = b3 at *
 have HB := Hz (show b1 ≠ b2 /\ b1 ≠ b3 /\ b2 ≠ b3 by omega)
 have HB1 := Hz (show w.heap.size < b2 /\ w.heap.size < b3 /\ b1 = w.heap.size by omega)
 clear hB1 hB2 hB3 hg5
 have Q1 := Hz q1; have Q2 := Hz q2; have Q3 := Hz q3; have Q4 := Hz q4; have HZ := Hz hZ; clear q1 q2 q3 q4 hZ
 go_wp2
 go_loopw [20] (fun i wr => ∃ j : Nat, i = .int .i64 j /\ j <= l.length /\ Hid (wr.Sl 3 1 (.slice (some ⟨b3, 0, none⟩) l.length l.length) l.length (((List.finRange l.length).map encP).take j ++ Z.drop j)) /\ Hid (W.Fr wr [b3])) (fun i _ => (l.length - intOf i).toNat)
 case atStart => exact ⟨0, rfl, Nat.zero_le _, by simpa using Q4, Hz (World.Fr.refl _ _)⟩
 case round =>
  obtain ⟨j, rfl, hj, HS, HF⟩ := hrel
  by_cases hlt : j < l.length
  ·have hjI : (j : Int) < (l.length : Int) := by omega
   have hw1 : IntKind.i64.wrap ((j : Int) + 1) = (j : Int) + 1 := IntWalk.i64_in _ (by have := Hl.out; omega)
   have hfree : ∀ z, wr.frozen? ⟨b3, z, none⟩ = false := fun z => HS.out.free z
   have hTl : (((List.finRange l.length).map encP).take j).length = j := by simp; omega
   obtain ⟨z0, hz0'⟩ : ∃ y, wr.cell? ⟨b3, 0 + j, none⟩ = some y := by
    have := HS.out.cells rfl j (by omega)
    have hxl := HS.out.len
    rw [List.getElem?_eq_getElem (by rw [hxl]; omega)] at this
    exact ⟨_, this⟩
   have hz1' : wr.cell? ⟨b3, j, none⟩ = some z0 := by rw [Nat.zero_add] at hz0'; exact hz0'
   have hset := HS.out.set j hlt (.int .i64 (j : Int))
   have hcs := cells_step (((List.finRange l.length).map encP).take j) Z (.int .i64 (j : Int)) (by rw [hTl, HZ.out]; exact hlt)
   rw [hTl] at hcs
   have hnx : ((List.finRange l.length).map encP).take (j + 1) = ((List.finRange l.length).map encP).take j ++ [.int .i64 (j : Int)] := by
    rw [List.take_succ_eq_append_getElem (by simpa using hlt)]
    simp
   rw [hcs, <- hnx, Nat.zero_add] at hset
   have Hset := Hz hset; clear hset hcs hnx hTl hz0'
   go_wp2
   go_roundw
   case rel => exact ⟨j + 1, by go_num, by omega, Hz Hset.out.1, Hz (HF.out.trans Hset.out.2 (by simp))⟩
   case measure => simp [intOf]; omega
  ·have hd : decide ((j : Int) < (l.length : Int)) = false := decide_eq_false (by omega)
   have hd2 : decide (j < l.length) = false := decide_eq_false hlt
   obtain rfl : j = l.length := by omega
   have hS : wr.Sl 3 1 (.slice (some ⟨b3, 0, none⟩) l.length l.length) l.length ((List.finRange l.length).map encP) := by
    have := HS.out
    rw [List.take_of_length_le (by simp), List.drop_of_length_le (by rw [HZ.out]; exact Nat.le_refl _), List.append_nil] at this
    exact this
   have hvl : ∀ k, k ∈ (Value.slice a1 l.length c1).rblk -> k ∉ (Value.slice (some ⟨b3, 0, none⟩) l.length l.length).blk := fun k hk hk2 => by
    have := H1.out.rd.lt k hk
    have e := HB1.out.2.1
    simp [Value.blk] at hk2
    omega
   have hfr0 := Q3.out.trans HF.out (fun j hj => .inr (by simp at hj; subst hj; have := HB1.out.2.1; omega))
   have hc := sort99' (by have := Hl.out; omega) hS (H1.out.fr hfr0 (by simp)) b1 (HF.out.heap Q1.out (by simpa using HB.out.2.1)) (by simpa [Value.blk] using HB.out.2.1) hvl
   have Hc := Hz hc; have Hfr0 := Hz hfr0; clear hc hfr0 hvl hS HS hlt hj
   go_wp2_with fail
   refine Hc.out.mono ?_
   rintro e w2 ⟨rfl, os, hperm, hsrt, hso, hf2⟩
   have hol : os.length = l.length := by have := hperm.length_eq; simpa using this
   have hfr2 : w.Fr w2 [] := Hfr0.out.trans hf2 (fun j hj => .inr (by simp [Value.blk] at hj; subst hj; have := HB1.out.2.1; omega))
   have q1 := hf2.heap (HF.out.heap Q1.out (by simpa using HB.out.2.1)) (by simpa [Value.blk] using HB.out.2.1)
   have q2 := hf2.heap (HF.out.heap Q2.out (by simpa using HB.out.2.2)) (by simpa [Value.blk] using HB.out.2.2)
   have Hol := Hz hol; have Hperm := Hz hperm; have Hsrt := Hz hsrt; have Hso := Hz hso; have Hfr2 := Hz hfr2; have Q1' := Hz q1; have Q2' := Hz q2
   clear hol hperm hsrt hso hfr2 q1 q2 hf2 Hc HF Q1 Q2 Q3 Q4 Hfr0
   go_upto_region 9 with (fail)
   generalize hW4 : World.alloc w2 _ = W4
   have q4 : W4.heap[w2.heap.size]? = some (.cells #[.slice none 0 0, .slice none 0 0] 34 (0, 0)) := by rw [<- hW4]; exact heap_alloc_at _ _ _ rfl
   have q5 : w2.Fr W4 [] := by rw [<- hW4]; exact (World.Fr.refl _ _).alloc _
   have q6 : W4.heap.size = w2.heap.size + 1 := by rw [<- hW4]; simp
   clear hW4
   have hb4 : w2.heap.size < W4.heap.size := by omega
   generalize hb4e : w2.heap.size = b4 at *
   have hs1 : b1 ≠ b4 /\ b3 ≠ b4 /\ b1 < b4 /\ b3 < b4 := by
    have e1 := lt_of_heap Q1'.out
    have e3 := Hso.out.lt b3 (by simp [Value.blk])
    omega
   have HM0 : Hid (MV W4 W4 b4 (.slice none 0 0) []) := Hz ⟨q4, World.Sl.nil _ _ _, by simp [Value.blk], World.Fr.refl _ _⟩
   have Hs2 := Hz (show b2 < b4 by have := lt_of_heap Q2'.out; omega)
   have Q6 := Hz (q5.heap Q2'.out (by simp))
   have Q4' := Hz (Q1'.out); have Q5 := Hz (q5.heap Q1'.out (by simp)); have Hso4 := Hz (Hso.out.fr q5 (by simp)); have Hf4 := Hz (Hfr2.out.trans q5 (by simp)); have Hs1 := Hz hs1; have Hb4W := Hz hb4
   clear q4 q5 q6 hb4 hb4e hs1
   go_wp2
   go_loopw [33] (fun i wr => ∃ (j : Nat) (va : Value), i = .int .i64 j /\ j <= l.length /\ Hid (MV W4 wr b4 va ((os.take j).map fun x => Value.string l[x]))) (fun i _ => (l.length - intOf i).toNat)
   case atStart => exact ⟨0, _, rfl, Nat.zero_le _, HM0⟩
   case round =>
    obtain ⟨j, va, rfl, hj, HM⟩ := hrel
    obtain ⟨ta, tc, rfl, _, _⟩ := HM.out.sl.shape
    have hxl : ((os.take j).map fun x => Value.string l[x]).length = j := by simp; have := Hol.out; omega
    by_cases hlt : j < l.length
    ·obtain ⟨x, hx⟩ : ∃ x, os[j]? = some x := ⟨os[j]'(by have := Hol.out; omega), List.getElem?_eq_getElem (by have := Hol.out; omega)⟩
     obtain ⟨xi, hxi⟩ := x
     have hjI : (j : Int) < (l.length : Int) := by omega
     have hxiI : (xi : Int) < (l.length : Int) := by omega
     have hxm : l[xi]? = some l[xi] := List.getElem?_eq_getElem hxi
     have hf4 := Hf4.out.trans HM.out.fr (fun k hk => .inr (by simp at hk; subst hk; have := HB1.out.2.2; have := Hs1.out; omega))
     obtain ⟨g, off, c, hv, hg, kx⟩ := (H1.out.fr hf4 (by simp)).at hxm
     cases hv
     have kb := one1 (HM.out.fr.heap Q5.out (by simpa using Hs1.out.1))
     obtain ⟨p0, p1, pf⟩ := two HM.out.box
     have ko := ((Hso4.out.fr HM.out.fr (by simpa [Value.blk] using Hs1.out.2.1)).cells rfl j (by omega))
     rw [List.getElem?_map, hx, Nat.zero_add] at ko
     simp only [Option.map_some] at ko
     change wr.cell? ⟨b3, j, none⟩ = some (.int .i64 (xi : Int)) at ko
     have hw1 : IntKind.i64.wrap ((j : Int) + 1) = (j : Int) + 1 := IntWalk.i64_in _ (by have := Hl.out; omega)
     have hsn : (os.take (j + 1)).map (fun x => Value.string l[x]) = (os.take j).map (fun x => Value.string l[x]) ++ [Value.string l[xi]] := by
      rw [List.take_succ_eq_append_getElem (by have := Hol.out; omega), (List.getElem?_eq_some_iff.1 hx).2]
      simp
     have Hsn := Hz hsn; have Hxl := Hz hxl
     rw [hxl] at p0
     clear hsn hxm hf4 hx hxl
     generalize l[xi] = y at *
     generalize (os.take j).map (fun x => Value.string l[x]) = xs at *
     go_upto_region 12 with (fail)
     have hl40 : b4 < wr.heap.size := lt_of_heap HM.out.box
     have hl10 : b1 < wr.heap.size := by have := Hs1.out.2.2.1; omega
     have hl4 : b4 < wr.heap.size + 1 := by omega
     have hl1 : b1 < wr.heap.size + 1 := by have := Hs1.out.2.2.1; omega
     have hlg : g < wr.heap.size + 1 := by omega
     have hb4n : b4 ∉ (Value.slice ta j tc).blk := fun hk => by
      have h1' := HM.out.new b4 (by rw [Hxl.out]; exact hk)
      have h2' := HM.out.fr
      exact absurd (Hs1.out.1) (fun _ => by have := Hb4W.out; omega)
     have hslj := HM.out.sl
     rw [Hxl.out] at hslj
     obtain ⟨j0, ji, jz0, jz1, jz2⟩ := info_parts infoS
     have Hslj := Hz hslj; have Hb4n := Hz hb4n; clear hslj hb4n
     go_region_law (first | (refine step_append_one _ rfl (.tmp 38) (.tmp 43) 24 rfl 9 j0 (.string .empty) 1 16 Tryz.underlying24 ji jz0 jz1 jz2 rfl (.slice ta j tc) j xs (by simp [Act.eval]) (World.Sl.alloc Hslj.out _) wr.heap.size 1 [.string y] 9 (by simp [Act.eval]) (heap_alloc_at _ _ _ rfl) rfl rfl ⟨by have := Hl.out; omega, by have := Hl.out; omega⟩ ?_; intro g3 off3 c3 w5 hsl hfr hat hlt5; have hW1 := hfr.heap (heap_alloc_some HM.out.box _) Hb4n.out; obtain ⟨r0, r1, rf⟩ := two hW1; have HW1 := Hz hW1; have Hsl := Hz hsl; have Hfr := Hz hfr; have Hat := Hz hat; clear hW1 hsl hfr hat))
     all_goals
      have hW := heap_set_same HW1.out 0 (.slice (some ⟨g3, off3, none⟩) (j + 1) c3)
      have hne3 : g3 ≠ b4 := by
       rcases Hat.out with h | h
       ·exact fun e => Hb4n.out (e ▸ h)
       ·simp at h; omega
      have hMn : MV W4 (w5.setCell ⟨b4, 0, none⟩ (.slice (some ⟨g3, off3, none⟩) (j + 1) c3)) b4 (.slice (some ⟨g3, off3, none⟩) (j + 1) c3) (xs ++ [.string y]) := by
       have hxl2 : (xs ++ [Value.string y]).length = j + 1 := by simp [Hxl.out]
       refine ⟨hW, ?_, fun k hk => ?_, ?_⟩
       ·rw [hxl2]
        exact Hsl.out.setCell (a := ⟨b4, 0, none⟩) (by simp [Value.blk]; exact fun e => hne3 e.symm) _
       ·simp [Value.blk] at hk
        subst hk
        rcases Hat.out with h | h
        ·exact HM.out.new _ (by rw [Hxl.out]; exact h)
        ·have := HM.out.fr.size; simp at h; omega
       ·exact ((((HM.out.fr.alloc (.cells #[.string y] 9)).drew).trans Hfr.out (fun k hk => .inr (HM.out.new k (by rw [Hxl.out]; exact hk)))).setCell (by simp) _)
      rw [<- Hsn.out] at hMn
      have HMn := Hz hMn; clear hMn hW
      go_wp2
      go_roundw
      case rel => exact ⟨j + 1, _, by go_num, by omega, HMn⟩
      case measure => simp [intOf]; omega
    ·have hd : decide ((j : Int) < (l.length : Int)) = false := decide_eq_false (by omega)
     have hd2 : decide (j < l.length) = false := decide_eq_false hlt
     obtain rfl : j = l.length := by omega
     have hxs : (os.take l.length).map (fun x => Value.string l[x]) = nmS l os := by rw [List.take_of_length_le (by rw [Hol.out]; exact Nat.le_refl _)]
     have hxl2 : (nmS l os).length = l.length := by rw [List.length_map]; exact Hol.out
     have hMV : MV W4 wr b4 (.slice ta l.length tc) (nmS l os) := by
      have := HM.out
      rw [hxs, hxl2] at this
      exact this
     have HMV := Hz hMV; have Hxl2 := Hz hxl2
     clear hMV hxs hxl hxl2 hlt hj HM
     have hb4w : b4 < wr.heap.size := lt_of_heap HMV.out.box
     have hfw : w.Fr wr [] := Hf4.out.trans HMV.out.fr (fun k hk => .inr (by simp at hk; subst hk; have := HB1.out.2.2; have := Hs1.out; omega))
     have HR0 : Hid (RV wr wr b4 (.slice ta l.length tc) (.slice none 0 0) [] []) := Hz ⟨HMV.out.box, World.Sl.nil _ _ _, rfl, by simp [Value.blk], by simp, World.Fr.refl _ _⟩
     have Hord := Hz (Hso4.out.fr HMV.out.fr (by simpa [Value.blk] using Hs1.out.2.1))
     have Hb4w := Hz hb4w; have Hfw := Hz hfw
     clear hb4w hfw
     obtain ⟨iv, hiv, hv0, hv1, hv2⟩ := info_parts infoV
     have hmk : ∀ W, (Instr.makeSlice 81 (.int .i64 0) (.int .i64 (l.length : Int))).run Tryz.prog W = .ok (.slice (some ⟨W.heap.size, 0, none⟩) 0 l.length) (W.alloc (.cells (madeCells #[.int .i64 0, .int .i64 0, .int .i64 0, .string .empty] (l.length * 4)) 83)) := fun W => by
      have := run_make (P := Tryz.prog) W 81 83 iv (.agg #[.int .i64 0, .int .i64 0, .int .i64 0, .string .empty]) Tryz.underlying81 hiv hv0 .i64 .i64 0 (l.length : Int) (by omega) (by omega) (by rw [hv2]; have := Hl.out; omega) (by have := Hl.out; omega)
      simp only [Int.toNat_natCast, hv1] at this
      exact this
     have Hmk := Hz hmk; clear hmk
     go_wp2
     generalize hwR : wr = wR at *
     clear hwR wr
     go_loopw [49] (fun i wr => ∃ (j : Nat) (vb : Value) (hsn : List Value), i = .int .i64 j /\ j <= rs.length /\ Hid (RV wR wr b4 (.slice ta l.length tc) vb hsn ((rs.take j).map fun r => os.map fun x => r.getD x.1 default))) (fun i _ => (rs.length - intOf i).toNat)
     case atStart => exact ⟨0, _, [], rfl, Nat.zero_le _, HR0⟩
     case round =>
      obtain ⟨j, vb, hsn, rfl, hj, HR⟩ := hrel
      obtain ⟨xa, xc, rfl, _, _⟩ := HR.out.sl.shape
      by_cases hlt : j < rs.length
      ·obtain ⟨r, hr⟩ : ∃ r, rs[j]? = some r := ⟨rs[j], List.getElem?_eq_getElem hlt⟩
       have hrm := List.mem_of_getElem? hr
       have hrl := Hw.out r hrm
       have hbl : ∀ k, k ∈ [b4] -> k ∈ ([] : List Nat) ∨ w.heap.size <= k := fun k hk => .inr (by simp at hk; subst hk; have := HB1.out.2.2; have := Hs1.out; omega)
       have hfr := Hfw.out.trans HR.out.fr hbl
       obtain ⟨g, off, c, ax, mx, hv, hg, kx, hrow⟩ := (H2.out.still hfr).at hr
       cases hv
       rw [hrl] at kx hrow
       have hjI : (j : Int) < (rs.length : Int) := by omega
       have hw1 : IntKind.i64.wrap ((j : Int) + 1) = (j : Int) + 1 := IntWalk.i64_in _ (by have := Hm.out; omega)
       have hmk := Hmk.out
       have Hr := Hz hr; have Hrm := Hz hrm; have Hrl := Hz hrl; have Hrow := Hz hrow; have Hfr := Hz hfr; have Hg := Hz hg; have Hbl := Hz hbl
       clear hr hrm hrl hrow hfr hg hbl
       go_upto_region 18 with (fail)
       generalize hW5 : World.alloc wr _ = W5
       have q1 : W5.Sl 83 4 (.slice (some ⟨wr.heap.size, 0, none⟩) 0 l.length) 0 [] := by
        rw [<- hW5]
        exact ⟨rfl, .inr ⟨_, 0, l.length, _, rfl, heap_alloc_new _ _, Nat.zero_le _, by have := Hl.out; unfold maxLen; omega, by simp [size_madeCells], rfl⟩⟩
       have q2 : wr.Fr W5 [] := by rw [<- hW5]; exact (World.Fr.refl _ _).alloc _
       clear hW5 hmk kx
       have HO0 : Hid (OwnRow wr W5 (.slice (some ⟨wr.heap.size, 0, none⟩) 0 l.length) []) := Hz ⟨q1, by simp [Value.blk], q2⟩
       clear q1 q2
       go_wp2
       obtain ⟨wQ, rfl⟩ : ∃ wQ : World, wQ = wr := ⟨_, rfl⟩
       go_loopw [58, 12] (fun i v WY => ∃ (k : Nat), i = .int .i64 k /\ k <= l.length /\ Hid (OwnRow wQ WY v ((os.take k).map fun x => r.getD x.1 default))) (fun i _ _ => (l.length - intOf i).toNat)
       case atStart => exact ⟨0, rfl, Nat.zero_le _, HO0⟩
       case round =>
        obtain ⟨k, rfl, hk, HO⟩ := hrel
        have hkl : ((os.take k).map fun x => r.getD x.1 default).length = k := by simp; have := Hol.out; omega
        obtain ⟨ya, yc, hyv, _, _⟩ := HO.out.sl.shape
        subst hyv
        have hO := HO.out
        rw [hkl] at hO ⊢
        by_cases hkt : k < l.length
        ·obtain ⟨x, hx⟩ : ∃ x, os[k]? = some x := ⟨os[k]'(by have := Hol.out; omega), List.getElem?_eq_getElem (by have := Hol.out; omega)⟩
         have hkI : (k : Int) < (l.length : Int) := by omega
         have hw2 : IntKind.i64.wrap ((k : Int) + 1) = (k : Int) + 1 := IntWalk.i64_in _ (by have := Hl.out; omega)
         have hxI : (x.1 : Int) < (l.length : Int) := by have := x.2; omega
         have hsn : (os.take (k + 1)).map (fun x => r.getD x.1 default) = (os.take k).map (fun x => r.getD x.1 default) ++ [r.getD x.1 default] := by
          rw [List.take_succ_eq_append_getElem (by have := Hol.out; omega), (List.getElem?_eq_some_iff.1 hx).2]
          simp
         have hry : r[x.1]? = some (r.getD x.1 default) := by
          have : x.1 < r.length := by have := Hrl.out; have := x.2; omega
          rw [List.getD_eq_getElem?_getD, List.getElem?_eq_getElem this]; rfl
         have hrow3 := Hrow.out.fr hO.fr (by simp)
         obtain ⟨g2, off2, c2', hv2, hg2, ky0, ky1, ky2, ky3⟩ := hrow3.at hry
         rw [Hrl.out] at hv2
         cases hv2
         have ko := ((Hord.out.fr (HR.out.fr.trans hO.fr (by simp)) (by simpa [Value.blk] using Hs1.out.2.1)).cells rfl k (by omega))
         rw [List.getElem?_map, hx, Nat.zero_add] at ko
         simp only [Option.map_some] at ko
         change wr.cell? ⟨b3, k, none⟩ = some (.int .i64 (x.1 : Int)) at ko
         have Hsn := Hz hsn; have Hkl := Hz hkl; have HO2 := Hz hO
         clear hsn hkl hO HO hry hrow3 hx
         generalize r.getD x.1 default = y at *
         generalize (os.take k).map (fun x => r.getD x.1 default) = ys at *
         have hroom : k < 9 := by have := Hl.out; omega
         have hsly := HO2.out.sl
         rw [Hkl.out] at hsly
         have hgl : g2 < wr.heap.size + 1 := by omega
         have Hsly := Hz hsly; clear hsly
         go_wp2_with (at_builtin; refine wpList_append_one _ rfl (.tmp 62) (.tmp 67) 81 rfl 83 iv (.agg #[.int .i64 0, .int .i64 0, .int .i64 0, .string .empty]) 4 40 Tryz.underlying81 hiv hv0 hv1 hv2 rfl (.slice ya k yc) k (ys.flatMap V.enc) rfl (Hsly.out.alloc _) wr.heap.size 1 (V.enc y) 83 rfl (heap_alloc_at _ _ _ rfl) rfl rfl ⟨by omega, by omega⟩ ?_)
         intro g3 off3 c3 w5 hsl hfr3 hat hlt3
         have hown := (HO2.out.still ((World.Fr.refl wr []).alloc (.cells (V.enc y).toArray 83))).appended (y := y) (g := g3) (off := off3) (c := c3) (by rw [Hkl.out]; exact hsl) hfr3 (by simpa using hat)
         rw [Hkl.out, <- Hsn.out] at hown
         have Hown := Hz hown; clear hown hsl hfr3 hat ky0 ky1 ky2 ky3 ko hlt3
         go_wp2
         go_roundw
         case rel => exact ⟨k + 1, by go_num, by omega, Hown⟩
         case measure => simp [intOf]; omega
        ·have hd : decide ((k : Int) < (l.length : Int)) = false := decide_eq_false (by omega)
         have hd2 : decide (k < l.length) = false := decide_eq_false hkt
         obtain rfl : k = l.length := by omega
         have hP : (os.take l.length).map (fun x => r.getD x.1 default) = os.map fun x => r.getD x.1 default := by rw [List.take_of_length_le (by rw [Hol.out]; exact Nat.le_refl _)]
         rw [hP] at hO hkl
         have HRn := Hz hO; have Hkl := Hz hkl
         clear hO HO hkl hP hkt hk
         have hbox := hO_box HR.out HRn.out
         obtain ⟨p0, p1, pf⟩ := two hbox
         have Hbox := Hz hbox; clear hbox
         have hxs := HR.out.sl.fr HRn.out.fr (by simp)
         have hjh : hsn.length = j := by have := HR.out.len; rw [this]; simp; omega
         rw [hjh] at p1 hxs
         have Hxs := Hz hxs; have Hjh := Hz hjh; clear hxs hjh
         have hroom : j < 5864062014634 := by have := Hm.out; omega
         have hbl4 : b4 < wr.heap.size := lt_of_heap Hbox.out
         obtain ⟨ih, hih, hh0, hh1, hh2⟩ := info_parts infoH
         go_wp2_with (at_builtin; refine wpList_append_one _ rfl (.tmp 71) (.tmp 73) 32 rfl 81 ih (.slice none 0 0) 1 24 Tryz.underlying32 hih hh0 hh1 hh2 rfl (.slice xa j xc) j hsn rfl (Hxs.out.alloc _) wr.heap.size 1 [.slice ya l.length yc] 81 rfl (heap_alloc_at _ _ _ rfl) rfl rfl ⟨by omega, by omega⟩ ?_)
         intro g3 off3 c3 w5 hsl hfr3 hat hlt3
         have hb4n : b4 ∉ (Value.slice xa j xc).blk := fun hk => sl_box Hxs.out Hbox.out (by decide) b4 hk rfl
         have hbox5 := hfr3.heap (heap_alloc_some Hbox.out _) hb4n
         have hpush := HR.out.push (HRn.out.still ((World.Fr.refl wr []).alloc (.cells #[.slice ya l.length yc] 81))) (g := g3) (off := off3) (c := c3) (by rw [Hjh.out]; exact hsl) (by rw [Hjh.out]; exact hfr3) (by rw [Hjh.out]; rcases hat with h | h; exact .inl h; exact .inr (by simp at h ⊢; omega))
         rw [Hjh.out] at hpush
         have hsnr : (rs.take (j + 1)).map (fun r => os.map fun x => r.getD x.1 default) = (rs.take j).map (fun r => os.map fun x => r.getD x.1 default) ++ [os.map fun x => r.getD x.1 default] := by
          rw [List.take_succ_eq_append_getElem hlt, (List.getElem?_eq_some_iff.1 Hr.out).2]
          simp
         rw [<- hsnr] at hpush
         have Hpush := Hz hpush
         clear hpush hsnr hsl hfr3 hat p0 p1 pf hlt3 hb4n
         obtain ⟨p0, p1, pf⟩ := two hbox5
         have hb45 := lt_of_heap hbox5
         clear hbox5
         go_wp2
         go_roundw
         case rel => exact ⟨j + 1, _, _, by go_num, by omega, Hpush⟩
         case measure => simp [intOf]; omega
      ·have hd : decide ((j : Int) < (rs.length : Int)) = false := decide_eq_false (by omega)
       have hd2 : decide (j < rs.length) = false := decide_eq_false hlt
       obtain rfl : j = rs.length := by omega
       have hPk : (rs.take rs.length).map (fun r => os.map fun x => r.getD x.1 default) = rs.map fun r => pick l r (sortS l) := by
        rw [List.take_of_length_le (Nat.le_refl _)]
        refine List.map_congr_left fun r hr => ?_
        rw [pick_order Hu.out, order_names Hu.out Hperm.out Hsrt.out]
       have hRV := HR.out
       rw [hPk] at hRV
       have hRok : ∀ r, r ∈ (rs.map fun r => pick l r (sortS l)) -> ∀ x, x ∈ r -> okv x /\ x.wf := fun r hr x hx => by
        obtain ⟨r0, hr0, rfl⟩ := List.mem_map.1 hr
        have hm := pick_mem (fun s hs => (sortS_perm l).mem_iff.1 hs) (Hw.out r0 hr0) hx
        obtain ⟨i, hi⟩ := List.getElem?_of_mem hr0
        obtain ⟨_, _, _, _, _, _, _, _, hrow⟩ := H2.out.at hi
        exact ⟨Hok.out r0 hr0 x hm, hrow.wf x hm⟩
       have hRl : ∀ r, r ∈ (rs.map fun r => pick l r (sortS l)) -> r.length <= 8 := fun r hr => by
        obtain ⟨r0, hr0, rfl⟩ := List.mem_map.1 hr
        rw [pick_len, sortS_len]
        exact Hl.out
       have hRS : (rs.map fun r => pick l r (sortS l)).length = rs.length := by simp
       have HRok := Hz hRok; have HRl := Hz hRl; have HRS := Hz hRS; have HRV := Hz hRV
       clear hRok hRl hRS hRV hPk HR hlt hj
       generalize hRSe : (rs.map fun r => pick l r (sortS l)) = RS at *
       have HRSe := Hz hRSe; clear hRSe
       have hpairs := HRV.out.pairs HRok.out HRl.out
       have hlen := HRV.out.len
       have h1st := zip_fst hlen
       have h2nd := zip_snd hlen
       have hpl : (hsn.zip RS).length = hsn.length := by rw [<- List.length_map (f := (·.1)), h1st]
       generalize hsn.zip RS = ps at *
       have hsl0 : wr.Sl 81 1 (.slice xa hsn.length xc) ps.length (ps.map (·.1)) := by rw [h1st, hpl]; exact HRV.out.sl
       have hpsl : ps.length <= 5864062014634 := by rw [hpl, hlen, HRS.out]; exact Hm.out
       have hc := sort101 HK.out (rowOrd HO.out) ps hsl0 (fun p hp => (hpairs p hp).1) (by omega)
       obtain ⟨p0, p1, pf⟩ := two HRV.out.box
       have hb4l := lt_of_heap HRV.out.box
       have Hc := Hz hc; have Hpairs := Hz hpairs; have H2nd := Hz h2nd; have Hpsl := Hz hpsl; have Hsl0 := Hz hsl0; have Hpl := Hz hpl
       clear hc hpairs h2nd h1st hlen hpl hpsl hsl0
       go_wp2_with fail
       refine Hc.out.mono ?_
       rintro e w2 ⟨rfl, qs, hqp, hqs, hsq, hf2⟩
       have hb4n : b4 ∉ (Value.slice xa hsn.length xc).blk := fun hk => sl_box HRV.out.sl HRV.out.box (by decide) b4 hk rfl
       have hbox2 := hf2.heap HRV.out.box hb4n
       have hql := hqp.length_eq
       have hq : ∀ p, p ∈ qs -> Hr w2 (Value.slice xa hsn.length xc).blk p := fun p hp => by
        obtain ⟨k1, _⟩ := Hpairs.out p (hqp.mem_iff.1 hp)
        exact ⟨k1.rd.fr hf2 k1.off, k1.off, k1.short⟩
       have hc := compact102 qs (by rw [hql]; exact hsq) hq (by rw [hql]; have := Hpsl.out; omega)
       have Hc2 := Hz hc; have Hqp := Hz hqp; have Hqs := Hz hqs; have Hf2 := Hz hf2; have Hb4n := Hz hb4n; have Hbox2 := Hz hbox2
       clear p0 p1 pf hc hqp hqs hsq hf2 hb4n hbox2 hq hql hb4l Hc
       obtain ⟨p0, p1, pf⟩ := two Hbox2.out
       have hb4l := lt_of_heap Hbox2.out
       go_wp2_with fail
       refine Hc2.out.mono ?_
       rintro e w3 ⟨v', rfl, hs3, hb3, hf3⟩
       have hbox3 := hf3.heap Hbox2.out Hb4n.out
       obtain ⟨za, zc, rfl, _, _⟩ := hs3.shape
       generalize hQ : compactP qs = Q at *
       have Hs3 := Hz hs3; have Hb3 := Hz hb3; have Hf3 := Hz hf3; have Hbox3 := Hz hbox3; have HQ := Hz hQ
       clear p0 p1 pf hs3 hb3 hf3 hbox3 hQ hb4l Hc2
       obtain ⟨p0, p1, pf⟩ := two Hbox3.out
       have hb4l := lt_of_heap Hbox3.out
       go_upto_region 27 with (fail)
       generalize hW6 : World.setCell w3 _ _ = W6
       have q1 : W6.heap[b4]? = some (.cells #[.slice ta l.length tc, .slice za Q.length zc] 34 (0, 0)) := by rw [<- hW6]; exact heap_set_same Hbox3.out 1 _
       have hb2 : W6.heap[b2]? = some (.cells #[.slice none 0 0, .slice none 0 0] 34 (0, 0)) := by
        have hne : b2 ≠ b4 := by have := Hs2.out; omega
        have e1 := HMV.out.fr.heap Q6.out (by simpa using hne)
        have hb2v : b2 ∉ (Value.slice xa hsn.length xc).blk := fun hk => by
         have := HRV.out.new b2 hk
         have := lt_of_heap e1
         omega
        have e2 := HRV.out.fr.heap e1 (by simpa using hne)
        have e3 := Hf3.out.heap (Hf2.out.heap e2 hb2v) hb2v
        rw [<- hW6]
        exact heap_set_other e3 _ hne _
       have hfr6 : wr.Fr W6 (b4 :: (Value.slice xa hsn.length xc).blk) := by
        rw [<- hW6]
        exact (((Hf2.out.mono (fun k hk => List.mem_cons_of_mem _ hk)).trans (Hf3.out.mono (fun k hk => List.mem_cons_of_mem _ hk)) (fun k hk => .inl hk))).setCell (by simp) _
       have hs6 : W6.Sl 81 1 (.slice za Q.length zc) Q.length (Q.map (·.1)) := by
        rw [<- hW6]
        exact Hs3.out.setCell (a := ⟨b4, 1, none⟩) (fun hk => Hb4n.out (Hb3.out _ hk)) _
       clear hW6 p0 p1 pf hb4l
       obtain ⟨p0, p1, pf⟩ := two q1
       obtain ⟨r0, r1, rf⟩ := two hb2
       have hl4 := lt_of_heap q1
       have hl2 := lt_of_heap hb2
       have Q7 := Hz q1; have Q8 := Hz hb2; have Hfr6 := Hz hfr6; have Hs6 := Hz hs6
       clear q1 hb2 hfr6 hs6
       go_wp2
       generalize hWF : World.setCell (World.setCell W6 _ _) _ _ = WF
       have qf : WF.heap[b2]? = some (.cells #[.slice ta l.length tc, .slice za Q.length zc] 34 (0, 0)) := by
        rw [<- hWF]
        have := heap_set_same (heap_set_same Q8.out 0 (.slice ta l.length tc)) 1 (.slice za Q.length zc)
        simpa using this
       have hfF : W6.Fr WF [b2] := by rw [<- hWF]; exact ((World.Fr.refl W6 [b2]).setCell (by simp) _).setCell (by simp) _
       have hT : madeT cf l rs = ⟨sortS l, Q.map (·.2)⟩ := by
        unfold madeT
        rw [HRSe.out]
        have hqm : ∀ r, r ∈ qs.map (·.2) ↔ r ∈ RS := fun r => by rw [<- H2nd.out]; exact (Hqp.out.map (·.2)).mem_iff
        obtain ⟨c1, c2⟩ := compact_strict HO.out qs (fun x hx y hy => (Hpairs.out x (Hqp.out.mem_iff.1 hx)).1.ok y hy) (Hqs.out.imp fun {x y} h => by omega)
        rw [HQ.out] at c1 c2
        rw [canon_eq HO.out (fun r hr x hx => (HRok.out r hr x hx).1) (List.pairwise_map.2 c1) (fun r => by rw [c2 r, hqm r])]
       rw [hT]
       have hvar : W6.Sl 9 1 (.slice ta l.length tc) (sortS l).length ((sortS l).map Value.string) := by
        have e1 : nmS l os = (sortS l).map Value.string := by rw [<- order_names Hu.out Hperm.out Hsrt.out, List.map_map]; rfl
        have e2 := HMV.out.sl
        rw [Hxl2.out, e1] at e2
        rw [sortS_len]
        have e3 := e2.fr HRV.out.fr (fun k hk hk2 => sl_box e2 HMV.out.box (by decide) k hk (by simpa using hk2))
        refine e3.fr Hfr6.out fun k hk hk2 => ?_
        rcases List.mem_cons.1 hk2 with h | h
        ·exact sl_box e3 HRV.out.box (by decide) k hk h
        ·exact apart e3 HRV.out.sl (by decide) k hk h
       have hrow : ∀ (i : Nat) (hv : Value) (r : Row), (Q.map (·.1))[i]? = some hv -> (Q.map (·.2))[i]? = some r -> WF.Sl 83 4 hv r.length (r.flatMap V.enc) /\ ∀ k, k ∈ hv.blk -> w.heap.size <= k := fun i hv r h1 h2 => by
        rw [List.getElem?_map] at h1 h2
        obtain ⟨p, hp, rfl⟩ := Option.map_eq_some_iff.1 h1
        rw [hp] at h2
        simp at h2
        subst h2
        have hm : p ∈ qs := keep_sub qs _ p (by have := List.mem_of_getElem? hp; rw [<- HQ.out] at this; exact this)
        obtain ⟨k1, k2, k3, _⟩ := Hpairs.out p (Hqp.out.mem_iff.1 hm)
        have k4 := k2.fr Hfr6.out fun k hk hk2 => by
         rcases List.mem_cons.1 hk2 with h | h
         ·exact sl_box k2 HRV.out.box (by decide) k hk h
         ·exact apart k2 HRV.out.sl (by decide) k hk h
        refine ⟨k4.fr hfF fun k hk hk2 => sl_box k4 Q8.out (by decide) k hk (by simpa using hk2), fun k hk => Nat.le_trans Hfw.out.size (k3 k hk)⟩
       have hfin : OwnTab w WF (.agg #[.slice ta l.length tc, .slice za Q.length zc]) ⟨sortS l, Q.map (·.2)⟩ := by
        refine ⟨⟨_, _, Q.map (·.1), rfl, hvar.fr hfF (fun k hk hk2 => sl_box hvar Q8.out (by decide) k hk (by simpa using hk2)), ?_, by simp, fun k hk => ?_, fun k hk => ?_, hrow⟩, ⟨fun s hs => ?_, fun r hr x hx => ?_⟩, ?_⟩
        ·rw [List.length_map]
         exact Hs6.out.fr hfF (fun k hk hk2 => sl_box Hs6.out Q8.out (by decide) k hk (by simpa using hk2))
        ·have := HMV.out.new k hk
         have := Hf4.out.size
         omega
        ·exact Nat.le_trans Hfw.out.size (HRV.out.new k (Hb3.out k hk))
        ·exact H1.out.wf s ((sortS_perm l).mem_iff.1 hs)
        ·obtain ⟨p, hp, rfl⟩ := List.mem_map.1 hr
         have hm : p ∈ qs := keep_sub qs _ p (by rw [<- HQ.out] at hp; exact hp)
         exact (Hpairs.out p (Hqp.out.mem_iff.1 hm)).2.2.2 x hx
        ·have hb4w : w.heap.size <= b4 := by have := HB1.out.2.2; have := Hs1.out; omega
         have e0 := Hfw.out.trans HRV.out.fr (fun k hk => .inr (by simp at hk; subst hk; exact hb4w))
         have e1 := e0.trans Hfr6.out (fun k hk => .inr (by
          rcases List.mem_cons.1 hk with h | h
          ·rw [h]; exact hb4w
          ·exact Nat.le_trans Hfw.out.size (HRV.out.new k h)))
         exact e1.trans hfF (fun k hk => .inr (by simp at hk; subst hk; have := HB1.out.1; omega))
       obtain ⟨f0, f1, ff⟩ := two qf
       have Hfin := Hz hfin
       clear hfin hrow hvar hT hfF qf p0 p1 pf r0 r1 rf
       refine bodyPost_ret (v := .agg #[.slice ta l.length tc, .slice za Q.length zc]) (by simp [results, Tryz.results107, go_sem, f0, f1]) rfl ⟨_, rfl, Hfin.out⟩
end
section
open Go.RowKit
theorem rdNil (w : World) (size : Nat) : w.Rd size (.slice none 0 0) 0 [] := ⟨by simp, .inl ⟨rfl, none, 0, rfl, by simp [maxLen]⟩⟩
theorem OwnTab.empty {w w' : World} (hf : w.Fr w' []) : OwnTab w w' (.agg #[.slice none 0 0, .slice none 0 0]) ⟨[], []⟩ :=
 ⟨⟨_, _, [], rfl, World.Sl.nil _ _ _, World.Sl.nil _ _ _, rfl, by simp [Value.blk], by simp [Value.blk], by simp⟩, ⟨by simp, by simp⟩, hf⟩
theorem OwnTab.shape {w w' : World} {v : Value} {t : Tb} (h : OwnTab w w' v t) : ∃ a1 c1 a2 c2, v = .agg #[.slice a1 t.vars.length c1, .slice a2 t.rows.length c2] := by
 obtain ⟨a, b, hs, rfl, h1, h2, h3, _⟩ := h.ex
 obtain ⟨a1, c1, rfl, _, _⟩ := h1.shape
 obtain ⟨a2, c2, rfl, _, _⟩ := h2.shape
 exact ⟨a1, c1, a2, c2, by rw [h3]⟩
theorem OwnTab.since {w w0 w' : World} {v : Value} {t : Tb} (h : OwnTab w0 w' v t) (hf : w.Fr w0 []) : OwnTab w w' v t := by
 obtain ⟨a, b, hs, hv, h1, h2, h3, h4, h5, h6⟩ := h.ex
 have hz := hf.size
 exact ⟨⟨a, b, hs, hv, h1, h2, h3, fun k hk => Nat.le_trans hz (h4 k hk), fun k hk => Nat.le_trans hz (h5 k hk), fun i hv r ha hb => ⟨(h6 i hv r ha hb).1, fun k hk => Nat.le_trans hz ((h6 i hv r ha hb).2 k hk)⟩⟩, h.wf, hf.trans h.fr (by simp)⟩
theorem OwnTab.kept {w w1 w2 : World} {v : Value} {t : Tb} (h : OwnTab w w1 v t) {L : List Nat} (hf : w1.Fr w2 L) (hw : w.Fr w2 []) (hd : ∀ a b hs, v = .agg #[a, b] -> w1.Sl 81 1 b hs.length hs -> hs.length = t.rows.length -> (∀ k, k ∈ a.blk -> k ∉ L) /\ (∀ k, k ∈ b.blk -> k ∉ L) /\ ∀ (i : Nat) (hv : Value) (r : Row), hs[i]? = some hv -> t.rows[i]? = some r -> w1.Sl 83 4 hv r.length (r.flatMap V.enc) -> ∀ k, k ∈ hv.blk -> k ∉ L) : OwnTab w w2 v t := by
 obtain ⟨a, b, hs, hv, h1, h2, h3, h4, h5, h6⟩ := h.ex
 obtain ⟨d1, d2, d3⟩ := hd a b hs hv h2 h3
 exact ⟨⟨a, b, hs, hv, h1.fr hf d1, h2.fr hf d2, h3, h4, h5, fun i hv r ha hb => ⟨(h6 i hv r ha hb).1.fr hf (d3 i hv r ha hb (h6 i hv r ha hb).1), (h6 i hv r ha hb).2⟩⟩, h.wf, hw⟩
theorem OwnTab.box {w w1 w2 : World} {v : Value} {t : Tb} (h : OwnTab w w1 v t) {b : Nat} {cs : Array Value} (hb : w1.heap[b]? = some (.cells cs 34 (0, 0))) (hf : w1.Fr w2 [b]) (hw : w.Fr w2 []) : OwnTab w w2 v t := by
 refine h.kept hf hw fun a b' hs hv h1 h2 => ⟨fun k hk => ?_, fun k hk => ?_, fun i hv r h3 h4 h5 k hk => ?_⟩
 ·obtain ⟨a', b'', hs', hv', k1, _⟩ := h.ex
  rw [hv] at hv'
  cases hv'
  simpa using sl_box k1 hb (by decide) k hk
 ·simpa using sl_box h1 hb (by decide) k hk
 ·simpa using sl_box h5 hb (by decide) k hk
theorem OwnTab.rd {w w' : World} {v : Value} {t : Tb} (h : OwnTab w w' v t) : RdTab w' v t := by
 obtain ⟨a, b, hs, hv, h1, h2, h3, h4, h5, h6⟩ := h.ex
 exact ⟨a, b, hs, hv, ⟨by have := h1.rd; exact this, h.wf.1⟩, ⟨h2.rd, h3, fun i hv r ha hb => ⟨(h6 i hv r ha hb).1.rd, h.wf.2 r (List.mem_of_getElem? hb)⟩⟩⟩
theorem OwnTab.put {w w1 : World} {x y u v : Value} {b : Nat} {t : Tb} (h : OwnTab w w1 (.agg #[x, y]) t) (hb : w1.heap[b]? = some (.cells #[u, v] 34 (0, 0))) (hbw : w.heap.size <= b) :
  OwnTab w ((w1.setCell ⟨b, 0, none⟩ x).setCell ⟨b, 1, none⟩ y) (.agg #[x, y]) t /\ ((w1.setCell ⟨b, 0, none⟩ x).setCell ⟨b, 1, none⟩ y).heap[b]? = some (.cells #[x, y] 34 (0, 0)) := by
 have h1 : w1.Fr ((w1.setCell ⟨b, 0, none⟩ x).setCell ⟨b, 1, none⟩ y) [b] := ((World.Fr.refl _ _).setCell (by simp) _).setCell (by simp) _
 refine ⟨h.box hb h1 (h.fr.trans h1 (fun k hk => .inr (by simp at hk; subst hk; exact hbw))), ?_⟩
 have := heap_set_same (heap_set_same hb 0 x) 1 y
 simpa using this
noncomputable def rowsErr (n : Nat) : List Row -> Int
 | [] => 0
 | r :: rs => if rowCheck n r = 0 then rowsErr n rs else rowCheck n r
theorem rowsErr_at {n : Nat} : ∀ (rs : List Row) (j : Nat), (∀ (i : Nat) (r : Row), i < j -> rs[i]? = some r -> rowCheck n r = 0) -> ∀ {r : Row}, rs[j]? = some r -> rowCheck n r ≠ 0 -> rowsErr n rs = rowCheck n r
 | [], _, _, _, h, _ => by simp at h
 | a :: t, 0, _, r, h, hb => by simp at h; subst h; simp [rowsErr, hb]
 | a :: t, j + 1, ha, r, h, hb => by
  have h0 := ha 0 a (by omega) rfl
  simp only [rowsErr, h0, if_true]
  exact rowsErr_at t j (fun i x hi hx => ha (i + 1) x (by omega) (by simpa using hx)) (by simpa using h) hb
theorem rowsErr_end {n : Nat} : ∀ (rs : List Row), (∀ r, r ∈ rs -> rowCheck n r = 0) -> rowsErr n rs = 0
 | [], _ => rfl
 | a :: t, ha => by
  simp only [rowsErr, ha a (by simp), if_true]
  exact rowsErr_end t (fun r hr => ha r (by simp [hr]))
open Classical in
noncomputable def ofT (cf : V -> V -> Int) (l : List BA) (rs : List Row) : Int × Tb :=
 if 8 < l.length ∨ ¬ l.Nodup then (30, ⟨[], []⟩) else if rowsErr l.length rs = 0 then (0, madeT cf l rs) else (rowsErr l.length rs, ⟨[], []⟩)
structure Ctx (okc : V -> Prop) (cf : V -> V -> Int) : Prop where
 known : Known okc cf
 ord : OrdOk (fun v => okc v /\ vcheck v = 0) cf
theorem Ctx.cmp {okc : V -> Prop} {cf : V -> V -> Int} (h : Ctx okc cf) : CmpOk (fun v => okc v /\ vcheck v = 0) cf := fun a b w ha hb => h.known.cmp a b w ha.1 hb.1
theorem vchecks_zero {r : Row} (h : vchecks r = 0) : ∀ x, x ∈ r -> vcheck x = 0 := by
 induction r with
 | nil => simp
 | cons a t ih =>
  unfold vchecks at h
  by_cases h0 : vcheck a = 0
  ·rw [if_pos h0] at h
   intro x hx
   rcases List.mem_cons.1 hx with rfl | hx
   ·exact h0
   ·exact ih h x hx
  ·rw [if_neg h0] at h; exact absurd h h0
theorem rowCheck_zero {n : Nat} {r : Row} (h : rowCheck n r = 0) : r.length = n /\ ∀ x, x ∈ r -> vcheck x = 0 := by
 unfold rowCheck at h
 split at h
 ·exact ⟨by assumption, vchecks_zero h⟩
 ·cases h
theorem of32 {okc : V -> Prop} {cf : V -> V -> Int} (hK : Ctx okc cf) {w : World} {v1 v2 : Value} {l : List BA} {rs : List Row} {hs : List Value} (h1 : RdStr w v1 l) (h2 : RdRows w v2 rs hs) (hl : l.length <= 8796093021952) (hm : rs.length <= 5864062014634) (hsh : Short rs) (hok : ∀ r, r ∈ rs -> ∀ x, x ∈ r -> okc x) :
  Calls Tryz.prog 91 #[v1, v2] w fun e w' => ∃ v, e = .returned (.tuple #[v, .int .i64 (ofT cf l rs).1]) /\ OwnTab w w' v (ofT cf l rs).2 := by
 obtain ⟨a1, c1, rfl, _, _⟩ := h1.rd.shape
 obtain ⟨a2, c2, rfl, _, _⟩ := h2.rd.shape
 have hlen := h2.len
 rw [hlen] at h2 ⊢
 clear hlen
 generalize hR : ofT cf l rs = R
 have H1 := Hz h1; have H2 := Hz h2; have Hl := Hz hl; have Hm := Hz hm; have Hsh := Hz hsh; have HK := Hz hK; have Hok := Hz hok; have HR := Hz hR; clear h1 h2 hl hm hsh hK hok hR
 go_enter Tryz.func91, Tryz.ntmps91
 go_upto_region 1 with (fail)
 generalize hW : World.alloc w _ = W
 have q1 : W.heap[w.heap.size]? = some (.cells #[.slice none 0 0, .slice none 0 0] 34 (0, 0)) := by rw [<- hW]; exact heap_alloc_at _ _ _ rfl
 have q2 : w.Fr W [] := by rw [<- hW]; exact (World.Fr.refl w []).alloc _
 clear hW
 generalize hb : w.heap.size = b at *
 have hbW := lt_of_heap q1
 have Q1 := Hz q1; have Q2 := Hz q2; have Hb := Hz hb; clear q1 q2 hb
 obtain ⟨p0, p1, pf⟩ := two Q1.out
 by_cases h8 : 8 < l.length
 ·have hd8 : decide ((8 : Int) < (l.length : Int)) = true := decide_eq_true (by omega)
  have hres : R = (30, ⟨[], []⟩) := by rw [<- HR.out]; unfold ofT; rw [if_pos (.inl h8)]
  subst hres
  clear h8
  go_wp2
  have hfin := (OwnTab.empty (w := w) Q2.out).put Q1.out (by have := Hb.out; omega)
  obtain ⟨f0, f1, _⟩ := two hfin.2
  have Hfin := Hz hfin.1
  clear hfin p0 p1 pf
  refine bodyPost_ret (v := .tuple #[.agg #[.slice none 0 0, .slice none 0 0], .int .i64 30]) (by simp [results, Tryz.results91, go_sem, f0, f1]) rfl ⟨_, rfl, Hfin.out⟩
 ·have hd8 : decide ((8 : Int) < (l.length : Int)) = false := decide_eq_false (by omega)
  have hun := unlike78 (H1.out.fr Q2.out (by simp)) Hl.out
  have Hun := Hz hun; have H8 := Hz h8; clear hun h8
  go_wp2_with fail
  refine Hun.out.mono ?_
  rintro e w1 ⟨rfl, hf1⟩
  have q1 := hf1.heap Q1.out (by simp)
  have q2 := Q2.out.trans hf1 (by simp)
  have Q1' := Hz q1; have Q2' := Hz q2; clear q1 q2 hf1 p0 p1 pf Q1 Q2 Hun hbW
  obtain ⟨p0, p1, pf⟩ := two Q1'.out
  have hbW := lt_of_heap Q1'.out
  cases hu : risesB (sortS l) with
  | false =>
   have hres : R = (30, ⟨[], []⟩) := by
    rw [<- HR.out]; unfold ofT; rw [if_pos (.inr fun h => by rw [(unlike_iff l).2 h] at hu; cases hu)]
   subst hres
   go_wp2
   have hfin := (OwnTab.empty (w := w) Q2'.out).put Q1'.out (by have := Hb.out; omega)
   obtain ⟨f0, f1, _⟩ := two hfin.2
   have Hfin := Hz hfin.1
   clear hfin p0 p1 pf
   refine bodyPost_ret (v := .tuple #[.agg #[.slice none 0 0, .slice none 0 0], .int .i64 30]) (by simp [results, Tryz.results91, go_sem, f0, f1]) rfl ⟨_, rfl, Hfin.out⟩
  | true =>
   have hnd := (unlike_iff l).1 hu
   have hres : R = if rowsErr l.length rs = 0 then (0, madeT cf l rs) else (rowsErr l.length rs, ⟨[], []⟩) := by
    rw [<- HR.out]; unfold ofT; rw [if_neg (fun h => h.elim H8.out (fun h => h hnd))]
   have Hnd := Hz hnd; have HR2 := Hz hres; clear hnd hu HR hres
   go_wp2
   go_loopw [20] (fun i wr => ∃ j : Nat, i = .int .i64 j /\ j <= rs.length /\ Hid (∀ (i : Nat) (r : Row), i < j -> rs[i]? = some r -> rowCheck l.length r = 0) /\ Hid (wr.heap[b]? = some (.cells #[.slice none 0 0, .slice none 0 0] 34 (0, 0))) /\ Hid (w.Fr wr [])) (fun i _ => (rs.length - intOf i).toNat)
   case atStart => exact ⟨0, rfl, Nat.zero_le _, Hz (fun i a hi => by omega), Q1', Q2'⟩
   case round =>
    obtain ⟨j, rfl, hj, HA, HP, HF⟩ := hrel
    clear p0 p1 pf Q1' Q2'
    obtain ⟨p0, p1, pf⟩ := two HP.out
    have hbW := lt_of_heap HP.out
    by_cases hlt : j < rs.length
    ·obtain ⟨x, hx⟩ : ∃ x, rs[j]? = some x := ⟨rs[j], List.getElem?_eq_getElem (by omega)⟩
     obtain ⟨g, off, c, a, m, hv, hg, kx, hrow⟩ := (H2.out.still HF.out).at hx
     cases hv
     have hrI : (j : Int) < (rs.length : Int) := by omega
     have hw1 : IntKind.i64.wrap ((j : Int) + 1) = (j : Int) + 1 := IntWalk.i64_in _ (by have := Hm.out; omega)
     have hxm := List.mem_of_getElem? hx
     have hc := checkRow48 HK.out.known.chk l.length hrow (Hok.out x hxm) (Hsh.out x hxm)
     have Hc := Hz hc; have Hx := Hz hx; clear hc hx hrow hxm
     go_wp2_with fail
     refine Hc.out.mono ?_
     rintro e w2 ⟨rfl, hf2⟩
     have HP2 := Hz (hf2.heap HP.out (by simp))
     have HF2 := Hz (HF.out.trans hf2 (by simp)); clear hf2 kx p0 p1 pf Hc hbW
     obtain ⟨p0, p1, pf⟩ := two HP2.out
     have hbW := lt_of_heap HP2.out
     by_cases h0 : rowCheck l.length x = 0
     ·have H0 := Hz h0
      rw [h0]
      clear h0
      go_wp2
      go_roundw
      case rel => exact ⟨j + 1, by go_num, by omega, Hz (fun k r hk hr => by
       rcases Nat.lt_or_ge k j with h | h
       ·exact HA.out k r h hr
       ·obtain rfl : k = j := by omega
        rw [Hx.out] at hr
        cases hr
        exact H0.out), HP2, HF2⟩
      case measure => simp [intOf]; omega
     ·have hres := rowsErr_at rs j HA.out Hx.out h0
      have h0b : (rowCheck l.length x == 0) = false := beq_eq_false_iff_ne.2 h0
      have h0c : (rowCheck l.length x != 0) = true := by simp [h0]
      have hres2 : R = (rowCheck l.length x, ⟨[], []⟩) := by rw [HR2.out, hres, if_neg h0]
      clear h0 hres HR2
      generalize rowCheck l.length x = z at *
      subst hres2
      go_wp2
      have hfin := (OwnTab.empty (w := w) HF2.out).put HP2.out (by have := Hb.out; omega)
      obtain ⟨f0, f1, _⟩ := two hfin.2
      have Hfin := Hz hfin.1
      clear hfin p0 p1 pf
      refine bodyPost_ret (v := .tuple #[.agg #[.slice none 0 0, .slice none 0 0], .int .i64 z]) (by simp [results, Tryz.results91, go_sem, f0, f1]) rfl ⟨_, rfl, Hfin.out⟩
    ·have hall : ∀ r, r ∈ rs -> rowCheck l.length r = 0 := fun r hr => by
      obtain ⟨i, hi⟩ := List.getElem?_of_mem hr
      exact HA.out i r (by have := (List.getElem?_eq_some_iff.1 hi).1; omega) hi
     have hd : decide ((j : Int) < (rs.length : Int)) = false := decide_eq_false (by omega)
     have hd2 : decide (j < rs.length) = false := decide_eq_false hlt
     have hres2 : R = (0, madeT cf l rs) := by rw [HR2.out, rowsErr_end rs hall, if_pos rfl]
     subst hres2
     have hc := made73 HK.out.cmp HK.out.ord (H1.out.fr HF.out (by simp)) (H2.out.still HF.out) (by have := H8.out; omega) Hm.out (fun r hr => (rowCheck_zero (hall r hr)).1) (fun r hr x hx => ⟨Hok.out r hr x hx, (rowCheck_zero (hall r hr)).2 x hx⟩) Hnd.out
     have Hc := Hz hc; clear hc hall HA hlt hj HR2
     go_wp2_with fail
     refine Hc.out.mono ?_
     rintro e w2 ⟨v, rfl, ho⟩
     obtain ⟨x1, y1, x2, y2, rfl⟩ := ho.shape
     have hbx := ho.fr.heap HP.out (by simp)
     have ho2 := (ho.since HF.out).put hbx (by have := Hb.out; omega)
     clear p0 p1 pf hbW
     obtain ⟨p0, p1, pf⟩ := two hbx
     have hbW := lt_of_heap hbx
     obtain ⟨f0, f1, _⟩ := two ho2.2
     have Hfin := Hz ho2.1
     clear ho2 ho hbx
     go_wp2
     refine bodyPost_ret (v := .tuple #[.agg #[.slice x1 (madeT cf l rs).vars.length y1, .slice x2 (madeT cf l rs).rows.length y2], .int .i64 0]) (by simp [results, Tryz.results91, go_sem, f0, f1]) rfl ⟨_, rfl, Hfin.out⟩
theorem empty31 {okc : V -> Prop} {cf : V -> V -> Int} (hK : Ctx okc cf) {w : World} {v1 : Value} {l : List BA} (h1 : RdStr w v1 l) (hl : l.length <= 8796093021952) :
  Calls Tryz.prog 123 #[v1] w fun e w' => ∃ v, e = .returned (.tuple #[v, .int .i64 (ofT cf l []).1]) /\ OwnTab w w' v (ofT cf l []).2 := by
 have hc := fun (w0 : World) (hf : w.Fr w0 []) => of32 (w := w0) (v2 := .slice none 0 0) (rs := []) (hs := []) hK (h1.fr hf (by simp)) ⟨rdNil _ _, rfl, by simp⟩ hl (by simp) (by simp [Short]) (by simp)
 obtain ⟨a1, c1, rfl, _, _⟩ := h1.rd.shape
 have Hc := Hz hc; clear hc h1 hl hK
 generalize ofT cf l [] = R at *
 obtain ⟨R1, R2⟩ := R
 simp only at Hc
 go_enter Tryz.func123, Tryz.ntmps123
 go_upto_region 1 with (fail)
 generalize hW : World.alloc w _ = W
 have q1 : W.heap[w.heap.size]? = some (.cells #[.slice none 0 0, .slice none 0 0] 34 (0, 0)) := by rw [<- hW]; exact heap_alloc_at _ _ _ rfl
 have q2 : w.Fr W [] := by rw [<- hW]; exact (World.Fr.refl w []).alloc _
 clear hW
 have Q1 := Hz q1; have Q2 := Hz q2; clear q1 q2
 go_wp2_with fail
 refine (Hc.out _ Q2.out).mono ?_
 rintro e w2 ⟨v, rfl, ho⟩
 obtain ⟨x1, y1, x2, y2, rfl⟩ := ho.shape
 have hbx := ho.fr.heap Q1.out (by simp)
 have ho2 := (ho.since Q2.out).put hbx (Nat.le_refl _)
 obtain ⟨p0, p1, pf⟩ := two hbx
 have hbW := lt_of_heap hbx
 obtain ⟨f0, f1, _⟩ := two ho2.2
 have Hfin := Hz ho2.1
 clear ho2 ho hbx
 go_wp2
 refine bodyPost_ret (v := .tuple #[.agg #[.slice x1 R2.vars.length y1, .slice x2 R2.rows.length y2], .int .i64 R1]) (by simp [results, Tryz.results123, go_sem, f0, f1]) rfl ⟨_, rfl, Hfin.out⟩
end
end Go.Proofs.YtbejmdlncnkaaaaGreat
