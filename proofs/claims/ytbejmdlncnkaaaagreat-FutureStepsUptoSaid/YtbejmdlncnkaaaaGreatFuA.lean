/-
  Package future: what an operator that looks ahead holds, as it lies. Package future: begin, Next, Soon, Until. Package future: what is wrong with a step's arguments. Package future: until: the table of the first point that waits. Package future: the walk of until. Package future: settled, and what it hands back. Package future: the walk of settled. Package future: what Step tells, and what is settled.
-/
import Derived.Test.YtbejmdlncnkaaaaGreatPaA
import Derived.Test.YtbejmdlncnkaaaaGreatAlgA
import Derived.Test.YtbejmdlncnkaaaaGreatPaB
import Derived.Test.YtbejmdlncnkaaaaGreatTbZ
import Derived.Test.YtbejmdlncnkaaaaGreatTbY
set_option maxRecDepth 100000
set_option maxHeartbeats 16000000
set_option linter.unusedSimpArgs false
namespace Go.Proofs.YtbejmdlncnkaaaaGreat
section
open Go.RowKit
theorem eleven {w : World} {p : Nat} {t : TypeId} {a b c d e f g h i j k : Value} (hh : w.heap[p]? = some (.cells #[a, b, c, d, e, f, g, h, i, j, k] t (0, 0))) :
  w.cell? ⟨p, 0, none⟩ = some a /\ w.cell? ⟨p, 1, none⟩ = some b /\ w.cell? ⟨p, 2, none⟩ = some c /\ w.cell? ⟨p, 3, none⟩ = some d /\ w.cell? ⟨p, 4, none⟩ = some e /\ w.cell? ⟨p, 5, none⟩ = some f /\ w.cell? ⟨p, 6, none⟩ = some g /\ w.cell? ⟨p, 7, none⟩ = some h /\ w.cell? ⟨p, 8, none⟩ = some i /\ w.cell? ⟨p, 9, none⟩ = some j /\ w.cell? ⟨p, 10, none⟩ = some k /\ ∀ j, w.frozen? ⟨p, j, none⟩ = false := by
 refine ⟨?_, ?_, ?_, ?_, ?_, ?_, ?_, ?_, ?_, ?_, ?_, fun j => frozen_of_row w p j _ _ hh⟩ <;> simp [World.cell?, hh]
theorem five {w : World} {p : Nat} {t : TypeId} {a b c d e : Value} (hh : w.heap[p]? = some (.cells #[a, b, c, d, e] t (0, 0))) :
  w.cell? ⟨p, 0, none⟩ = some a /\ w.cell? ⟨p, 1, none⟩ = some b /\ w.cell? ⟨p, 2, none⟩ = some c /\ w.cell? ⟨p, 3, none⟩ = some d /\ w.cell? ⟨p, 4, none⟩ = some e /\ ∀ j, w.frozen? ⟨p, j, none⟩ = false := by
 refine ⟨?_, ?_, ?_, ?_, ?_, fun j => frozen_of_row w p j _ _ hh⟩ <;> simp [World.cell?, hh]
structure TabIn (Q : Nat -> Prop) (w : World) (v : Value) (t : Tb) : Prop where
 ex : ∃ a b hs, v = .agg #[a, b] /\ w.Sl 9 1 a t.vars.length (t.vars.map Value.string) /\ w.Sl 81 1 b hs.length hs /\ hs.length = t.rows.length /\ (∀ k, k ∈ a.blk -> Q k) /\ (∀ k, k ∈ b.blk -> Q k) /\
  ∀ (i : Nat) (hv : Value) (r : Row), hs[i]? = some hv -> t.rows[i]? = some r -> w.Sl 83 4 hv r.length (r.flatMap V.enc) /\ ∀ k, k ∈ hv.blk -> Q k
 wf : (∀ s, s ∈ t.vars -> s.size <= 9223372036854775807) /\ ∀ r, r ∈ t.rows -> ∀ v, v ∈ r -> v.wf
theorem OwnTab.inn {Q : Nat -> Prop} {w0 w : World} {v : Value} {t : Tb} (h : OwnTab w0 w v t) (hQ : ∀ k, w0.heap.size <= k -> k < w.heap.size -> Q k) : TabIn Q w v t := by
 obtain ⟨a, b, hs, hv, h1, h2, h3, h4, h5, h6⟩ := h.ex
 exact ⟨⟨a, b, hs, hv, h1, h2, h3, fun k hk => hQ k (h4 k hk) (h1.lt k hk), fun k hk => hQ k (h5 k hk) (h2.lt k hk), fun i hv r e1 e2 => ⟨(h6 i hv r e1 e2).1, fun k hk => hQ k ((h6 i hv r e1 e2).2 k hk) ((h6 i hv r e1 e2).1.lt k hk)⟩⟩, h.wf⟩
theorem TabIn.sl {Q : Nat -> Prop} {w : World} {v : Value} {t : Tb} (h : TabIn Q w v t) : SlTab w v t := by
 obtain ⟨a, b, hs, hv, h1, h2, h3, h4, h5, h6⟩ := h.ex
 exact ⟨⟨a, b, hs, hv, h1, h2, h3, fun i hv r e1 e2 => (h6 i hv r e1 e2).1⟩, h.wf⟩
theorem TabIn.rd {Q : Nat -> Prop} {w : World} {v : Value} {t : Tb} (h : TabIn Q w v t) : RdTab w v t := h.sl.rd
theorem TabIn.imp {Q R : Nat -> Prop} {w : World} {v : Value} {t : Tb} (h : TabIn Q w v t) (hq : ∀ k, k < w.heap.size -> Q k -> R k) : TabIn R w v t := by
 obtain ⟨a, b, hs, hv, h1, h2, h3, h4, h5, h6⟩ := h.ex
 exact ⟨⟨a, b, hs, hv, h1, h2, h3, fun k hk => hq k (h1.lt k hk) (h4 k hk), fun k hk => hq k (h2.lt k hk) (h5 k hk), fun i hv r e1 e2 => ⟨(h6 i hv r e1 e2).1, fun k hk => hq k ((h6 i hv r e1 e2).1.lt k hk) ((h6 i hv r e1 e2).2 k hk)⟩⟩, h.wf⟩
theorem TabIn.fr {Q : Nat -> Prop} {w w' : World} {v : Value} {t : Tb} {M : List Nat} (h : TabIn Q w v t) (hf : w.Fr w' M) (hM : Odd w M) : TabIn Q w' v t := by
 obtain ⟨a, b, hs, hv, h1, h2, h3, h4, h5, h6⟩ := h.ex
 exact ⟨⟨a, b, hs, hv, h1.fr hf (hM.off h1 (.inl rfl)), h2.fr hf (hM.off h2 (.inr (.inl rfl))), h3, h4, h5, fun i hv r e1 e2 => ⟨(h6 i hv r e1 e2).1.fr hf (hM.off (h6 i hv r e1 e2).1 (.inr (.inr rfl))), (h6 i hv r e1 e2).2⟩⟩, h.wf⟩
theorem TabIn.off {Q : Nat -> Prop} {w w' : World} {v : Value} {t : Tb} {M : List Nat} (h : TabIn Q w v t) (hf : w.Fr w' M) (hM : ∀ k, k ∈ M -> ¬ Q k) : TabIn Q w' v t := by
 obtain ⟨a, b, hs, hv, h1, h2, h3, h4, h5, h6⟩ := h.ex
 exact ⟨⟨a, b, hs, hv, h1.fr hf (fun k hk hm => hM k hm (h4 k hk)), h2.fr hf (fun k hk hm => hM k hm (h5 k hk)), h3, h4, h5, fun i hv r e1 e2 => ⟨(h6 i hv r e1 e2).1.fr hf (fun k hk hm => hM k hm ((h6 i hv r e1 e2).2 k hk)), (h6 i hv r e1 e2).2⟩⟩, h.wf⟩
theorem TabIn.still {Q : Nat -> Prop} {w w' : World} {v : Value} {t : Tb} (h : TabIn Q w v t) (hf : w.Fr w' []) : TabIn Q w' v t := h.fr hf (fun k hk => by simp at hk)
theorem TabIn.shape {Q : Nat -> Prop} {w : World} {a b : Value} {t : Tb} (h : TabIn Q w (.agg #[a, b]) t) : ∃ a1 a2 a3 a4, a = .slice a1 t.vars.length a2 /\ b = .slice a3 t.rows.length a4 := h.sl.shape
theorem TabIn.nul (Q : Nat -> Prop) (w : World) : TabIn Q w (.agg #[.slice none 0 0, .slice none 0 0]) ⟨[], []⟩ :=
 ⟨⟨_, _, [], rfl, World.Sl.nil _ _ _, World.Sl.nil _ _ _, rfl, by simp [Value.blk], by simp [Value.blk], by simp⟩, by simp, by simp⟩
structure Sn where
 time : Int
 la : Value
 lb : Value
 ra : Value
 rb : Value
 tl : Tb
 tr : Tb
abbrev Sn.cells (k : Sn) : List Value := [.int .i64 k.time, k.la, k.lb, k.ra, k.rb]
structure SeenAt (Q : Nat -> Prop) (w : World) (v : Value) (ks : List Sn) : Prop where
 sl : w.Sl 121 5 v ks.length (ks.flatMap Sn.cells)
 tab : ∀ k, k ∈ ks -> TabIn Q w (.agg #[k.la, k.lb]) k.tl /\ TabIn Q w (.agg #[k.ra, k.rb]) k.tr
structure FS where
 i : Iv
 nt : Bool
 left : List BA
 right : List BA
 pts : List Sn
 told : Int
 time : Int
 parts : Int
 nx : Bool
abbrev fcells (S : FS) (vl vr vp : Value) : Array Value := #[.int .i64 S.i.lo, .int .i64 S.i.hi, .bool S.i.op, .bool S.nt, vl, vr, vp, .int .i64 S.told, .int .i64 S.time, .int .i64 S.parts, .bool S.nx]
structure FutAt (Q : Nat -> Prop) (w : World) (p : Nat) (S : FS) (vl vr vp : Value) : Prop where
 box : w.heap[p]? = some (.cells (fcells S vl vr vp) 119 (0, 0))
 left : w.Sl 9 1 vl S.left.length (S.left.map Value.string)
 right : w.Sl 9 1 vr S.right.length (S.right.map Value.string)
 lw : ∀ s, s ∈ S.left -> s.size <= 9223372036854775807
 rw : ∀ s, s ∈ S.right -> s.size <= 9223372036854775807
 names : (∀ k, k ∈ vl.blk -> Q k) /\ ∀ k, k ∈ vr.blk -> Q k
 pts : SeenAt Q w vp S.pts
theorem SeenAt.fr {Q : Nat -> Prop} {w w' : World} {v : Value} {ks : List Sn} {M : List Nat} (h : SeenAt Q w v ks) (hf : w.Fr w' M) (hM : Odd w M) (hv : ∀ k, k ∈ v.blk -> k ∉ M) : SeenAt Q w' v ks :=
 ⟨h.sl.fr hf hv, fun k hk => ⟨(h.tab k hk).1.fr hf hM, (h.tab k hk).2.fr hf hM⟩⟩
theorem SeenAt.still {Q : Nat -> Prop} {w w' : World} {v : Value} {ks : List Sn} (h : SeenAt Q w v ks) (hf : w.Fr w' []) : SeenAt Q w' v ks := h.fr hf (fun k hk => by simp at hk) (by simp)
theorem FutAt.fr {Q : Nat -> Prop} {w w' : World} {p : Nat} {S : FS} {vl vr vp : Value} {M : List Nat} (h : FutAt Q w p S vl vr vp) (hf : w.Fr w' M) (hM : Odd w M) (hd : ∀ k, k ∈ p :: vp.blk -> k ∉ M) : FutAt Q w' p S vl vr vp :=
 ⟨hf.heap h.box (hd p (by simp)), h.left.fr hf (hM.off h.left (.inl rfl)), h.right.fr hf (hM.off h.right (.inl rfl)), h.lw, h.rw, h.names, h.pts.fr hf hM (fun k hk => hd k (by simp [hk]))⟩
theorem FutAt.still {Q : Nat -> Prop} {w w' : World} {p : Nat} {S : FS} {vl vr vp : Value} (h : FutAt Q w p S vl vr vp) (hf : w.Fr w' []) : FutAt Q w' p S vl vr vp := h.fr hf (fun k hk => by simp at hk) (by simp)
theorem FutAt.rdl {Q : Nat -> Prop} {w : World} {p : Nat} {S : FS} {vl vr vp : Value} (h : FutAt Q w p S vl vr vp) : RdStr w vl S.left := ⟨h.left.rd, h.lw⟩
theorem FutAt.rdr {Q : Nat -> Prop} {w : World} {p : Nat} {S : FS} {vl vr vp : Value} (h : FutAt Q w p S vl vr vp) : RdStr w vr S.right := ⟨h.right.rd, h.rw⟩
theorem FutAt.odd {Q : Nat -> Prop} {w : World} {p : Nat} {S : FS} {vl vr vp : Value} (h : FutAt Q w p S vl vr vp) : Odd w (p :: vp.blk) := by
 intro k hk
 rcases List.mem_cons.1 hk with rfl | hk
 ·exact ⟨_, _, h.box, by decide, by decide, by decide⟩
 ·rcases h.pts.sl.2 with ⟨rfl, _⟩ | ⟨g, off, cap, cur, rfl, hg, _⟩
  ·simp [Value.blk] at hk
  ·simp [Value.blk] at hk
   subst hk
   exact ⟨_, _, hg, by decide, by decide, by decide⟩
theorem flat5 {ks : List Sn} {j : Nat} {k : Sn} (h : ks[j]? = some k) (i : Nat) (hi : i < 5) : (ks.flatMap Sn.cells)[j * 5 + i]? = k.cells[i]? := by
 induction ks generalizing j with
 | nil => simp at h
 | cons a t ih =>
  cases j with
  | zero => simp at h; subst h; simp only [List.flatMap_cons, Nat.zero_mul, Nat.zero_add]; rw [List.getElem?_append_left (by simp [Sn.cells]; omega)]
  | succ j =>
   simp only [List.flatMap_cons]
   rw [List.getElem?_append_right (by simp [Sn.cells]; omega)]
   have := ih (j := j) (by simpa using h)
   rw [show (j + 1) * 5 + i - (Sn.cells a).length = j * 5 + i from by simp [Sn.cells]; omega]
   exact this
theorem SeenAt.at {Q : Nat -> Prop} {w : World} {v : Value} {ks : List Sn} (h : SeenAt Q w v ks) {j : Nat} {k : Sn} (hj : ks[j]? = some k) :
  ∃ g off c, v = .slice (some ⟨g, off, none⟩) ks.length c /\ ks.length <= c /\ g < w.heap.size /\ w.cell? ⟨g, off + j * 5, none⟩ = some (.int .i64 k.time) /\ w.cell? ⟨g, off + j * 5 + 1, none⟩ = some k.la /\ w.cell? ⟨g, off + j * 5 + 2, none⟩ = some k.lb /\ w.cell? ⟨g, off + j * 5 + 3, none⟩ = some k.ra /\ w.cell? ⟨g, off + j * 5 + 4, none⟩ = some k.rb /\ (∀ i, w.frozen? ⟨g, i, none⟩ = false) /\ TabIn Q w (.agg #[k.la, k.lb]) k.tl /\ TabIn Q w (.agg #[k.ra, k.rb]) k.tr := by
 have hjl := (List.getElem?_eq_some_iff.1 hj).1
 obtain ⟨g, off, c, he, hle, _, hg, hc, hf⟩ := h.sl.form (by omega)
 have key : ∀ i, i < 5 -> w.cell? ⟨g, off + j * 5 + i, none⟩ = k.cells[i]? := fun i hi => by
  have := hc (j * 5 + i) (by omega)
  rw [flat5 hj i hi] at this
  rw [Nat.add_assoc]
  exact this
 exact ⟨g, off, c, he, hle, hg, key 0 (by omega), key 1 (by omega), key 2 (by omega), key 3 (by omega), key 4 (by omega), hf, h.tab k (List.mem_of_getElem? hj)⟩
theorem copied81 {cf : V -> V -> Int} (hK : Ctx V.wf cf) {w : World} {v : Value} {t : Tb} (h : RdTab w v t) (hf : Fits V.wf t) (h0 : tcheck cf t = 0) :
  Calls Tryz.prog 81 #[v] w fun e w' => ∃ u, e = .returned u /\ OwnTab w w' u t := by
 obtain ⟨va, vb, hs, rfl, hv, hr⟩ := h.ex
 obtain ⟨a1, a2, rfl, _, _⟩ := hv.rd.shape
 obtain ⟨a3, a4, rfl, _, _⟩ := hr.rd.shape
 have hlen := hr.len
 rw [hlen] at hr ⊢
 have q1 := heap_alloc_some (heap_alloc_at w (.cells #[.slice a1 t.vars.length a2, .slice a3 t.rows.length a4] 34) _ rfl) (.cells #[.slice none 0 0, .slice none 0 0] 34)
 have q2 : ((w.alloc (.cells #[.slice a1 t.vars.length a2, .slice a3 t.rows.length a4] 34)).alloc (.cells #[.slice none 0 0, .slice none 0 0] 34)).heap[w.heap.size + 1]? = some (.cells #[.slice none 0 0, .slice none 0 0] 34 (0, 0)) := heap_alloc_at _ _ _ (by simp)
 have q3 := ((World.Fr.refl w []).alloc (.cells #[.slice a1 t.vars.length a2, .slice a3 t.rows.length a4] 34)).alloc (.cells #[.slice none 0 0, .slice none 0 0] 34)
 have hc := of32 hK (hv.fr q3 (by simp)) (hr.still q3) (by have := (tcheck_zero h0).1; omega) hf.rows hf.small.row hf.ok
 rw [ofT_own hK.ord h0 hf.ok] at hc
 have Hc := Hz hc; have Q2 := Hz q2; have HF := Hz q3
 clear hc h hf h0 hv hr hlen q3
 go_enter Tryz.func81, Tryz.ntmps81
 go_upto_region 1 with (fail)
 generalize hW : World.alloc (World.alloc w _) _ = W at *
 clear hW
 obtain ⟨m0, m1, mf⟩ := two q1
 have hp := lt_of_heap q1
 clear q1 q2
 go_wp2_with fail
 (with_reducible refine Hc.out.mono ?_)
 rintro e w1 ⟨u, rfl, ho⟩
 obtain ⟨t1, t2, t3, t4, rfl⟩ := ho.shape
 have hb := heap_alloc_some (ho.fr.heap Q2.out (by simp)) (.cells #[.slice t1 t.vars.length t2, .slice t3 t.rows.length t4] 34)
 have hb3 := heap_alloc_at w1 (.cells #[.slice t1 t.vars.length t2, .slice t3 t.rows.length t4] 34) _ rfl
 have ho2 := ho.stay ((World.Fr.refl w1 []).alloc (.cells #[.slice t1 t.vars.length t2, .slice t3 t.rows.length t4] 34))
 have ho3 := (ho2.since HF.out).put hb (by omega)
 obtain ⟨f0, f1, _⟩ := two ho3.2
 obtain ⟨z0, z1, zf⟩ := two hb3
 obtain ⟨n0, n1, nf⟩ := two hb
 have hz := lt_of_heap hb
 have hz3 := lt_of_heap hb3
 have Hfin := Hz ho3.1
 clear ho ho2 ho3 hb hb3 m0 m1 mf hp Hc Q2 HF
 go_wp2
 refine bodyPost_ret (v := .agg #[.slice t1 _ t2, .slice t3 _ t4]) (by simp [results, Tryz.results81, go_sem, f0, f1]) rfl ⟨_, rfl, Hfin.out⟩
end
section
open Go.RowKit
def fivB (i : Iv) : Bool := !i.op && decide (0 <= i.lo) && decide (i.lo <= i.hi) && decide (i.hi <= 1099511627776)
theorem fivB_iv {i : Iv} (h : fivB i = true) : ivB i = true /\ i.op = false /\ 0 <= i.lo /\ i.lo <= i.hi /\ i.hi <= 1099511627776 := by
 simp only [fivB, Bool.and_eq_true, Bool.not_eq_true', decide_eq_true_eq] at h
 obtain ⟨⟨⟨h1, h2⟩, h3⟩, h4⟩ := h
 refine ⟨?_, h1, h2, h3, h4⟩
 simp [ivB, h1, h2, h3, h4]
noncomputable def beginF (i : Iv) (l r : List BA) : Int := if fivB i then beginE i l r else 1
abbrev fbeginS (i : Iv) (nt : Bool) (l r : List BA) (parts : Int) (nx : Bool) : FS := ⟨i, nt, sortS l, sortS r, [], 0, -1, parts, nx⟩
open Classical in
theorem begin79 {okc : V -> Prop} {cf : V -> V -> Int} (hK : Ctx okc cf) {Q : Nat -> Prop} {w : World} (hQ : ∀ k, w.heap.size <= k -> Q k) {i : Iv} {nt nx : Bool} {v1 v2 : Value} {l r : List BA} {parts : Int} (h1 : RdStr w v1 l) (h2 : RdStr w v2 r) (hl : l.length <= 8796093021952) (hr : r.length <= 8796093021952) :
  Calls Tryz.prog 79 #[ivV i, .bool nt, v1, v2, .int .i64 parts, .bool nx] w fun e w' => (∃ p, e = .returned (.tuple #[p, .int .i64 (beginF i l r)]) /\ (beginF i l r ≠ 0 /\ p = .pointer none ∨ beginF i l r = 0 /\ ∃ k vl vr, p = .pointer (some ⟨k, 0, none⟩) /\ w.heap.size <= k /\ FutAt Q w' k (fbeginS i nt l r parts nx) vl vr (.slice none 0 0))) /\ w.Fr w' [] := by
 obtain ⟨lo, hi, op⟩ := i
 obtain ⟨a1, a2, rfl, _, _⟩ := h1.rd.shape
 obtain ⟨b1, b2, rfl, _, _⟩ := h2.rd.shape
 obtain ⟨R, hR⟩ : ∃ R, beginF ⟨lo, hi, op⟩ l r = R := ⟨_, rfl⟩
 rw [hR]
 generalize hn1 : l.length = n1 at *
 generalize hn2 : r.length = n2 at *
 rw [<- hn1] at hl
 rw [<- hn2] at hr
 have q1 := heap_alloc_at w (.cells #[.int .i64 lo, .int .i64 hi, .bool op] 23) _ rfl
 have f1 := (World.Fr.refl w []).alloc (.cells #[.int .i64 lo, .int .i64 hi, .bool op] 23)
 have H1 := Hz h1; have H2 := Hz h2; have HK := Hz hK; have HR := Hz hR; have Hl := Hz hl; have Hr := Hz hr; have HQ := Hz hQ
 clear h1 h2 hK hR hl hr hn1 hn2 hQ
 go_enter Tryz.func79, Tryz.ntmps79
 go_upto_region 1 with (fail)
 generalize hW : World.alloc w _ = w1 at *
 clear hW
 generalize hp6 : w.heap.size = p6 at q1 HQ ⊢
 have HP6 := Hz hp6
 clear hp6
 obtain ⟨c0, c1, c2, cf0⟩ := tri q1
 have hz := lt_of_heap q1
 have Q1 := Hz q1; have F := Hz f1
 clear q1 f1
 cases hB : fivB ⟨lo, hi, op⟩ with
 | false =>
  have hres : R = 1 := by rw [<- HR.out]; unfold beginF; rw [if_neg (by rw [hB]; simp)]
  subst hres
  clear HR
  cases op with
  | true =>
   clear hB
   go_wp2
   refine bodyPost_ret (v := .tuple #[.pointer none, _]) (by simp [results, Tryz.results79, go_sem]) rfl ⟨⟨.pointer none, rfl, .inl ⟨by decide, rfl⟩⟩, F.out⟩
  | false =>
   simp only [fivB, Bool.not_false, Bool.true_and] at hB
   cases h1 : decide (lo < 0) with
   | true =>
    clear hB
    go_wp2
    refine bodyPost_ret (v := .tuple #[.pointer none, _]) (by simp [results, Tryz.results79, go_sem]) rfl ⟨⟨.pointer none, rfl, .inl ⟨by decide, rfl⟩⟩, F.out⟩
   | false =>
    have e1 : decide (0 <= lo) = true := decide_eq_true (by have := of_decide_eq_false h1; omega)
    rw [e1] at hB
    clear e1
    simp only [Bool.true_and] at hB
    cases h2 : decide (hi < lo) with
    | true =>
     clear hB
     go_wp2
     refine bodyPost_ret (v := .tuple #[.pointer none, _]) (by simp [results, Tryz.results79, go_sem]) rfl ⟨⟨.pointer none, rfl, .inl ⟨by decide, rfl⟩⟩, F.out⟩
    | false =>
     have e1 : decide (lo <= hi) = true := decide_eq_true (by have := of_decide_eq_false h2; omega)
     rw [e1] at hB
     simp only [Bool.true_and] at hB
     clear e1
     have h3 : decide (1099511627776 < hi) = true := decide_eq_true (by have := of_decide_eq_false hB; omega)
     clear hB
     go_wp2
     refine bodyPost_ret (v := .tuple #[.pointer none, _]) (by simp [results, Tryz.results79, go_sem]) rfl ⟨⟨.pointer none, rfl, .inl ⟨by decide, rfl⟩⟩, F.out⟩
 | true =>
  obtain ⟨hiv, hop, hlo, hle, hhi⟩ := fivB_iv hB
  simp only at hop hlo hle hhi
  subst hop
  have hres : R = if ¬ NamesOk l ∨ ¬ NamesOk r then 30 else if ∀ s, s ∈ l -> s ∈ r then 0 else 30 := by rw [<- HR.out]; unfold beginF; rw [if_pos hB]; unfold beginE; rw [if_neg (by rw [hiv]; simp)]
  have HR2 := Hz hres
  have h1 : decide (lo < 0) = false := decide_eq_false (by omega)
  have h2 : decide (hi < lo) = false := decide_eq_false (by omega)
  have h3 : decide (1099511627776 < hi) = false := decide_eq_false (by omega)
  clear HR hB hres hiv hlo hle hhi
  have k := Hz (empty31 HK.out (H1.out.fr F.out (by simp)) Hl.out)
  by_cases ho : NamesOk l
  ·rw [ofT_ok ho] at k
   have Ho := Hz ho
   clear ho
   go_wp2_with fail
   (with_reducible refine k.out.mono ?_)
   rintro e w2 ⟨u, rfl, ho⟩
   obtain ⟨s1, s2, s3, s4, rfl⟩ := ho.shape
   simp only [List.length_nil] at ho ⊢
   have Q1 := Hz (heap_alloc_some (ho.fr.heap Q1.out (by simp)) (.cells #[.slice s1 (sortS l).length s2, .slice s3 0 s4] 34))
   have Q14 := Hz (heap_alloc_at w2 (.cells #[.slice s1 (sortS l).length s2, .slice s3 0 s4] 34) _ rfl)
   have O1 := Hz ((ho.stay ((World.Fr.refl w2 []).alloc (.cells #[.slice s1 (sortS l).length s2, .slice s3 0 s4] 34))).inn (Q := Q) (fun k hk _ => HQ.out k (by have := F.out.size; have := HP6.out; omega)))
   have F := Hz (F.out.trans (ho.fr.alloc (.cells #[.slice s1 (sortS l).length s2, .slice s3 0 s4] 34)) (by simp))
   clear h1 h2 h3 c0 c1 c2 cf0 hz
   clear ho k
   go_upto_region 4 with (fail)
   generalize hW : World.alloc w2 _ = w3 at *
   clear hW
   generalize w2.heap.size = p14 at *
   have k := Hz (empty31 HK.out (H2.out.fr F.out (by simp)) Hr.out)
   by_cases ho : NamesOk r
   ·rw [ofT_ok ho] at k
    have Ho2 := Hz ho
    clear ho
    go_wp2_with fail
    (with_reducible refine k.out.mono ?_)
    rintro e w4 ⟨u, rfl, ho⟩
    obtain ⟨t1, t2, t3, t4, rfl⟩ := ho.shape
    simp only [List.length_nil] at ho ⊢
    have Q1 := Hz (heap_alloc_some (ho.fr.heap Q1.out (by simp)) (.cells #[.slice t1 (sortS r).length t2, .slice t3 0 t4] 34))
    have Q14 := Hz (heap_alloc_some (ho.fr.heap Q14.out (by simp)) (.cells #[.slice t1 (sortS r).length t2, .slice t3 0 t4] 34))
    have Q16 := Hz (heap_alloc_at w4 (.cells #[.slice t1 (sortS r).length t2, .slice t3 0 t4] 34) _ rfl)
    have O2 := Hz ((ho.stay ((World.Fr.refl w4 []).alloc (.cells #[.slice t1 (sortS r).length t2, .slice t3 0 t4] 34))).inn (Q := Q) (fun k hk _ => HQ.out k (by have := F.out.size; have := HP6.out; omega)))
    have F := Hz (F.out.trans (ho.fr.alloc (.cells #[.slice t1 (sortS r).length t2, .slice t3 0 t4] 34)) (by simp))
    have O1 := Hz (O1.out.still (ho.fr.alloc (.cells #[.slice t1 (sortS r).length t2, .slice t3 0 t4] 34)))
    clear ho k
    go_upto_region 7 with (fail)
    generalize hW : World.alloc w4 _ = w5 at *
    clear hW
    generalize w4.heap.size = p16 at *
    have hres : R = if ∀ s, s ∈ l -> s ∈ r then 0 else 30 := by rw [HR2.out, if_neg (fun h => h.elim (fun h => h Ho.out) (fun h => h Ho2.out))]
    have HR3 := Hz hres
    have hu1 := sortS_up Ho.out
    have hm1 : ∀ s, s ∈ sortS l ↔ s ∈ l := fun s => (sortS_perm l).mem_iff
    have hm2 : ∀ s, s ∈ sortS r ↔ s ∈ r := fun s => (sortS_perm r).mem_iff
    have hu2 := sortS_up Ho2.out
    obtain ⟨_, _, hs1, he, A1, _, _, N1, _, _⟩ := O1.out.ex
    cases he
    obtain ⟨_, _, hs2, he, A2, _, _, N2, _, _⟩ := O2.out.ex
    cases he
    have W1 := Hz O1.out.wf.1; have W2 := Hz O2.out.wf.1
    have Hm1 := Hz hm1; have Hm2 := Hz hm2; have Hu1 := Hz hu1; have Hu2 := Hz hu2; have HA1 := Hz A1; have HA2 := Hz A2; have HN12 := Hz (And.intro N1 N2)
    clear hres HR2 hm1 hm2 hu1 hu2 A1 A2 O1 O2 N1 N2
    have hd1 := Hz (show RdStr w5 (.slice s1 (sortS l).length s2) (sortS l) from ⟨HA1.out.rd, W1.out⟩)
    have hd2 := Hz (show RdStr w5 (.slice t1 (sortS r).length t2) (sortS r) from ⟨HA2.out.rd, W2.out⟩)
    simp only at W1 W2 HA1 HA2
    have HBS := Hz (show fbeginS ⟨lo, hi, false⟩ nt l r parts nx = ⟨⟨lo, hi, false⟩, nt, sortS l, sortS r, [], 0, -1, parts, nx⟩ from rfl)
    generalize sortS l = L at *
    generalize sortS r = M at *
    obtain ⟨c0, c1, c2, cf0⟩ := tri Q1.out
    obtain ⟨m0, m1, mf⟩ := two Q14.out
    obtain ⟨n0, n1, nf⟩ := two Q16.out
    have hz6 := lt_of_heap Q1.out
    have hz14 := lt_of_heap Q14.out
    have hz16 := lt_of_heap Q16.out
    have HI0 : Hid (∀ s, s ∈ L.take 0 -> s ∈ M) := Hz (by simp)
    go_wp2
    go_loopw [57] (fun i wr => ∃ j : Nat, i = .int .i64 j /\ j <= L.length /\ Hid (∀ s, s ∈ L.take j -> s ∈ M) /\ wr = w5) (fun i _ => (L.length - intOf i).toNat)
    case atStart => exact ⟨0, rfl, Nat.zero_le _, HI0, rfl⟩
    case round =>
     obtain ⟨j, rfl, hj, HI, rfl⟩ := hrel
     clear HI0
     by_cases hlt : j < L.length
     ·obtain ⟨s, hs⟩ : ∃ s, L[j]? = some s := ⟨L[j], List.getElem?_eq_getElem hlt⟩
      obtain ⟨g, off, c, hv, hg, kx⟩ := hd1.out.at hs
      cases hv
      have hjI : (j : Int) < (L.length : Int) := by omega
      have hw1 : IntKind.i64.wrap ((j : Int) + 1) = (j : Int) + 1 := IntWalk.i64_in _ (by have := Hu1.out.2; omega)
      have hnn : (0 : Int) <= (j : Int) := by omega
      have hk := contains67 s hd2.out (by have := Hu2.out.2; omega)
      have hsn : L.take (j + 1) = L.take j ++ [s] := by
       rw [List.take_succ_eq_append_getElem hlt, (List.getElem?_eq_some_iff.1 hs).2]
      have Hs := Hz (List.mem_of_getElem? hs)
      have Hk := Hz hk; have Hsn := Hz hsn
      clear hk hsn hs
      go_wp2_with fail
      (with_reducible refine Hk.out.mono ?_)
      rintro e w9 ⟨rfl, rfl⟩
      clear Hk
      by_cases hin : s ∈ M
      ·have hh : hasS M s = true := by unfold hasS; simp [hin]
       rw [hh]
       have HI2 : Hid (∀ s, s ∈ L.take (j + 1) -> s ∈ M) := Hz fun z hz => by
        rw [Hsn.out] at hz
        rcases List.mem_append.1 hz with h | h
        ·exact HI.out z h
        ·simp at h; subst h; exact hin
       clear hh hin
       go_wp2
       go_roundw
       case rel => exact ⟨j + 1, by go_num, by omega, HI2, trivial⟩
       case measure => simp [intOf]; omega
      ·have hh : hasS M s = false := by unfold hasS; simp [hin]
       rw [hh]
       have hres : R = 30 := by rw [HR3.out, if_neg (fun h => hin ((Hm2.out s).2 (h s ((Hm1.out s).1 Hs.out))))]
       subst hres
       clear hh hin HR3
       go_wp2
       refine bodyPost_ret (v := .tuple #[.pointer none, _]) (by simp [results, Tryz.results79, go_sem]) rfl ⟨⟨.pointer none, rfl, .inl ⟨by decide, rfl⟩⟩, F.out⟩
     ·have hd : decide ((j : Int) < (L.length : Int)) = false := decide_eq_false (by omega)
      have hd2' : decide (j < L.length) = false := decide_eq_false hlt
      obtain rfl : j = L.length := by omega
      have hI := HI.out
      rw [List.take_of_length_le (Nat.le_refl _)] at hI
      have hres : R = 0 := by rw [HR3.out, if_pos (fun s hs => (Hm2.out s).1 (hI s ((Hm1.out s).2 hs)))]
      subst hres
      clear HI hI HR3 hlt hj
      go_wp2
      have hb := heap_alloc_at wr (.cells (fcells ⟨⟨lo, hi, false⟩, nt, L, M, [], 0, -1, parts, nx⟩ (.slice s1 L.length s2) (.slice t1 M.length t2) (.slice none 0 0)) 119) _ rfl
      have hf := (World.Fr.refl wr []).alloc (.cells (fcells ⟨⟨lo, hi, false⟩, nt, L, M, [], 0, -1, parts, nx⟩ (.slice s1 L.length s2) (.slice t1 M.length t2) (.slice none 0 0)) 119)
      refine bodyPost_ret (v := .tuple #[.pointer (some ⟨wr.heap.size, 0, none⟩), _]) (by simp [results, Tryz.results79, go_sem]) rfl ⟨⟨.pointer (some ⟨wr.heap.size, 0, none⟩), rfl, ⟨wr.heap.size, rfl, (by have := F.out.size; have := HP6.out; omega), .slice s1 L.length s2, .slice t1 M.length t2, by rw [HBS.out]; exact ⟨hb, HA1.out.fr hf (by simp), HA2.out.fr hf (by simp), W1.out, W2.out, HN12.out, ⟨World.Sl.nil _ _ _, fun k hk => by simp at hk⟩⟩⟩⟩, F.out.trans hf (by simp)⟩
   ·rw [ofT_bad ho] at k
    have hres : R = 30 := by rw [HR2.out, if_pos (.inr ho)]
    subst hres
    clear ho HR2
    go_wp2_with fail
    (with_reducible refine k.out.mono ?_)
    rintro e w4 ⟨u, rfl, ho⟩
    obtain ⟨t1, t2, t3, t4, rfl⟩ := ho.shape
    simp only [List.length_nil] at ho ⊢
    have F := Hz (F.out.trans (ho.fr.alloc (.cells #[.slice t1 0 t2, .slice t3 0 t4] 34)) (by simp))
    clear ho k
    go_upto_region 7 with (fail)
    generalize hW : World.alloc w4 _ = w5 at *
    clear hW
    generalize w4.heap.size = p16 at *
    go_wp2
    refine bodyPost_ret (v := .tuple #[.pointer none, _]) (by simp [results, Tryz.results79, go_sem]) rfl ⟨⟨.pointer none, rfl, .inl ⟨by decide, rfl⟩⟩, F.out⟩
  ·rw [ofT_bad ho] at k
   have hres : R = 30 := by rw [HR2.out, if_pos (.inl ho)]
   subst hres
   clear ho HR2
   go_wp2_with fail
   (with_reducible refine k.out.mono ?_)
   rintro e w2 ⟨u, rfl, ho⟩
   obtain ⟨s1, s2, s3, s4, rfl⟩ := ho.shape
   simp only [List.length_nil] at ho ⊢
   have F := Hz (F.out.trans (ho.fr.alloc (.cells #[.slice s1 0 s2, .slice s3 0 s4] 34)) (by simp))
   clear ho k
   go_upto_region 4 with (fail)
   generalize hW : World.alloc w2 _ = w3 at *
   clear hW
   generalize w2.heap.size = p14 at *
   go_wp2
   refine bodyPost_ret (v := .tuple #[.pointer none, _]) (by simp [results, Tryz.results79, go_sem]) rfl ⟨⟨.pointer none, rfl, .inl ⟨by decide, rfl⟩⟩, F.out⟩
theorem next77 {okc : V -> Prop} {cf : V -> V -> Int} (hK : Ctx okc cf) {Q : Nat -> Prop} {w : World} (hQ : ∀ k, w.heap.size <= k -> Q k) {i : Iv} {v2 : Value} {r : List BA} (h2 : RdStr w v2 r) (hr : r.length <= 8796093021952) :
  Calls Tryz.prog 77 #[ivV i, v2] w fun e w' => (∃ p, e = .returned (.tuple #[p, .int .i64 (beginF i [] r)]) /\ (beginF i [] r ≠ 0 /\ p = .pointer none ∨ beginF i [] r = 0 /\ ∃ k vl vr, p = .pointer (some ⟨k, 0, none⟩) /\ w.heap.size <= k /\ FutAt Q w' k (fbeginS i false [] r 1 true) vl vr (.slice none 0 0))) /\ w.Fr w' [] := by
 obtain ⟨lo, hi, op⟩ := i
 have q1 := heap_alloc_at w (.cells #[.int .i64 lo, .int .i64 hi, .bool op] 23) _ rfl
 have f1 := (World.Fr.refl w []).alloc (.cells #[.int .i64 lo, .int .i64 hi, .bool op] 23)
 have hc := begin79 hK (Q := Q) (w := w.alloc (.cells #[.int .i64 lo, .int .i64 hi, .bool op] 23)) (fun k hk => hQ k (by have := f1.size; omega)) (i := ⟨lo, hi, op⟩) (nt := false) (parts := 1) (nx := true) (RdStr.none _) (h2.fr f1 (by simp)) (by simp) hr
 obtain ⟨c0, c1, c2, cf0⟩ := tri q1
 have hz := lt_of_heap q1
 have Hc := Hz hc; have F := Hz f1; have F0 := Hz f1.size
 clear hc f1 q1 h2 hK hr hQ
 obtain ⟨SS, hSS⟩ : ∃ SS, fbeginS ⟨lo, hi, op⟩ false [] r 1 true = SS := ⟨_, rfl⟩
 obtain ⟨R, hR⟩ : ∃ R, beginF ⟨lo, hi, op⟩ [] r = R := ⟨_, rfl⟩
 rw [hSS, hR] at Hc
 rw [hSS, hR]
 clear hSS hR
 go_enter Tryz.func77, Tryz.ntmps77
 go_upto_region 1 with (fail)
 generalize hW : World.alloc w _ = W at *
 clear hW
 go_wp2_with fail
 (with_reducible refine Hc.out.mono ?_)
 rintro e w1 ⟨⟨p, rfl, hp⟩, fx⟩
 have F := Hz (F.out.trans fx (by simp))
 have hsz : w.heap.size <= W.heap.size := F0.out
 have Hp := Hz hp
 clear hp fx c0 c1 c2 cf0 hz
 go_wp2
 refine bodyPost_ret (v := .tuple #[p, .int .i64 R]) (by simp [results, Tryz.results77, go_sem]) rfl ⟨⟨p, rfl, ?_⟩, F.out⟩
 rcases Hp.out with h | ⟨h, k, vl, vr, h1, h2, h3⟩
 ·exact .inl h
 ·exact .inr ⟨h, k, vl, vr, h1, by omega, h3⟩
theorem soon31 {okc : V -> Prop} {cf : V -> V -> Int} (hK : Ctx okc cf) {Q : Nat -> Prop} {w : World} (hQ : ∀ k, w.heap.size <= k -> Q k) {i : Iv} {v2 : Value} {r : List BA} (h2 : RdStr w v2 r) (hr : r.length <= 8796093021952) :
  Calls Tryz.prog 31 #[ivV i, v2] w fun e w' => (∃ p, e = .returned (.tuple #[p, .int .i64 (beginF i [] r)]) /\ (beginF i [] r ≠ 0 /\ p = .pointer none ∨ beginF i [] r = 0 /\ ∃ k vl vr, p = .pointer (some ⟨k, 0, none⟩) /\ w.heap.size <= k /\ FutAt Q w' k (fbeginS i false [] r 1 false) vl vr (.slice none 0 0))) /\ w.Fr w' [] := by
 obtain ⟨lo, hi, op⟩ := i
 have q1 := heap_alloc_at w (.cells #[.int .i64 lo, .int .i64 hi, .bool op] 23) _ rfl
 have f1 := (World.Fr.refl w []).alloc (.cells #[.int .i64 lo, .int .i64 hi, .bool op] 23)
 have hc := begin79 hK (Q := Q) (w := w.alloc (.cells #[.int .i64 lo, .int .i64 hi, .bool op] 23)) (fun k hk => hQ k (by have := f1.size; omega)) (i := ⟨lo, hi, op⟩) (nt := false) (parts := 1) (nx := false) (RdStr.none _) (h2.fr f1 (by simp)) (by simp) hr
 obtain ⟨c0, c1, c2, cf0⟩ := tri q1
 have hz := lt_of_heap q1
 have Hc := Hz hc; have F := Hz f1; have F0 := Hz f1.size
 clear hc f1 q1 h2 hK hr hQ
 obtain ⟨SS, hSS⟩ : ∃ SS, fbeginS ⟨lo, hi, op⟩ false [] r 1 false = SS := ⟨_, rfl⟩
 obtain ⟨R, hR⟩ : ∃ R, beginF ⟨lo, hi, op⟩ [] r = R := ⟨_, rfl⟩
 rw [hSS, hR] at Hc
 rw [hSS, hR]
 clear hSS hR
 go_enter Tryz.func31, Tryz.ntmps31
 go_upto_region 1 with (fail)
 generalize hW : World.alloc w _ = W at *
 clear hW
 go_wp2_with fail
 (with_reducible refine Hc.out.mono ?_)
 rintro e w1 ⟨⟨p, rfl, hp⟩, fx⟩
 have F := Hz (F.out.trans fx (by simp))
 have hsz : w.heap.size <= W.heap.size := F0.out
 have Hp := Hz hp
 clear hp fx c0 c1 c2 cf0 hz
 go_wp2
 refine bodyPost_ret (v := .tuple #[p, .int .i64 R]) (by simp [results, Tryz.results31, go_sem]) rfl ⟨⟨p, rfl, ?_⟩, F.out⟩
 rcases Hp.out with h | ⟨h, k, vl, vr, h1, h2, h3⟩
 ·exact .inl h
 ·exact .inr ⟨h, k, vl, vr, h1, by omega, h3⟩
theorem until32 {okc : V -> Prop} {cf : V -> V -> Int} (hK : Ctx okc cf) {Q : Nat -> Prop} {w : World} (hQ : ∀ k, w.heap.size <= k -> Q k) {i : Iv} {nt : Bool} {v1 v2 : Value} {l r : List BA} (h1 : RdStr w v1 l) (h2 : RdStr w v2 r) (hl : l.length <= 8796093021952) (hr : r.length <= 8796093021952) :
  Calls Tryz.prog 32 #[ivV i, .bool nt, v1, v2] w fun e w' => (∃ p, e = .returned (.tuple #[p, .int .i64 (beginF i l r)]) /\ (beginF i l r ≠ 0 /\ p = .pointer none ∨ beginF i l r = 0 /\ ∃ k vl vr, p = .pointer (some ⟨k, 0, none⟩) /\ w.heap.size <= k /\ FutAt Q w' k (fbeginS i nt l r 2 false) vl vr (.slice none 0 0))) /\ w.Fr w' [] := by
 obtain ⟨lo, hi, op⟩ := i
 have q1 := heap_alloc_at w (.cells #[.int .i64 lo, .int .i64 hi, .bool op] 23) _ rfl
 have f1 := (World.Fr.refl w []).alloc (.cells #[.int .i64 lo, .int .i64 hi, .bool op] 23)
 have hc := begin79 hK (Q := Q) (w := w.alloc (.cells #[.int .i64 lo, .int .i64 hi, .bool op] 23)) (fun k hk => hQ k (by have := f1.size; omega)) (i := ⟨lo, hi, op⟩) (nt := nt) (parts := 2) (nx := false) (h1.fr f1 (by simp)) (h2.fr f1 (by simp)) hl hr
 obtain ⟨c0, c1, c2, cf0⟩ := tri q1
 have hz := lt_of_heap q1
 have Hc := Hz hc; have F := Hz f1; have F0 := Hz f1.size
 clear hc f1 q1 h2 h1 hl hK hr hQ
 obtain ⟨SS, hSS⟩ : ∃ SS, fbeginS ⟨lo, hi, op⟩ nt l r 2 false = SS := ⟨_, rfl⟩
 obtain ⟨R, hR⟩ : ∃ R, beginF ⟨lo, hi, op⟩ l r = R := ⟨_, rfl⟩
 rw [hSS, hR] at Hc
 rw [hSS, hR]
 clear hSS hR
 go_enter Tryz.func32, Tryz.ntmps32
 go_upto_region 1 with (fail)
 generalize hW : World.alloc w _ = W at *
 clear hW
 go_wp2_with fail
 (with_reducible refine Hc.out.mono ?_)
 rintro e w1 ⟨⟨p, rfl, hp⟩, fx⟩
 have F := Hz (F.out.trans fx (by simp))
 have hsz : w.heap.size <= W.heap.size := F0.out
 have Hp := Hz hp
 clear hp fx c0 c1 c2 cf0 hz
 go_wp2
 refine bodyPost_ret (v := .tuple #[p, .int .i64 R]) (by simp [results, Tryz.results32, go_sem]) rfl ⟨⟨p, rfl, ?_⟩, F.out⟩
 rcases Hp.out with h | ⟨h, k, vl, vr, h1, h2, h3⟩
 ·exact .inl h
 ·exact .inr ⟨h, k, vl, vr, h1, by omega, h3⟩
end
section
open Go.RowKit
abbrev FS.ps (S : FS) : PS := ⟨S.i, S.nt, S.left, S.right, S.time, [], 0, S.parts⟩
open Classical in
theorem wrongE_fs {cf : V -> V -> Int} {S : FS} {n : Int} {ts : List Tb} : wrongE cf S.ps n ts = if n < 0 ∨ 1099511627776 < n ∨ n < S.time then 80
 else if (ts.length : Int) ≠ S.parts then 1
 else if firstBad cf ts ≠ 0 then firstBad cf ts
 else if (S.parts = 2 /\ ∃ t, ts[0]? = some t /\ t.vars ≠ S.left) ∨ (∃ t, ts[ts.length - 1]? = some t /\ t.vars ≠ S.right) then 30 else 0 := rfl
theorem wrong80 {okc : V -> Prop} {cf : V -> V -> Int} (hK : Ctx okc cf) {Q : Nat -> Prop} {w : World} {p : Nat} {S : FS} {vl vr vw v : Value} {ts : List Tb} {n : Int} (h : FutAt Q w p S vl vr vw) (ht : RdTabs w v ts) (hS : S.left.length <= 8 /\ S.right.length <= 8) (hp : S.parts = 1 ∨ S.parts = 2) (hts : ts.length <= 8796093021952) (hf : ∀ t, t ∈ ts -> Fits okc t) :
  Calls Tryz.prog 80 #[.pointer (some ⟨p, 0, none⟩), .int .i64 n, v] w fun e w' => e = .returned (.int .i64 (wrongE cf S.ps n ts)) /\ w.Fr w' [] := by
 obtain ⟨v1, v2, rfl⟩ := ht.shape
 obtain ⟨a1, a2, rfl, _, _⟩ := h.left.shape
 obtain ⟨b1, b2, rfl, _, _⟩ := h.right.shape
 obtain ⟨R, hR⟩ : ∃ R, wrongE cf S.ps n ts = R := ⟨_, rfl⟩
 rw [hR]
 rw [wrongE_fs] at hR
 have hq := h.box
 have hl := h.rdl; have hr := h.rdr
 have H := Hz h; have HT := Hz ht; have HK := Hz hK; have HF := Hz hf; have HR := Hz hR; have HS := Hz hS; have Hts := Hz hts
 have Q := Hz hq; have HL := Hz hl; have HRR := Hz hr; have HP := Hz hp
 obtain ⟨e0, e1, e2, e3, e4, e5, e6, e7, e8, e9, e10, ef⟩ := eleven hq
 have hz := lt_of_heap hq
 clear h ht hK hf hR hS hts hq hl hr hp
 go_enter Tryz.func80, Tryz.ntmps80
 cases h1 : decide (n < 0) with
 | true =>
  have hres : R = 80 := by rw [<- HR.out, if_pos (.inl (of_decide_eq_true h1))]
  subst hres
  clear HR
  go_wp2
  go_ret
  exact ⟨rfl, World.Fr.refl w []⟩
 | false =>
 cases h2 : decide (1099511627776 < n) with
 | true =>
  have hres : R = 80 := by rw [<- HR.out, if_pos (.inr (.inl (of_decide_eq_true h2)))]
  subst hres
  clear HR
  go_wp2
  go_ret
  exact ⟨rfl, World.Fr.refl w []⟩
 | false =>
 cases h3 : decide (n < S.time) with
 | true =>
  have hres : R = 80 := by rw [<- HR.out, if_pos (.inr (.inr (of_decide_eq_true h3)))]
  subst hres
  clear HR
  go_wp2
  go_ret
  exact ⟨rfl, World.Fr.refl w []⟩
 | false =>
 have hR := HR.out
 rw [if_neg (fun h => h.elim (fun h => of_decide_eq_false h1 h) (fun h => h.elim (fun h => of_decide_eq_false h2 h) (fun h => of_decide_eq_false h3 h)))] at hR
 clear HR
 by_cases h4 : (ts.length : Int) = S.parts
 ·rw [if_neg (fun h => h h4)] at hR
  have h5 : ((ts.length : Int) != S.parts) = false := by simp [h4]
  have HR := Hz hR
  have H4 := Hz h4
  clear hR h4
  have HB0 : Hid (firstBad cf (ts.take 0) = 0) := Hz rfl
  go_wp2
  have HFr := Hz (World.Fr.refl w [])
  go_loopw [33] (fun i wr => ∃ j : Nat, i = .int .i64 j /\ j <= ts.length /\ Hid (firstBad cf (ts.take j) = 0) /\ Hid (w.Fr wr [])) (fun i _ => (ts.length - intOf i).toNat)
  case atStart => exact ⟨0, rfl, Nat.zero_le _, HB0, HFr⟩
  case round =>
   obtain ⟨j, rfl, hj, HB, HW⟩ := hrel
   clear HB0 HFr e0 e1 e2 e3 e4 e5 e6 e7 e8 e9 e10 ef
   by_cases hlt : j < ts.length
   ·obtain ⟨t, ht⟩ : ∃ t, ts[j]? = some t := ⟨ts[j], List.getElem?_eq_getElem hlt⟩
    obtain ⟨g, off, c, x1, x2, x3, x4, hv, hg, k1, k2, hrd⟩ := (HT.out.still HW.out).at ht
    cases hv
    have hjI : (j : Int) < (ts.length : Int) := by omega
    have hw1 : IntKind.i64.wrap ((j : Int) + 1) = (j : Int) + 1 := IntWalk.i64_in _ (by have := Hts.out; omega)
    have hnn : (0 : Int) <= (j : Int) := by omega
    have hfit := HF.out t (List.mem_of_getElem? ht)
    have hc := check15' HK.out.known (hrd.still ((World.Fr.refl wr []).alloc (.cells #[.slice x1 t.vars.length x2, .slice x3 t.rows.length x4] 34))) hfit.ok hfit.small
    have q8 := heap_alloc_at wr (.cells #[.slice x1 t.vars.length x2, .slice x3 t.rows.length x4] 34) _ rfl
    have HW := Hz (HW.out.trans ((World.Fr.refl wr []).alloc (.cells #[.slice x1 t.vars.length x2, .slice x3 t.rows.length x4] 34)) (by simp))
    have Hc := Hz hc; have Ht := Hz ht
    clear hc ht hrd hfit
    go_upto_region 8 with (fail)
    generalize hWW : World.alloc wr _ = w8 at *
    clear hWW
    generalize wr.heap.size = p8 at *
    obtain ⟨m0, m1, mf⟩ := two q8
    have hz8 := lt_of_heap q8
    clear q8 k1 k2 hg
    go_wp2_with fail
    (with_reducible refine Hc.out.mono ?_)
    rintro e w9 ⟨rfl, fx⟩
    have HW := Hz (HW.out.trans fx (by simp))
    clear fx m0 m1 mf hz8 Hc
    by_cases h0 : tcheck cf t = 0
    ·have h0b : (tcheck cf t != 0) = false := by simp [h0]
     have HB2 := Hz ((firstBad_step Ht.out HB.out).trans h0)
     clear h0
     go_wp2
     go_roundw
     case rel => exact ⟨j + 1, by go_num, by omega, HB2, HW⟩
     case measure => simp [intOf]; omega
    ·have h0b : (tcheck cf t != 0) = true := by simp [h0]
     have hb := firstBad_found Ht.out HB.out h0
     have hres : R = tcheck cf t := by rw [<- HR.out, if_pos (by rw [hb]; exact h0), hb]
     subst hres
     clear HR h0 hb
     go_wp2
     go_ret
     exact ⟨rfl, HW.out⟩
   ·have hd : decide ((j : Int) < (ts.length : Int)) = false := decide_eq_false (by omega)
    have hd2 : decide (j < ts.length) = false := decide_eq_false hlt
    obtain rfl : j = ts.length := by omega
    have hb := HB.out
    rw [List.take_of_length_le (Nat.le_refl _)] at hb
    have hR := HR.out
    rw [if_neg (fun h => h hb)] at hR
    clear HB HR hb hj hlt hd hd2
    have q := HW.out.heap Q.out (by simp)
    obtain ⟨e0, e1, e2, e3, e4, e5, e6, e7, e8, e9, e10, ef⟩ := eleven q
    have hzr := lt_of_heap q
    have hls := HS.out
    have hrr := HRR.out.fr HW.out (by simp)
    have hll := HL.out.fr HW.out (by simp)
    clear q
    rcases HP.out with hp | hp
    ·rw [hp] at e9 hR
     have h4 := H4.out
     rw [hp] at h4
     have h1 : ts.length = 1 := by omega
     obtain ⟨t, ht⟩ : ∃ t, ts[0]? = some t := ⟨ts[0], List.getElem?_eq_getElem (by omega)⟩
     obtain ⟨g, off, c, x1, x2, x3, x4, hv, hg, k1, k2, hrd⟩ := (HT.out.still HW.out).at ht
     cases hv
     simp only [Nat.zero_mul, Nat.add_zero] at k1 k2
     have hvr : RdStr wr (.slice x1 t.vars.length x2) t.vars := by
      obtain ⟨va, vb, hs, he, hv, _⟩ := hrd.ex
      cases he
      exact hv
     have hfit := HF.out t (List.mem_of_getElem? ht)
     have hq1 : ∀ m, Calls Tryz.prog 106 #[.slice x1 t.vars.length x2, .slice b1 S.right.length b2] (wr.drewN m) fun e w' => e = .returned (.bool (eqB t.vars S.right)) /\ ∃ q, w' = (wr.drewN m).drewN q := fun m => eqq106 (hvr.fr ((World.Fr.refl wr []).of_drewN m) (by simp)) (hrr.fr ((World.Fr.refl wr []).of_drewN m) (by simp)) (by have := hfit.small.vars; omega) (by omega)
     by_cases he : t.vars = S.right
     ·have hres : R = 0 := by
       rw [<- hR, if_neg]
       rintro (⟨h, _⟩ | ⟨t', g1, g2⟩)
       ·omega
       ·rw [h1] at g1; simp only [Nat.sub_self] at g1; rw [ht] at g1; cases g1; exact g2 he
      subst hres
      rw [eqB_true he] at hq1
      clear hR he
      simp only [h1] at *
      go_wp2
      go_quiet (first | (go_at_call 106; with_reducible exact Calls.quiet_of (hq1 _)))
      go_wp2
      go_ret
      exact ⟨rfl, HW.out.of_drewN _⟩
     ·have hres : R = 30 := by
       rw [<- hR, if_pos (.inr ⟨t, by rw [h1]; exact ht, he⟩)]
      subst hres
      rw [eqB_false he] at hq1
      clear hR he
      simp only [h1] at *
      go_wp2
      go_quiet (first | (go_at_call 106; with_reducible exact Calls.quiet_of (hq1 _)))
      go_wp2
      go_ret
      exact ⟨rfl, HW.out.of_drewN _⟩
    ·rw [hp] at e9 hR
     have h4 := H4.out
     rw [hp] at h4
     have h1 : ts.length = 2 := by omega
     obtain ⟨t, ht⟩ : ∃ t, ts[0]? = some t := ⟨ts[0], List.getElem?_eq_getElem (by omega)⟩
     obtain ⟨t', ht'⟩ : ∃ t, ts[1]? = some t := ⟨ts[1], List.getElem?_eq_getElem (by omega)⟩
     obtain ⟨g, off, c, x1, x2, x3, x4, hv, hg, k1, k2, hrd⟩ := (HT.out.still HW.out).at ht
     obtain ⟨g', off', c', y1, y2, y3, y4, hv', hg', k3, k4, hrd'⟩ := (HT.out.still HW.out).at ht'
     cases hv
     cases hv'
     simp only [Nat.zero_mul, Nat.add_zero, Nat.one_mul] at k1 k2 k3 k4
     have hvr : RdStr wr (.slice x1 t.vars.length x2) t.vars := by
      obtain ⟨va, vb, hs, he, hv, _⟩ := hrd.ex
      cases he
      exact hv
     have hvr' : RdStr wr (.slice y1 t'.vars.length y2) t'.vars := by
      obtain ⟨va, vb, hs, he, hv, _⟩ := hrd'.ex
      cases he
      exact hv
     have hfit := HF.out t (List.mem_of_getElem? ht)
     have hfit' := HF.out t' (List.mem_of_getElem? ht')
     have hq0 : ∀ m, Calls Tryz.prog 106 #[.slice x1 t.vars.length x2, .slice a1 S.left.length a2] (wr.drewN m) fun e w' => e = .returned (.bool (eqB t.vars S.left)) /\ ∃ q, w' = (wr.drewN m).drewN q := fun m => eqq106 (hvr.fr ((World.Fr.refl wr []).of_drewN m) (by simp)) (hll.fr ((World.Fr.refl wr []).of_drewN m) (by simp)) (by have := hfit.small.vars; omega) (by omega)
     have hq1 : ∀ m, Calls Tryz.prog 106 #[.slice y1 t'.vars.length y2, .slice b1 S.right.length b2] (wr.drewN m) fun e w' => e = .returned (.bool (eqB t'.vars S.right)) /\ ∃ q, w' = (wr.drewN m).drewN q := fun m => eqq106 (hvr'.fr ((World.Fr.refl wr []).of_drewN m) (by simp)) (hrr.fr ((World.Fr.refl wr []).of_drewN m) (by simp)) (by have := hfit'.small.vars; omega) (by omega)
     by_cases hel : t.vars = S.left
     ·rw [eqB_true hel] at hq0
      by_cases he : t'.vars = S.right
      ·have hres : R = 0 := by
        rw [<- hR, if_neg]
        rintro (⟨_, t'', g1, g2⟩ | ⟨t'', g1, g2⟩)
        ·rw [ht] at g1; cases g1; exact g2 hel
        ·rw [h1] at g1; rw [ht'] at g1; cases g1; exact g2 he
       subst hres
       rw [eqB_true he] at hq1
       clear hR he hel
       simp only [h1] at *
       go_wp2
       go_quiet (first | (go_at_call 106; with_reducible exact Calls.quiet_of (hq0 _)) | (go_at_call 106; with_reducible exact Calls.quiet_of (hq1 _)))
       go_wp2
       go_ret
       exact ⟨rfl, HW.out.of_drewN _⟩
      ·have hres : R = 30 := by
        rw [<- hR, if_pos (.inr ⟨t', by rw [h1]; exact ht', he⟩)]
       subst hres
       rw [eqB_false he] at hq1
       clear hR he hel
       simp only [h1] at *
       go_wp2
       go_quiet (first | (go_at_call 106; with_reducible exact Calls.quiet_of (hq0 _)) | (go_at_call 106; with_reducible exact Calls.quiet_of (hq1 _)))
       go_wp2
       go_ret
       exact ⟨rfl, HW.out.of_drewN _⟩
     ·have hres : R = 30 := by
       rw [<- hR, if_pos (.inl ⟨rfl, t, ht, hel⟩)]
      subst hres
      rw [eqB_false hel] at hq0
      clear hR hel
      simp only [h1] at *
      go_wp2
      go_quiet (first | (go_at_call 106; with_reducible exact Calls.quiet_of (hq0 _)))
      go_wp2
      go_ret
      exact ⟨rfl, HW.out.of_drewN _⟩
 ·rw [if_pos h4] at hR
  have h5 : ((ts.length : Int) != S.parts) = true := by simp [h4]
  subst hR
  clear h4
  go_wp2
  go_ret
  exact ⟨rfl, World.Fr.refl w []⟩
end
section
open Go.RowKit
def finB (n : Int) (i : Iv) : Bool := decide (i.lo <= n) && decide (n <= i.hi)
theorem in138 {Q : Nat -> Prop} {w : World} {p : Nat} {S : FS} {vl vr vp : Value} (h : FutAt Q w p S vl vr vp) (n : Int) : Calls Tryz.prog 138 #[.pointer (some ⟨p, 0, none⟩), .int .i64 n] w fun e w' => e = .returned (.bool (finB n S.i)) /\ w = w' := by
 obtain ⟨R, hR⟩ : ∃ R, finB n S.i = R := ⟨_, rfl⟩
 rw [hR]
 unfold finB at hR
 obtain ⟨e0, e1, e2, e3, e4, e5, e6, e7, e8, e9, e10, ef⟩ := eleven h.box
 have hz := lt_of_heap h.box
 clear h
 go_enter Tryz.func138, Tryz.ntmps138
 cases h1 : decide (S.i.lo <= n) with
 | false =>
  rw [h1] at hR
  simp only [Bool.false_and] at hR
  subst hR
  go_wp2
  go_ret
  exact ⟨rfl, rfl⟩
 | true =>
  rw [h1] at hR
  simp only [Bool.true_and] at hR
  subst hR
  go_wp2
  go_ret
  exact ⟨rfl, rfl⟩
noncomputable def heldU (cf : V -> V -> Int) (S : FS) (t : Tb) (l : List Sn) : Tb := if S.parts = 1 then t else l.foldl (fun t q => holdT cf S.nt t q.tl) t
noncomputable def untilTo (cf : V -> V -> Int) (S : FS) (now : Int) : Nat -> Tb
 | 0 => ⟨S.right, []⟩
 | j + 1 => match S.pts[j]? with
  | none => untilTo cf S now j
  | some k => if finB (k.time - now) S.i then (unionT cf (untilTo cf S now j) (heldU cf S k.tr (S.pts.take j))).2 else untilTo cf S now j
structure FOk (cf : V -> V -> Int) (S : FS) : Prop where
 upl : S.left.Pairwise fun a b => ltS a b = true
 up : S.right.Pairwise fun a b => ltS a b = true
 le8 : S.left.length <= 8 /\ S.right.length <= 8
 parts : S.parts = 1 ∨ S.parts = 2
 sub : ∀ s, s ∈ S.left -> s ∈ S.right
 time : -1 <= S.time /\ S.time <= 1099511627776
 times : ∀ k, k ∈ S.pts -> 0 <= k.time /\ k.time <= S.time
 good : ∀ k, k ∈ S.pts -> Good cf k.tr /\ k.tr.vars = S.right /\ k.tr.rows.length <= 600
 goodl : S.parts = 2 -> ∀ k, k ∈ S.pts -> Good cf k.tl /\ k.tl.vars = S.left /\ k.tl.rows.length <= 600
 many : S.pts.length <= 1000
 told : 0 <= S.told /\ S.told <= 1000
 iv : fivB S.i = true
theorem heldU_good {cf : V -> V -> Int} (hO : OrdOk okW cf) {S : FS} (h : FOk cf S) {t : Tb} (ht : Good cf t /\ t.vars = S.right /\ t.rows.length <= 600) (l : List Sn) (hl : ∀ k, k ∈ l -> k ∈ S.pts) : Good cf (heldU cf S t l) /\ (heldU cf S t l).vars = S.right /\ (heldU cf S t l).rows.length <= 600 := by
 unfold heldU
 split
 ·exact ht
 ·rename_i hp
  have h2 := h.parts.resolve_left hp
  induction l generalizing t with
  | nil => exact ht
  | cons a r ih =>
   rw [List.foldl_cons]
   obtain ⟨k1, k2, k3⟩ := h.goodl h2 a (hl a (by simp))
   obtain ⟨q1, q2, q3⟩ := hold_small hO (nt := S.nt) ht.1 k1 (fun s hs => by rw [ht.2.1]; rw [k2] at hs; exact h.sub s hs)
   exact ih ⟨q1, q2.trans ht.2.1, Nat.le_trans q3 ht.2.2⟩ (fun k hk => hl k (by simp [hk]))
theorem heldU_step {cf : V -> V -> Int} {S : FS} {t : Tb} {l : List Sn} {m : Nat} {q : Sn} (h : S.parts = 2) (hq : l[m]? = some q) : heldU cf S t (l.take (m + 1)) = holdT cf S.nt (heldU cf S t (l.take m)) q.tl := by
 have hlt := (List.getElem?_eq_some_iff.1 hq).1
 unfold heldU
 rw [if_neg (by rw [h]; decide), if_neg (by rw [h]; decide), List.take_succ_eq_append_getElem hlt, (List.getElem?_eq_some_iff.1 hq).2, List.foldl_append]
 rfl
theorem heldU_one {cf : V -> V -> Int} {S : FS} {t : Tb} {l : List Sn} (h : S.parts = 1) : heldU cf S t l = t := by unfold heldU; rw [if_pos h]
theorem untilTo_good {cf : V -> V -> Int} (hO : OrdOk okW cf) {S : FS} (h : FOk cf S) {now : Int} : ∀ j, Good cf (untilTo cf S now j) /\ (untilTo cf S now j).vars = S.right /\ (untilTo cf S now j).rows.length <= j * 600
 | 0 => ⟨⟨h.le8.2, h.up, by simp [untilTo], by simp [untilTo], by simp [untilTo]⟩, rfl, by simp [untilTo]⟩
 | j + 1 => by
  obtain ⟨h1, h2, h3⟩ := untilTo_good hO h (now := now) j
  unfold untilTo
  split
  ·exact ⟨h1, h2, Nat.le_trans h3 (Nat.mul_le_mul_right _ (Nat.le_succ j))⟩
  ·rename_i k hk
   split
   ·obtain ⟨g1, g2, g3⟩ := heldU_good hO h (h.good k (List.mem_of_getElem? hk)) (S.pts.take j) (fun k hk => List.mem_of_mem_take hk)
    obtain ⟨u1, u2, u3, _⟩ := union_small hO h1 g1 (by rw [h2, g2])
    exact ⟨u1, u2.trans h2, by rw [Nat.succ_mul]; exact Nat.le_trans u3 (Nat.add_le_add h3 g3)⟩
   ·exact ⟨h1, h2, Nat.le_trans h3 (Nat.mul_le_mul_right _ (Nat.le_succ j))⟩
theorem untilTo_step {cf : V -> V -> Int} {S : FS} {now : Int} {j : Nat} {k : Sn} (hk : S.pts[j]? = some k) : untilTo cf S now (j + 1) = if finB (k.time - now) S.i then (unionT cf (untilTo cf S now j) (heldU cf S k.tr (S.pts.take j))).2 else untilTo cf S now j := by
 conv => lhs; unfold untilTo
 rw [hk]
structure UB (w wr : World) (p4 p5 : Nat) (xa xb : Value) (t : Tb) : Prop where
 fr : w.Fr wr []
 b4 : wr.heap[p4]? = some (.cells #[.slice none 0 0, .slice none 0 0] 34 (0, 0))
 b5 : wr.heap[p5]? = some (.cells #[xa, xb] 34 (0, 0))
 sl : SlTab wr (.agg #[xa, xb]) t
theorem UB.still {w wr w' : World} {p4 p5 : Nat} {xa xb : Value} {t : Tb} (h : UB w wr p4 p5 xa xb t) (hf : wr.Fr w' []) : UB w w' p4 p5 xa xb t := ⟨h.fr.trans hf (by simp), hf.heap h.b4 (by simp), hf.heap h.b5 (by simp), h.sl.still hf⟩
theorem UB.off {w wr w' : World} {p4 p5 b : Nat} {xa xb : Value} {t : Tb} {cs : Array Value} (h : UB w wr p4 p5 xa xb t) (hf : wr.Fr w' [b]) (hb : wr.heap[b]? = some (.cells cs 34 (0, 0))) (h4 : p4 ≠ b) (h5 : p5 ≠ b) (hw : w.heap.size <= b) : UB w w' p4 p5 xa xb t :=
 ⟨h.fr.trans hf (fun k hk => .inr (by simp at hk; subst hk; exact hw)), hf.heap h.b4 (by simpa using h4), hf.heap h.b5 (by simpa using h5), h.sl.fr hf (Odd.one hb (by decide))⟩
end
section
open Go.RowKit
theorem until140 {cf : V -> V -> Int} (hK : Ctx V.wf cf) {Q : Nat -> Prop} {w : World} {p : Nat} {S : FS} {vl vr vp : Value} (h : FutAt Q w p S vl vr vp) (hO : FOk cf S) (now : Int) (hnow : 0 <= now /\ now <= 1099511627776) :
  Calls Tryz.prog 140 #[.pointer (some ⟨p, 0, none⟩), .int .i64 now] w fun e w' => ∃ u, e = .returned u /\ SlTab w' u (untilTo cf S now S.pts.length) /\ w.Fr w' [] := by
 obtain ⟨a1, a2, rfl, _, _⟩ := h.left.shape
 obtain ⟨b1, b2, rfl, _, _⟩ := h.right.shape
 obtain ⟨d1, d2, rfl, _, _⟩ := h.pts.sl.shape
 have f4 := (World.Fr.refl w []).alloc (.cells #[.slice none 0 0, .slice none 0 0] 34)
 have q4 := heap_alloc_at w (.cells #[.slice none 0 0, .slice none 0 0] 34) _ rfl
 have hlt := lt_of_heap h.box
 have H := Hz h; have HK := Hz hK; have HO := Hz hO; have HN := Hz hnow; have HP := Hz hlt
 have Q4 := Hz q4; have F := Hz f4
 have hml := hO.many
 clear h hK hO hnow q4 f4 hlt
 go_enter Tryz.func140, Tryz.ntmps140
 go_upto_region 1 with (fail)
 generalize hW : World.alloc w _ = W at *
 clear hW
 generalize hp4 : w.heap.size = p4 at Q4 ⊢
 have HP4 := Hz hp4
 have HZ4 := Hz (lt_of_heap Q4.out)
 clear hp4
 obtain ⟨e0, e1, e2, e3, e4, e5, e6, e7, e8, e9, e10, ef⟩ := eleven (F.out.heap H.out.box (by simp))
 have hzp := lt_of_heap (F.out.heap H.out.box (by simp))
 have k := empty31 HK.out (H.out.rdr.fr F.out (by simp)) (by have := HO.out.le8.2; omega)
 rw [ofT_none HO.out.up HO.out.le8.2] at k
 have k := Hz k
 go_wp2_with fail
 (with_reducible refine k.out.mono ?_)
 rintro e w1 ⟨u, rfl, ho⟩
 obtain ⟨t1, t2, t3, t4, rfl⟩ := ho.shape
 simp only [List.length_nil] at ho ⊢
 have Q4 := Hz (heap_alloc_some (ho.fr.heap Q4.out (by simp)) (.cells #[.slice t1 S.right.length t2, .slice t3 0 t4] 34))
 have Q5 := Hz (heap_alloc_at w1 (.cells #[.slice t1 S.right.length t2, .slice t3 0 t4] 34) _ rfl)
 have F := Hz (F.out.trans (ho.fr.alloc (.cells #[.slice t1 S.right.length t2, .slice t3 0 t4] 34)) (by simp))
 have O := Hz (ho.stay ((World.Fr.refl w1 []).alloc (.cells #[.slice t1 S.right.length t2, .slice t3 0 t4] 34))).sl
 have H45 : Hid (p4 < w1.heap.size) := Hz (Nat.lt_of_lt_of_le HZ4.out ho.fr.size)
 clear ho k HZ4 e0 e1 e2 e3 e4 e5 e6 e7 e8 e9 e10 ef hzp
 go_upto_region 2 with (fail)
 generalize hW : World.alloc w1 _ = w2 at *
 clear hW
 generalize hp5 : w1.heap.size = p5 at Q5 H45 ⊢
 clear hp5
 have HU0 : Hid (UB w w2 p4 p5 (.slice t1 S.right.length t2) (.slice t3 0 t4) (untilTo cf S now 0)) := Hz ⟨F.out, Q4.out, Q5.out, O.out⟩
 obtain ⟨e0, e1, e2, e3, e4, e5, e6, e7, e8, e9, e10, ef⟩ := eleven (F.out.heap H.out.box (by simp))
 have hzp := lt_of_heap (F.out.heap H.out.box (by simp))
 clear Q4 Q5 O F
 go_wp2
 go_loopw [25] (fun i wr => ∃ (j : Nat) (xa xb : Value), i = .int .i64 j /\ j <= S.pts.length /\ Hid (UB w wr p4 p5 xa xb (untilTo cf S now j))) (fun i _ => (S.pts.length - intOf i).toNat)
 case atStart => exact ⟨0, _, _, rfl, Nat.zero_le _, HU0⟩
 case round =>
  obtain ⟨j, xa, xb, rfl, hj, HU⟩ := hrel
  clear HU0 e0 e1 e2 e3 e4 e5 e6 e7 e8 e9 e10 ef hzp
  by_cases hlt : j < S.pts.length
  ·obtain ⟨k, hk⟩ : ∃ k, S.pts[j]? = some k := ⟨S.pts[j], List.getElem?_eq_getElem hlt⟩
   have hfa := H.out.still HU.out.fr
   obtain ⟨g, off, c, hv, hcc, hg, k0, k1, k2, k3, k4, kf, ktl, ktr⟩ := hfa.pts.at hk
   cases hv
   have hktime := HO.out.times k (List.mem_of_getElem? hk)
   have hw2 : IntKind.i64.wrap (k.time - now) = k.time - now := IntWalk.i64_in _ (by have := HN.out; have := HO.out.time; omega)
   have hst := untilTo_step (cf := cf) (now := now) hk
   have hkg := HO.out.good k (List.mem_of_getElem? hk)
   obtain ⟨kt, ka, kb, kc, kd, ktbl, ktbr⟩ := k
   obtain ⟨z1, z2, z3, z4, ea, eb⟩ := ktl.shape
   obtain ⟨y1, y2, y3, y4, ec, ed⟩ := ktr.shape
   simp only at k0 k1 k2 k3 k4 ktl ktr hktime hw2 hst hkg ea eb ec ed
   subst ea eb ec ed
   obtain ⟨q1, q2, q3, q4, rfl, rfl⟩ := HU.out.sl.shape
   have hjI : (j : Int) < (S.pts.length : Int) := by omega
   have hw1 : IntKind.i64.wrap ((j : Int) + 1) = (j : Int) + 1 := IntWalk.i64_in _ (by omega)
   have hnn : (0 : Int) <= (j : Int) := by omega
   have f8 := (World.Fr.refl wr []).alloc (.cells #[.int .i64 kt, .slice z1 ktbl.vars.length z2, .slice z3 ktbl.rows.length z4, .slice y1 ktbr.vars.length y2, .slice y3 ktbr.rows.length y4] 121)
   have q8 := heap_alloc_at wr (.cells #[.int .i64 kt, .slice z1 ktbl.vars.length z2, .slice z3 ktbl.rows.length z4, .slice y1 ktbr.vars.length y2, .slice y3 ktbr.rows.length y4] 121) _ rfl
   have Hst := Hz hst; have HU := Hz (HU.out.still f8); have Q8 := Hz q8; have HTr := Hz (ktr.sl.still f8); have HKg := Hz hkg; have HFa := Hz (hfa.still f8); have Hk := Hz hk
   have Hcc := Hz hcc
   clear hst q8 hkg hfa hk hktime ktl ktr f8 hcc
   go_upto_region 5 with (fail)
   generalize hWW : World.alloc wr _ = w5 at *
   clear hWW
   generalize wr.heap.size = p8 at *
   obtain ⟨m0, m1, m2, m3, m4, mf⟩ := five Q8.out
   have hz8 := lt_of_heap Q8.out
   clear k0 k1 k2 k3 k4 kf hg
   have Hc := Hz (in138 HFa.out (kt - now))
   go_wp2_with fail
   (with_reducible refine Hc.out.mono ?_)
   rintro e w6 ⟨rfl, rfl⟩
   clear Hc
   cases hin : finB (kt - now) S.i with
   | false =>
    have hst := Hst.out
    rw [hin, if_neg (by simp)] at hst
    rw [<- hst] at HU
    clear hin hst Hst
    go_wp2
    go_roundw
    case rel => exact ⟨j + 1, _, _, by go_num, by omega, HU⟩
    case measure => simp [intOf]; omega
   | true =>
    have hst := Hst.out
    rw [hin, if_pos rfl] at hst
    have HSt := Hz hst
    clear hin hst Hst
    obtain ⟨m0, m1, m2, m3, m4, mf⟩ := five Q8.out
    have hz8 := lt_of_heap Q8.out
    have f9 := (World.Fr.refl w5 []).alloc (.cells #[.slice y1 ktbr.vars.length y2, .slice y3 ktbr.rows.length y4] 34)
    have q9 := heap_alloc_at w5 (.cells #[.slice y1 ktbr.vars.length y2, .slice y3 ktbr.rows.length y4] 34) _ rfl
    have H49 := Hz (show p4 < w5.heap.size /\ p5 < w5.heap.size from ⟨lt_of_heap HU.out.b4, lt_of_heap HU.out.b5⟩)
    have HU := Hz (HU.out.still f9); have Q9 := Hz q9; have HTr := Hz (HTr.out.still f9); have HFa := Hz (HFa.out.still f9)
    clear f9 q9
    go_upto_region 7 with (fail)
    generalize hWW : World.alloc w5 _ = w7 at *
    clear hWW m0 m1 m2 m3 m4 mf hz8
    generalize w5.heap.size = p9 at *
    have H49' : Hid (p4 < p9 /\ p5 < p9) := H49
    clear H49
    have H49 := H49'
    have HI0 : Hid (UB w w7 p4 p5 (.slice q1 (untilTo cf S now j).vars.length q2) (.slice q3 (untilTo cf S now j).rows.length q4) (untilTo cf S now j) /\ w7.heap[p9]? = some (.cells #[.slice y1 ktbr.vars.length y2, .slice y3 ktbr.rows.length y4] 34 (0, 0)) /\ SlTab w7 (.agg #[.slice y1 ktbr.vars.length y2, .slice y3 ktbr.rows.length y4]) (heldU cf S ktbr ((S.pts.take j).take 0))) := Hz ⟨HU.out, Q9.out, by
     have : heldU cf S ktbr ((S.pts.take j).take 0) = ktbr := by
      rw [List.take_zero]
      unfold heldU
      split <;> rfl
     rw [this]
     exact HTr.out⟩
    obtain ⟨e0, e1, e2, e3, e4, e5, e6, e7, e8, e9, e10, ef⟩ := eleven HFa.out.box
    have hzp := lt_of_heap HFa.out.box
    have hjc : j <= d2 := by have := Hcc.out; omega
    have hjcI : (j : Int) <= (d2 : Int) := by omega
    clear HU Q9 Q8 HTr HFa
    go_wp2
    go_loopw [46] (fun i wr => ∃ (m : Nat) (ya yb : Value), i = .int .i64 m /\ m <= j /\ Hid (UB w wr p4 p5 (.slice q1 (untilTo cf S now j).vars.length q2) (.slice q3 (untilTo cf S now j).rows.length q4) (untilTo cf S now j) /\ wr.heap[p9]? = some (.cells #[ya, yb] 34 (0, 0)) /\ SlTab wr (.agg #[ya, yb]) (heldU cf S ktbr ((S.pts.take j).take m)))) (fun i _ => (j - intOf i).toNat)
    case atStart => exact ⟨0, _, _, rfl, Nat.zero_le _, HI0⟩
    case round =>
     obtain ⟨m, ya, yb, rfl, hm, HI2⟩ := hrel
     clear HI0 e0 e1 e2 e3 e4 e5 e6 e7 e8 e9 e10 ef hzp
     obtain ⟨r1, r2, r3, r4, rfl, rfl⟩ := HI2.out.2.2.shape
     by_cases hmj : m < j
     ·have hml2 : m < S.pts.length := by omega
      obtain ⟨q, hq⟩ : ∃ q, S.pts[m]? = some q := ⟨S.pts[m], List.getElem?_eq_getElem hml2⟩
      have hq2 : (S.pts.take j)[m]? = some q := by rw [List.getElem?_take, if_pos hmj]; exact hq
      have hfa := H.out.still HI2.out.1.fr
      obtain ⟨g', off', c', hv, _, hg, k0, k1, k2, k3, k4, kf, ktl, ktr⟩ := hfa.pts.at hq
      cases hv
      have hqg0 := HO.out.goodl
      have hhg := heldU_good HK.out.ord HO.out (t := ktbr) HKg.out ((S.pts.take j).take m) (fun k hk => List.mem_of_mem_take (List.mem_of_mem_take hk))
      have hqm := List.mem_of_getElem? hq
      obtain ⟨qt, qa, qb, qc, qd, qtl, qtr⟩ := q
      obtain ⟨z5, z6, z7, z8, ea, eb⟩ := ktl.shape
      obtain ⟨y5, y6, y7, y8, ec, ed⟩ := ktr.shape
      simp only at k0 k1 k2 k3 k4 ktl ktr ea eb ec ed
      subst ea eb ec ed
      have hmI : (m : Int) < (j : Int) := by omega
      have hw3 : IntKind.i64.wrap ((m : Int) + 1) = (m : Int) + 1 := IntWalk.i64_in _ (by omega)
      have hmn : (0 : Int) <= (m : Int) := by omega
      have f11 := (World.Fr.refl wr []).alloc (.cells #[.int .i64 qt, .slice z5 qtl.vars.length z6, .slice z7 qtl.rows.length z8, .slice y5 qtr.vars.length y6, .slice y7 qtr.rows.length y8] 121)
      have q11 := heap_alloc_at wr (.cells #[.int .i64 qt, .slice z5 qtl.vars.length z6, .slice z7 qtl.rows.length z8, .slice y5 qtr.vars.length y6, .slice y7 qtr.rows.length y8] 121) _ rfl
      have HI2 := Hz (And.intro (HI2.out.1.still f11) (And.intro (f11.heap HI2.out.2.1 (by simp)) (HI2.out.2.2.still f11)))
      have Q11 := Hz q11; have HTl := Hz (ktl.sl.still f11); have HFa := Hz (hfa.still f11); have Hq := Hz hq2; have Hhg := Hz hhg; have Hqg := Hz (fun h => hqg0 h _ hqm)
      clear q11 ktl ktr hfa hq hq2 hqm hqg0 hhg f11
      go_upto_region 11 with (fail)
      generalize hWW : World.alloc wr _ = w11 at *
      clear hWW
      generalize wr.heap.size = p11 at *
      clear k0 k1 k2 k3 k4 kf hg
      obtain ⟨e0, e1, e2, e3, e4, e5, e6, e7, e8, e9, e10, ef⟩ := eleven HFa.out.box
      have hzp := lt_of_heap HFa.out.box
      rcases HO.out.parts with hp | hp
      ·rw [hp] at e9
       have HI3 : Hid (UB w w11 p4 p5 (.slice q1 (untilTo cf S now j).vars.length q2) (.slice q3 (untilTo cf S now j).rows.length q4) (untilTo cf S now j) /\ w11.heap[p9]? = some (.cells #[.slice r1 (heldU cf S ktbr ((S.pts.take j).take m)).vars.length r2, .slice r3 (heldU cf S ktbr ((S.pts.take j).take m)).rows.length r4] 34 (0, 0)) /\ SlTab w11 (.agg #[.slice r1 (heldU cf S ktbr ((S.pts.take j).take m)).vars.length r2, .slice r3 (heldU cf S ktbr ((S.pts.take j).take m)).rows.length r4]) (heldU cf S ktbr ((S.pts.take j).take (m + 1)))) := Hz ⟨HI2.out.1, HI2.out.2.1, by
        have h3 := HI2.out.2.2
        rw [heldU_one hp] at h3 ⊢
        rw [heldU_one hp]
        exact h3⟩
       clear hp HI2 HTl Q11
       go_wp2
       go_roundw
       case rel => exact ⟨m + 1, _, _, by go_num, by omega, HI3⟩
       case measure => simp [intOf]; omega
      ·rw [hp] at e9
       have Hqg := Hz (Hqg.out hp)
       rcases Bool.eq_false_or_eq_true S.nt with hnt | hnt
       ·rw [hnt] at e3
        have hc := anti26 HK.out HI2.out.2.2.rd HTl.out.rd (Hhg.out.1.fits (by have := Hhg.out.2.2; omega)) (Hqg.out.1.fits (by have := Hqg.out.2.2; omega))
        have hhold : (antiT cf (heldU cf S ktbr ((S.pts.take j).take m)) qtl).2 = heldU cf S ktbr ((S.pts.take j).take (m + 1)) := by
         rw [heldU_step hp Hq.out]
         unfold holdT
         rw [if_pos hnt]
        rw [hhold] at hc
        obtain ⟨nn, hnn⟩ : ∃ n, (antiT cf (heldU cf S ktbr ((S.pts.take j).take m)) qtl).1 = n := ⟨_, rfl⟩
        rw [hnn] at hc
        obtain ⟨T, hT⟩ : ∃ T, heldU cf S ktbr ((S.pts.take j).take (m + 1)) = T := ⟨_, rfl⟩
        rw [hT] at hc
        have Hc := Hz hc; have HT := Hz hT; have Hp := Hz hp; have Hnt := Hz hnt
        obtain ⟨m0, m1, m2, m3, m4, mf⟩ := five Q11.out
        have hz11 := lt_of_heap Q11.out
        obtain ⟨n0, n1, nf⟩ := two HI2.out.2.1
        have hz9 := lt_of_heap HI2.out.2.1
        clear hc hhold hnn hT hp hnt
        go_wp2_with fail
        (with_reducible refine Hc.out.mono ?_)
        rintro e w12 ⟨v, rfl, ho⟩
        obtain ⟨u1, u2, u3, u4, rfl⟩ := ho.shape
        have q9b := ho.fr.heap HI2.out.2.1 (by simp)
        have h1 := ((World.Fr.refl w12 [p9]).setCell (a := ⟨p9, 0, none⟩) (.inl (by simp)) (.slice u1 T.vars.length u2)).setCell (a := ⟨p9, 1, none⟩) (.inl (by simp)) (.slice u3 T.rows.length u4)
        have HI3 : Hid (UB w ((w12.setCell ⟨p9, 0, none⟩ (.slice u1 T.vars.length u2)).setCell ⟨p9, 1, none⟩ (.slice u3 T.rows.length u4)) p4 p5 (.slice q1 (untilTo cf S now j).vars.length q2) (.slice q3 (untilTo cf S now j).rows.length q4) (untilTo cf S now j) /\ ((w12.setCell ⟨p9, 0, none⟩ (.slice u1 T.vars.length u2)).setCell ⟨p9, 1, none⟩ (.slice u3 T.rows.length u4)).heap[p9]? = some (.cells #[.slice u1 T.vars.length u2, .slice u3 T.rows.length u4] 34 (0, 0)) /\ SlTab ((w12.setCell ⟨p9, 0, none⟩ (.slice u1 T.vars.length u2)).setCell ⟨p9, 1, none⟩ (.slice u3 T.rows.length u4)) (.agg #[.slice u1 T.vars.length u2, .slice u3 T.rows.length u4]) (heldU cf S ktbr ((S.pts.take j).take (m + 1)))) := Hz
         ⟨(HI2.out.1.still ho.fr).off h1 q9b (by have := H49.out; omega) (by have := H49.out; omega) (by have := H49.out; have := HP4.out; omega), heap_set_same (heap_set_same q9b 0 _) 1 _, by rw [HT.out]; exact ho.sl.fr h1 (Odd.one q9b (by decide))⟩
        obtain ⟨n0, n1, nf⟩ := two q9b
        have hz9 := lt_of_heap q9b
        clear ho h1 q9b Hc HI2 HTl Q11 m0 m1 m2 m3 m4 mf hz11
        go_wp2
        go_roundw
        case rel => exact ⟨m + 1, _, _, by go_num, by omega, HI3⟩
        case measure => simp [intOf]; omega
       ·rw [hnt] at e3
        have hc := join24 HK.out HI2.out.2.2.rd HTl.out.rd (Hhg.out.1.fits (by have := Hhg.out.2.2; omega)) (Hqg.out.1.fits (by have := Hqg.out.2.2; omega)) (Nat.le_trans (Nat.mul_le_mul Hhg.out.2.2 Hqg.out.2.2) (by decide))
        have hhold : (joinT cf (heldU cf S ktbr ((S.pts.take j).take m)) qtl).2 = heldU cf S ktbr ((S.pts.take j).take (m + 1)) := by
         rw [heldU_step hp Hq.out]
         unfold holdT
         rw [if_neg (by rw [hnt]; simp)]
        rw [hhold] at hc
        obtain ⟨nn, hnn⟩ : ∃ n, (joinT cf (heldU cf S ktbr ((S.pts.take j).take m)) qtl).1 = n := ⟨_, rfl⟩
        rw [hnn] at hc
        obtain ⟨T, hT⟩ : ∃ T, heldU cf S ktbr ((S.pts.take j).take (m + 1)) = T := ⟨_, rfl⟩
        rw [hT] at hc
        have Hc := Hz hc; have HT := Hz hT; have Hp := Hz hp; have Hnt := Hz hnt
        obtain ⟨m0, m1, m2, m3, m4, mf⟩ := five Q11.out
        have hz11 := lt_of_heap Q11.out
        obtain ⟨n0, n1, nf⟩ := two HI2.out.2.1
        have hz9 := lt_of_heap HI2.out.2.1
        clear hc hhold hnn hT hp hnt
        go_wp2_with fail
        (with_reducible refine Hc.out.mono ?_)
        rintro e w12 ⟨v, rfl, ho⟩
        obtain ⟨u1, u2, u3, u4, rfl⟩ := ho.shape
        have q9b := ho.fr.heap HI2.out.2.1 (by simp)
        have h1 := ((World.Fr.refl w12 [p9]).setCell (a := ⟨p9, 0, none⟩) (.inl (by simp)) (.slice u1 T.vars.length u2)).setCell (a := ⟨p9, 1, none⟩) (.inl (by simp)) (.slice u3 T.rows.length u4)
        have HI3 : Hid (UB w ((w12.setCell ⟨p9, 0, none⟩ (.slice u1 T.vars.length u2)).setCell ⟨p9, 1, none⟩ (.slice u3 T.rows.length u4)) p4 p5 (.slice q1 (untilTo cf S now j).vars.length q2) (.slice q3 (untilTo cf S now j).rows.length q4) (untilTo cf S now j) /\ ((w12.setCell ⟨p9, 0, none⟩ (.slice u1 T.vars.length u2)).setCell ⟨p9, 1, none⟩ (.slice u3 T.rows.length u4)).heap[p9]? = some (.cells #[.slice u1 T.vars.length u2, .slice u3 T.rows.length u4] 34 (0, 0)) /\ SlTab ((w12.setCell ⟨p9, 0, none⟩ (.slice u1 T.vars.length u2)).setCell ⟨p9, 1, none⟩ (.slice u3 T.rows.length u4)) (.agg #[.slice u1 T.vars.length u2, .slice u3 T.rows.length u4]) (heldU cf S ktbr ((S.pts.take j).take (m + 1)))) := Hz
         ⟨(HI2.out.1.still ho.fr).off h1 q9b (by have := H49.out; omega) (by have := H49.out; omega) (by have := H49.out; have := HP4.out; omega), heap_set_same (heap_set_same q9b 0 _) 1 _, by rw [HT.out]; exact ho.sl.fr h1 (Odd.one q9b (by decide))⟩
        obtain ⟨n0, n1, nf⟩ := two q9b
        have hz9 := lt_of_heap q9b
        clear ho h1 q9b Hc HI2 HTl Q11 m0 m1 m2 m3 m4 mf hz11
        go_wp2
        go_roundw
        case rel => exact ⟨m + 1, _, _, by go_num, by omega, HI3⟩
        case measure => simp [intOf]; omega
     ·have hd : decide ((m : Int) < (j : Int)) = false := decide_eq_false (by omega)
      have hd2 : decide (m < j) = false := decide_eq_false hmj
      obtain rfl : m = j := by omega
      have htk : (S.pts.take m).take m = S.pts.take m := by rw [List.take_take, Nat.min_self]
      have hI2 := HI2.out
      rw [htk] at hI2
      obtain ⟨G, hG⟩ : ∃ G, heldU cf S ktbr (S.pts.take m) = G := ⟨_, rfl⟩
      have hgg := heldU_good HK.out.ord HO.out (t := ktbr) HKg.out (S.pts.take m) (fun k hk => List.mem_of_mem_take hk)
      have hug := untilTo_good HK.out.ord HO.out (now := now) m
      have hbnd : (untilTo cf S now m).rows.length <= 600000 := Nat.le_trans hug.2.2 (Nat.le_trans (Nat.mul_le_mul_right 600 (show m <= 1000 by have := HO.out.many; omega)) (by decide))
      rw [hG] at hI2 hgg
      have hun := union39 HK.out hI2.1.sl.rd hI2.2.2.rd (hug.1.fits (by omega)) (hgg.1.fits (by have := hgg.2.2; omega)) (by have := hgg.2.2; omega)
      have hst := HSt.out
      rw [hG] at hst
      rw [<- hst] at hun
      obtain ⟨nn, hnn⟩ : ∃ n, (unionT cf (untilTo cf S now m) G).1 = n := ⟨_, rfl⟩
      rw [hnn] at hun
      obtain ⟨T, hT⟩ : ∃ T, untilTo cf S now (m + 1) = T := ⟨_, rfl⟩
      rw [hT] at hun
      obtain ⟨U, hU⟩ : ∃ U, untilTo cf S now m = U := ⟨_, rfl⟩
      rw [hU] at hI2 hun
      have Hc := Hz hun; have HT := Hz hT; have HI4 := Hz hI2
      clear hun hst hnn hT hug hgg hbnd hI2 hU hG HI2 htk HSt
      obtain ⟨n0, n1, nf⟩ := two HI4.out.1.b5
      obtain ⟨m0, m1, mf⟩ := two HI4.out.2.1
      have hz5 := lt_of_heap HI4.out.1.b5
      have hz9 := lt_of_heap HI4.out.2.1
      go_wp2_with fail
      (with_reducible refine Hc.out.mono ?_)
      rintro e w12 ⟨v, rfl, ho⟩
      obtain ⟨u1, u2, u3, u4, rfl⟩ := ho.shape
      have hub := HI4.out.1.still ho.fr
      have h1 := ((World.Fr.refl w12 [p5]).setCell (a := ⟨p5, 0, none⟩) (.inl (by simp)) (.slice u1 T.vars.length u2)).setCell (a := ⟨p5, 1, none⟩) (.inl (by simp)) (.slice u3 T.rows.length u4)
      have HIn : Hid (UB w ((w12.setCell ⟨p5, 0, none⟩ (.slice u1 T.vars.length u2)).setCell ⟨p5, 1, none⟩ (.slice u3 T.rows.length u4)) p4 p5 (.slice u1 T.vars.length u2) (.slice u3 T.rows.length u4) (untilTo cf S now (m + 1))) := Hz
       ⟨hub.fr.trans h1 (fun k hk => .inr (by simp at hk; subst hk; have := H45.out; have := HP4.out; omega)), h1.heap hub.b4 (by simp; have := H45.out; omega), heap_set_same (heap_set_same hub.b5 0 _) 1 _, by rw [HT.out]; exact ho.sl.fr h1 (Odd.one hub.b5 (by decide))⟩
      obtain ⟨n0, n1, nf⟩ := two hub.b5
      have hz5 := lt_of_heap hub.b5
      clear ho h1 hub Hc HI4 m0 m1 mf hz9
      go_wp2
      go_roundw
      case rel => exact ⟨m + 1, _, _, by go_num, by omega, HIn⟩
      case measure => simp [intOf]; omega
  ·have hd : decide ((j : Int) < (S.pts.length : Int)) = false := decide_eq_false (by omega)
   have hd2 : decide (j < S.pts.length) = false := decide_eq_false hlt
   obtain rfl : j = S.pts.length := by omega
   obtain ⟨z1, z2, z3, z4, rfl, rfl⟩ := HU.out.sl.shape
   generalize hX : untilTo cf S now S.pts.length = X at *
   have HX := Hz hX
   have h1 := ((World.Fr.refl wr [p4]).setCell (a := ⟨p4, 0, none⟩) (.inl (by simp)) (.slice z1 X.vars.length z2)).setCell (a := ⟨p4, 1, none⟩) (.inl (by simp)) (.slice z3 X.rows.length z4)
   have hfin := HU.out.sl.fr h1 (Odd.one HU.out.b4 (by decide))
   have hfr := HU.out.fr.trans h1 (fun k hk => .inr (by simp at hk; subst hk; exact Nat.le_of_eq HP4.out))
   have hb4 := heap_set_same (heap_set_same HU.out.b4 0 (.slice z1 X.vars.length z2)) 1 (.slice z3 X.rows.length z4)
   obtain ⟨m0, m1, mf⟩ := two HU.out.b4
   obtain ⟨n0, n1, nf⟩ := two HU.out.b5
   have hz4 := lt_of_heap HU.out.b4
   have hz5 := lt_of_heap HU.out.b5
   have Hfin := Hz (And.intro hfin hfr)
   have Hc4 := Hz (two hb4)
   clear h1 hfin hfr hb4 HU hlt hj hX
   go_wp2
   obtain ⟨f0, f1, _⟩ := Hc4.out
   refine bodyPost_ret (v := .agg #[.slice z1 X.vars.length z2, .slice z3 X.rows.length z4]) (by simp [results, Tryz.results140, go_sem, f0, f1]) rfl ⟨_, rfl, by rw [HX.out]; exact Hfin.out.1, Hfin.out.2⟩
end
section
open Go.RowKit
theorem told139 {cf : V -> V -> Int} (hK : Ctx V.wf cf) {Q : Nat -> Prop} {w : World} {p c1 c2 : Nat} {S : FS} {vl vr vp : Value} (h : FutAt Q w p S vl vr vp) (hO : FOk cf S) (now : Int) (hnow : 0 <= now /\ now <= 1099511627776) (h1 : w.heap[c1]? = some (.cells #[.pointer (some ⟨p, 0, none⟩)] 57 (0, 0))) (h2 : w.heap[c2]? = some (.cells #[.int .i64 now] 2 (0, 0))) :
  Calls Tryz.prog 139 #[.pointer (some ⟨c1, 0, none⟩), .pointer (some ⟨c2, 0, none⟩)] w fun e w' => ∃ u, e = .returned u /\ SlTab w' u (untilTo cf S now S.pts.length) /\ w.Fr w' [] := by
 have f2 := (World.Fr.refl w []).alloc (.cells #[.slice none 0 0, .slice none 0 0] 34)
 have q2 := heap_alloc_at w (.cells #[.slice none 0 0, .slice none 0 0] 34) _ rfl
 have hc := until140 hK (h.still f2) hO now hnow
 obtain ⟨T, hT⟩ : ∃ T, untilTo cf S now S.pts.length = T := ⟨_, rfl⟩
 rw [hT] at hc ⊢
 obtain ⟨x0, xf⟩ := uno (f2.heap h1 (by simp))
 obtain ⟨y0, yf⟩ := uno (f2.heap h2 (by simp))
 have z1 := lt_of_heap (f2.heap h1 (by simp))
 have z2 := lt_of_heap (f2.heap h2 (by simp))
 have Hc := Hz hc; have F := Hz f2; have Q2 := Hz q2
 clear hc h hO hnow h1 h2 f2 q2 hK hT
 go_enter Tryz.func139, Tryz.ntmps139
 go_upto_region 1 with (fail)
 generalize hW : World.alloc w _ = W at *
 clear hW
 go_wp2_with fail
 (with_reducible refine Hc.out.mono ?_)
 rintro e w1 ⟨u, rfl, hs, hf⟩
 obtain ⟨a, b, _, hu, _⟩ := hs.ex
 subst hu
 obtain ⟨z3, z4, z5, z6, rfl, rfl⟩ := hs.shape
 have q := hf.heap Q2.out (by simp)
 have h1 := ((World.Fr.refl w1 [w.heap.size]).setCell (a := ⟨w.heap.size, 0, none⟩) (.inl (by simp)) (.slice z3 T.vars.length z4)).setCell (a := ⟨w.heap.size, 1, none⟩) (.inl (by simp)) (.slice z5 T.rows.length z6)
 have Hfin := Hz (And.intro (hs.fr h1 (Odd.one q (by decide))) ((F.out.trans hf (by simp)).trans h1 (fun k hk => .inr (by simp at hk; exact Nat.le_of_eq hk.symm))))
 have Hc4 := Hz (two (heap_set_same (heap_set_same q 0 (.slice z3 T.vars.length z4)) 1 (.slice z5 T.rows.length z6)))
 obtain ⟨m0, m1, mf⟩ := two q
 have hz := lt_of_heap q
 clear h1 hs hf q Hc F Q2 x0 xf y0 yf z1 z2
 go_wp2
 obtain ⟨f0, f1, _⟩ := Hc4.out
 refine bodyPost_ret (v := .agg #[.slice z3 T.vars.length z4, .slice z5 T.rows.length z6]) (by simp [results, Tryz.results139, go_sem, f0, f1]) rfl ⟨_, rfl, Hfin.out.1, Hfin.out.2⟩
def nextF (S : FS) (k0 k1 : Sn) : Tb := if finB (k1.time - k0.time) S.i then k1.tr else ⟨S.right, []⟩
theorem told137 {cf : V -> V -> Int} (hK : Ctx V.wf cf) {Q : Nat -> Prop} {w : World} {p c1 c2 : Nat} {S : FS} {vl vr vp : Value} (h : FutAt Q w p S vl vr vp) (hO : FOk cf S) {k0 k1 : Sn} (hk0 : S.pts[0]? = some k0) (hk1 : S.pts[1]? = some k1) (h1 : w.heap[c1]? = some (.cells #[.pointer (some ⟨p, 0, none⟩)] 57 (0, 0))) (h2 : w.heap[c2]? = some (.cells #[.int .i64 k0.time] 2 (0, 0))) :
  Calls Tryz.prog 137 #[.pointer (some ⟨c1, 0, none⟩), .pointer (some ⟨c2, 0, none⟩)] w fun e w' => ∃ u, e = .returned u /\ SlTab w' u (nextF S k0 k1) /\ w.Fr w' [] := by
 obtain ⟨a1, a2, rfl, _, _⟩ := h.left.shape
 obtain ⟨b1, b2, rfl, _, _⟩ := h.right.shape
 obtain ⟨d1, d2, rfl, _, _⟩ := h.pts.sl.shape
 have hlen := (List.getElem?_eq_some_iff.1 hk1).1
 have ht0 := hO.times k0 (List.mem_of_getElem? hk0)
 have ht1 := hO.times k1 (List.mem_of_getElem? hk1)
 have htt := hO.time
 have hw2 : IntKind.i64.wrap (k1.time - k0.time) = k1.time - k0.time := IntWalk.i64_in _ (by omega)
 obtain ⟨g, off, c, hv, hcc, hg, k0c, k1c, k2c, k3c, k4c, kf, ktl, ktr⟩ := h.pts.at hk1
 cases hv
 obtain ⟨R, hR⟩ : ∃ R, nextF S k0 k1 = R := ⟨_, rfl⟩
 rw [hR]
 unfold nextF at hR
 obtain ⟨n0, hn0⟩ : ∃ n, k0.time = n := ⟨_, rfl⟩
 rw [hn0] at h2 hR hw2
 obtain ⟨kt, ka, kb, kc, kd, ktbl, ktbr⟩ := k1
 obtain ⟨z1, z2, z3, z4, ea, eb⟩ := ktl.shape
 obtain ⟨y1, y2, y3, y4, ec, ed⟩ := ktr.shape
 simp only at k0c k1c k2c k3c k4c ktl ktr hR hw2 ea eb ec ed
 subst ea eb ec ed
 have f2 := ((World.Fr.refl w []).alloc (.cells #[.slice none 0 0, .slice none 0 0] 34)).alloc (.cells #[.int .i64 kt, .slice z1 ktbl.vars.length z2, .slice z3 ktbl.rows.length z4, .slice y1 ktbr.vars.length y2, .slice y3 ktbr.rows.length y4] 121)
 have q2 := heap_alloc_some (heap_alloc_at w (.cells #[.slice none 0 0, .slice none 0 0] 34) _ rfl) (.cells #[.int .i64 kt, .slice z1 ktbl.vars.length z2, .slice z3 ktbl.rows.length z4, .slice y1 ktbr.vars.length y2, .slice y3 ktbr.rows.length y4] 121)
 have q3 : ((w.alloc (.cells #[.slice none 0 0, .slice none 0 0] 34)).alloc (.cells #[.int .i64 kt, .slice z1 ktbl.vars.length z2, .slice z3 ktbl.rows.length z4, .slice y1 ktbr.vars.length y2, .slice y3 ktbr.rows.length y4] 121)).heap[w.heap.size + 1]? = some (.cells #[.int .i64 kt, .slice z1 ktbl.vars.length z2, .slice z3 ktbl.rows.length z4, .slice y1 ktbr.vars.length y2, .slice y3 ktbr.rows.length y4] 121 (0, 0)) := heap_alloc_at _ _ _ (by simp)
 have h01 : (1 : Int) < (S.pts.length : Int) := by omega
 obtain ⟨x0, xf⟩ := uno h1
 obtain ⟨y0, yf⟩ := uno h2
 obtain ⟨e0, e1, e2, e3, e4, e5, e6, e7, e8, e9, e10, ef⟩ := eleven h.box
 have hz := lt_of_heap h.box
 have zc1 := lt_of_heap h1
 have zc2 := lt_of_heap h2
 simp only [Nat.one_mul] at k0c k1c k2c k3c k4c
 have HA := Hz (h.still f2); have HB1 := Hz (f2.heap h1 (by simp)); have HB2 := Hz (f2.heap h2 (by simp)); have HR := Hz hR; have HK := Hz hK; have HO := Hz hO; have HTr := Hz (ktr.sl.still f2)
 have F := Hz f2; have Q2 := Hz q2; have Q3 := Hz q3; have HZ := Hz hz
 clear h h1 h2 hR hK hO ktl ktr ht0 ht1 htt hn0 hk0 hk1 f2 q2 q3 hlen
 go_enter Tryz.func137, Tryz.ntmps137
 go_upto_region 2 with (fail)
 generalize hW : World.alloc (World.alloc w _) _ = W at *
 clear hW k0c k1c k2c k3c k4c kf hg e0 e1 e2 e3 e4 e5 e6 e7 e8 e9 e10 ef hz x0 xf y0 yf zc1 zc2
 obtain ⟨m0, m1, m2, m3, m4, mf⟩ := five Q3.out
 have hz3 := lt_of_heap Q3.out
 obtain ⟨x0, xf⟩ := uno HB1.out
 obtain ⟨y0, yf⟩ := uno HB2.out
 have zc1 := lt_of_heap HB1.out
 have zc2 := lt_of_heap HB2.out
 have hz2 := lt_of_heap Q2.out
 obtain ⟨r0, r1, rf⟩ := two Q2.out
 have Hc := Hz (in138 HA.out (kt - n0))
 go_wp2_with fail
 (with_reducible refine Hc.out.mono ?_)
 rintro e w6 ⟨rfl, rfl⟩
 clear Hc
 cases hin : finB (kt - n0) S.i with
 | true =>
  have hR := HR.out
  rw [hin, if_pos rfl] at hR
  subst hR
  have h1 := ((World.Fr.refl W [w.heap.size]).setCell (a := ⟨w.heap.size, 0, none⟩) (.inl (by simp)) (.slice y1 ktbr.vars.length y2)).setCell (a := ⟨w.heap.size, 1, none⟩) (.inl (by simp)) (.slice y3 ktbr.rows.length y4)
  have Hfin := Hz (And.intro (HTr.out.fr h1 (Odd.one Q2.out (by decide))) (F.out.trans h1 (fun k hk => .inr (by simp at hk; exact Nat.le_of_eq hk.symm))))
  have Hc4 := Hz (two (heap_set_same (heap_set_same Q2.out 0 (.slice y1 ktbr.vars.length y2)) 1 (.slice y3 ktbr.rows.length y4)))
  clear h1 hin HR
  go_wp2
  obtain ⟨f0, f1, _⟩ := Hc4.out
  refine bodyPost_ret (v := .agg #[.slice y1 ktbr.vars.length y2, .slice y3 ktbr.rows.length y4]) (by simp [results, Tryz.results137, go_sem, f0, f1]) rfl ⟨_, rfl, Hfin.out.1, Hfin.out.2⟩
 | false =>
  have hR := HR.out
  rw [hin, if_neg (by simp)] at hR
  subst hR
  clear HR hin
  obtain ⟨e0, e1, e2, e3, e4, e5, e6, e7, e8, e9, e10, ef⟩ := eleven HA.out.box
  have hz := lt_of_heap HA.out.box
  have k := empty31 HK.out HA.out.rdr (by have := HO.out.le8.2; omega)
  rw [ofT_none HO.out.up HO.out.le8.2] at k
  have k := Hz k
  go_wp2_with fail
  (with_reducible refine k.out.mono ?_)
  rintro e w7 ⟨u, rfl, ho⟩
  obtain ⟨t1, t2, t3, t4, rfl⟩ := ho.shape
  simp only [List.length_nil] at ho ⊢
  have q2 := heap_alloc_some (ho.fr.heap Q2.out (by simp)) (.cells #[.slice t1 S.right.length t2, .slice t3 0 t4] 34)
  have q4 := heap_alloc_at w7 (.cells #[.slice t1 S.right.length t2, .slice t3 0 t4] 34) _ rfl
  have f4 := (World.Fr.refl w7 []).alloc (.cells #[.slice t1 S.right.length t2, .slice t3 0 t4] 34)
  have hs := ho.sl.still f4
  have hfr := F.out.trans (ho.fr.trans f4 (by simp)) (by simp)
  have h1 := ((World.Fr.refl (w7.alloc (.cells #[.slice t1 S.right.length t2, .slice t3 0 t4] 34)) [w.heap.size]).setCell (a := ⟨w.heap.size, 0, none⟩) (.inl (by simp)) (.slice t1 S.right.length t2)).setCell (a := ⟨w.heap.size, 1, none⟩) (.inl (by simp)) (.slice t3 0 t4)
  have Hfin := Hz (And.intro (hs.fr h1 (Odd.one q2 (by decide))) (hfr.trans h1 (fun k hk => .inr (by simp at hk; exact Nat.le_of_eq hk.symm))))
  have Hc4 := Hz (two (heap_set_same (heap_set_same q2 0 (.slice t1 S.right.length t2)) 1 (.slice t3 0 t4)))
  obtain ⟨r0, r1, rf⟩ := two q2
  obtain ⟨s0, s1, sf⟩ := two q4
  have hz2 := lt_of_heap q2
  have hz4 := lt_of_heap q4
  clear h1 hs hfr f4 q2 q4 ho k e0 e1 e2 e3 e4 e5 e6 e7 e8 e9 e10 ef hz m0 m1 m2 m3 m4 mf hz3 x0 xf y0 yf zc1 zc2
  go_wp2
  obtain ⟨f0, f1, _⟩ := Hc4.out
  refine bodyPost_ret (v := .agg #[.slice t1 S.right.length t2, .slice t3 0 t4]) (by simp [results, Tryz.results137, go_sem, f0, f1]) rfl ⟨_, rfl, Hfin.out.1, Hfin.out.2⟩
end
section
open Go.RowKit
def settledB (S : FS) (k0 : Sn) : Bool := if S.nx then decide ((1 : Int) < (S.pts.length : Int)) else decide (S.i.hi < S.time - k0.time)
theorem settled82 {cf : V -> V -> Int} {Q : Nat -> Prop} {w : World} {p : Nat} {S : FS} {vl vr vp : Value} (h : FutAt Q w p S vl vr vp) (hO : FOk cf S) {k0 : Sn} (hk0 : S.pts[0]? = some k0) :
  Calls Tryz.prog 82 #[.pointer (some ⟨p, 0, none⟩)] w fun e w' => ∃ c1 c2, e = .returned (.tuple #[.func (.func (if S.nx then 137 else 139)) #[] #[.pointer (some ⟨c1, 0, none⟩), .pointer (some ⟨c2, 0, none⟩)], .bool (settledB S k0)]) /\ w'.heap[c1]? = some (.cells #[.pointer (some ⟨p, 0, none⟩)] 57 (0, 0)) /\ w'.heap[c2]? = some (.cells #[.int .i64 k0.time] 2 (0, 0)) /\ w.Fr w' [] := by
 obtain ⟨a1, a2, rfl, _, _⟩ := h.left.shape
 obtain ⟨b1, b2, rfl, _, _⟩ := h.right.shape
 obtain ⟨d1, d2, rfl, _, _⟩ := h.pts.sl.shape
 have hlen := (List.getElem?_eq_some_iff.1 hk0).1
 have ht0 := hO.times k0 (List.mem_of_getElem? hk0)
 have htt := hO.time
 have hml := hO.many
 have hw2 : IntKind.i64.wrap (S.time - k0.time) = S.time - k0.time := IntWalk.i64_in _ (by omega)
 obtain ⟨g, off, c, hv, hcc, hg, k0c, _, _, _, _, kf, _, _⟩ := h.pts.at hk0
 cases hv
 simp only [Nat.zero_mul, Nat.add_zero] at k0c
 obtain ⟨n0, hn0⟩ : ∃ n, k0.time = n := ⟨_, rfl⟩
 obtain ⟨R, hR⟩ : ∃ R, settledB S k0 = R := ⟨_, rfl⟩
 rw [hR]
 obtain ⟨fn, hfn⟩ : ∃ fn, (if S.nx then 137 else 139) = fn := ⟨_, rfl⟩
 rw [hfn]
 have HFN := Hz hfn
 clear hfn
 unfold settledB at hR
 rw [hn0] at k0c hw2 hR ⊢
 have f1 := (World.Fr.refl w []).alloc (.cells #[.pointer (some ⟨p, 0, none⟩)] 57)
 have f2 := f1.alloc (.cells #[.int .i64 n0] 2)
 have q1 := heap_alloc_some (heap_alloc_at w (.cells #[.pointer (some ⟨p, 0, none⟩)] 57) _ rfl) (.cells #[.int .i64 n0] 2)
 have q2 : ((w.alloc (.cells #[.pointer (some ⟨p, 0, none⟩)] 57)).alloc (.cells #[.int .i64 n0] 2)).heap[w.heap.size + 1]? = some (.cells #[.int .i64 n0] 2 (0, 0)) := heap_alloc_at _ _ _ (by simp)
 obtain ⟨e0, e1, e2, e3, e4, e5, e6, e7, e8, e9, e10, ef⟩ := eleven h.box
 have hz := lt_of_heap h.box
 have h01 : (0 : Int) < (S.pts.length : Int) := by omega
 have h01' : 0 < S.pts.length := hlen
 have HA := Hz (f2.heap h.box (by simp)); have HR := Hz hR
 have F := Hz f2; have Q1 := Hz q1; have Q2 := Hz q2
 clear h hR hO ht0 htt hn0 hk0 f1 f2 q1 q2 hlen hml
 go_enter Tryz.func82, Tryz.ntmps82
 go_upto_region 2 with (fail)
 generalize hW : World.alloc (World.alloc w _) _ = W at *
 clear hW k0c kf hg e0 e1 e2 e3 e4 e5 e6 e7 e8 e9 e10 ef hz
 obtain ⟨e0, e1, e2, e3, e4, e5, e6, e7, e8, e9, e10, ef⟩ := eleven HA.out
 have hz := lt_of_heap HA.out
 obtain ⟨x0, xf⟩ := uno Q1.out
 obtain ⟨y0, yf⟩ := uno Q2.out
 have z1 := lt_of_heap Q1.out
 have z2 := lt_of_heap Q2.out
 rcases Bool.eq_false_or_eq_true S.nx with hnx | hnx
 ·have hR := HR.out
  rw [hnx] at e10 hR
  have HNX := Hz hnx
  rw [if_pos rfl] at hR
  have HR := Hz hR
  clear hR hnx
  go_upto_region 3 with (fail)
  go_quiet (fail)
  go_wp2
  refine bodyPost_ret (v := .tuple #[.func (.func 137) #[] #[.pointer (some ⟨w.heap.size, 0, none⟩), .pointer (some ⟨w.heap.size + 1, 0, none⟩)], .bool R]) (by simp [results, Tryz.results82, go_sem, <- HR.out]) rfl ⟨_, _, by rw [<- HFN.out, HNX.out]; rfl, Q1.out, Q2.out, F.out.of_drewN _⟩
 ·have hR := HR.out
  rw [hnx] at e10 hR
  have HNX := Hz hnx
  rw [if_neg (by simp)] at hR
  have HR := Hz hR
  clear hR hnx
  go_upto_region 4 with (fail)
  go_quiet (fail)
  go_wp2
  refine bodyPost_ret (v := .tuple #[.func (.func 139) #[] #[.pointer (some ⟨w.heap.size, 0, none⟩), .pointer (some ⟨w.heap.size + 1, 0, none⟩)], .bool R]) (by simp [results, Tryz.results82, go_sem, <- HR.out]) rfl ⟨_, _, by rw [<- HFN.out, HNX.out]; rfl, Q1.out, Q2.out, F.out.of_drewN _⟩
end
section
open Go.RowKit
structure Vd where
 nr : Int
 time : Int
 a : Value
 b : Value
 t : Tb
abbrev Vd.cells (k : Vd) : List Value := [.int .i64 k.nr, .int .i64 k.time, k.a, k.b]
abbrev Vd.tt (k : Vd) : Int × Int × Tb := (k.nr, k.time, k.t)
structure VdAt (Q : Nat -> Prop) (w : World) (v : Value) (ks : List Vd) : Prop where
 sl : w.Sl 74 4 v ks.length (ks.flatMap Vd.cells)
 tab : ∀ k, k ∈ ks -> TabIn Q w (.agg #[k.a, k.b]) k.t
theorem VdAt.still {Q : Nat -> Prop} {w w' : World} {v : Value} {ks : List Vd} (h : VdAt Q w v ks) (hf : w.Fr w' []) : VdAt Q w' v ks :=
 ⟨h.sl.fr hf (by simp), fun k hk => (h.tab k hk).still hf⟩
theorem VdAt.fr {Q : Nat -> Prop} {w w' : World} {v : Value} {ks : List Vd} {M : List Nat} (h : VdAt Q w v ks) (hf : w.Fr w' M) (hM : Odd w M) (hv : ∀ k, k ∈ v.blk -> k ∉ M) : VdAt Q w' v ks :=
 ⟨h.sl.fr hf hv, fun k hk => (h.tab k hk).fr hf hM⟩
theorem VdAt.nil (Q : Nat -> Prop) (w : World) : VdAt Q w (.slice none 0 0) [] := ⟨World.Sl.nil _ _ _, by simp⟩
theorem VdAt.shape {Q : Nat -> Prop} {w : World} {v : Value} {ks : List Vd} (h : VdAt Q w v ks) : ∃ a c, v = .slice a ks.length c := by
 obtain ⟨a, c, e, _⟩ := h.sl.shape
 exact ⟨a, c, e⟩
theorem VdAt.odd {Q : Nat -> Prop} {w : World} {v : Value} {ks : List Vd} (h : VdAt Q w v ks) : Odd w v.blk := by
 intro k hk
 rcases h.sl.2 with ⟨rfl, _⟩ | ⟨g, off, cap, cur, rfl, hg, _⟩
 ·simp [Value.blk] at hk
 ·simp [Value.blk] at hk
  subst hk
  exact ⟨_, _, hg, by decide, by decide, by decide⟩
theorem info121 : (Tryz.prog.info? 121).map (fun i => (i.zero, i.size, i.bytes)) = some (some (.agg #[.int .i64 0, .slice none 0 0, .slice none 0 0, .slice none 0 0, .slice none 0 0]), 5, 104) := by kernel_rfl
theorem info74 : (Tryz.prog.info? 74).map (fun i => (i.zero, i.size, i.bytes)) = some (some (.agg #[.int .i64 0, .int .i64 0, .slice none 0 0, .slice none 0 0]), 4, 64) := by kernel_rfl
abbrev pushF (S : FS) (k : Sn) : FS := { S with pts := S.pts ++ [k], time := k.time }
abbrev offF (S : FS) : FS := { S with pts := S.pts.drop 1, told := S.told + 1 }
noncomputable def tellF (cf : V -> V -> Int) (S : FS) (k0 : Sn) : Tb := if S.nx then (match S.pts[1]? with | some k1 => nextF S k0 k1 | none => ⟨S.right, []⟩) else untilTo cf S k0.time S.pts.length
noncomputable def drainN (cf : V -> V -> Int) : Nat -> FS -> List (Int × Int × Tb) × FS
 | 0, S => ([], S)
 | n + 1, S => match S.pts[0]? with
  | none => ([], S)
  | some k0 => if settledB S k0 = true then ((S.told, k0.time, tellF cf S k0) :: (drainN cf n (offF S)).1, (drainN cf n (offF S)).2) else ([], S)
noncomputable def drainF (cf : V -> V -> Int) (S : FS) : List (Int × Int × Tb) × FS := drainN cf S.pts.length S
theorem drainF_none {cf : V -> V -> Int} {S : FS} (h : S.pts.length = 0) : drainF cf S = ([], S) := by
 unfold drainF
 rw [h]
 rfl
theorem drainF_no {cf : V -> V -> Int} {S : FS} {k0 : Sn} (h : S.pts[0]? = some k0) (hs : settledB S k0 = false) : drainF cf S = ([], S) := by
 have hl := (List.getElem?_eq_some_iff.1 h).1
 unfold drainF
 obtain ⟨n, hn⟩ : ∃ n, S.pts.length = n + 1 := ⟨S.pts.length - 1, by omega⟩
 rw [hn]
 unfold drainN
 rw [h]
 simp [hs]
theorem drainF_yes {cf : V -> V -> Int} {S : FS} {k0 : Sn} (h : S.pts[0]? = some k0) (hs : settledB S k0 = true) : drainF cf S = ((S.told, k0.time, tellF cf S k0) :: (drainF cf (offF S)).1, (drainF cf (offF S)).2) := by
 have hl := (List.getElem?_eq_some_iff.1 h).1
 obtain ⟨n, hn⟩ : ∃ n, S.pts.length = n + 1 := ⟨S.pts.length - 1, by omega⟩
 have h2 : (offF S).pts.length = n := by simp [hn]
 unfold drainF
 rw [h2, hn]
 conv => lhs; unfold drainN
 rw [h]
 simp [hs]
theorem FOk.off {cf : V -> V -> Int} {S : FS} (h : FOk cf S) (hl : 0 < S.pts.length) (ht : S.told + S.pts.length <= 1000) : FOk cf (offF S) :=
 ⟨h.upl, h.up, h.le8, h.parts, h.sub, h.time, fun k hk => h.times k (List.mem_of_mem_drop hk), fun k hk => h.good k (List.mem_of_mem_drop hk), fun hp k hk => h.goodl hp k (List.mem_of_mem_drop hk), by have := h.many; simp; omega, by have := h.told; simp; omega, h.iv⟩
noncomputable def stepF (cf : V -> V -> Int) (S : FS) (n : Int) (ts : List Tb) (k : Sn) : List (Int × Int × Tb) × FS := if wrongE cf S.ps n ts = 0 then drainF cf (pushF S k) else ([], S)
structure DInv (cf : V -> V -> Int) (Q : Nat -> Prop) (w0 w : World) (p : Nat) (S1 S : FS) (vl vr vp vo : Value) (B : List Nat) (vs : List Vd) : Prop where
 fut : FutAt Q w p S vl vr vp
 told : VdAt (fun k => w0.heap.size <= k) w vo vs
 ok : FOk cf S
 many : S.told + S.pts.length <= 1000
 eq : drainF cf S1 = (vs.map Vd.tt ++ (drainF cf S).1, (drainF cf S).2)
 fr : w0.Fr w [p]
 blk : ∀ k, k ∈ vp.blk -> k ∈ B
 new : ∀ k, k ∈ vo.blk -> w0.heap.size <= k
 len : vs.length + S.pts.length = S1.pts.length
theorem DInv.still {cf : V -> V -> Int} {Q : Nat -> Prop} {w0 w w' : World} {p : Nat} {S1 S : FS} {vl vr vp vo : Value} {B : List Nat} {vs : List Vd} (h : DInv cf Q w0 w p S1 S vl vr vp vo B vs) (hf : w.Fr w' []) : DInv cf Q w0 w' p S1 S vl vr vp vo B vs :=
 ⟨h.fut.still hf, h.told.still hf, h.ok, h.many, h.eq, h.fr.trans hf (by simp), h.blk, h.new, h.len⟩
theorem DInv.step {cf : V -> V -> Int} {Q : Nat -> Prop} {w0 w w' : World} {p : Nat} {S1 S : FS} {vl vr vp vo a b vo' v' : Value} {B : List Nat} {vs : List Vd} {k0 : Sn} {T : Tb} (h : DInv cf Q w0 w p S1 S vl vr vp vo B vs) (hk0 : S.pts[0]? = some k0) (hs : settledB S k0 = true) (hp : p < w0.heap.size) (hB : ∀ k, k ∈ B -> k < w0.heap.size) (hT : T = tellF cf S k0) (hf : w.Fr w' vo.blk)
  (hsl : w'.Sl 74 4 vo' (vs.length + 1) (vs.flatMap Vd.cells ++ [.int .i64 S.told, .int .i64 k0.time, a, b])) (hnew : ∀ k, k ∈ vo'.blk -> k ∈ vo.blk ∨ w.heap.size <= k) (htab : TabIn (fun k => w0.heap.size <= k) w' (.agg #[a, b]) T)
  (hv : w.Sl 121 5 v' (S.pts.length - 1) ((S.pts.drop 1).flatMap Sn.cells)) (hvb : ∀ k, k ∈ v'.blk -> k ∈ vp.blk) :
  DInv cf Q w0 ((w'.setCell ⟨p, 6, none⟩ v').setCell ⟨p, 7, none⟩ (.int .i64 (S.told + 1))) p S1 (offF S) vl vr v' vo' B (vs ++ [⟨S.told, k0.time, a, b, T⟩]) := by
 have hlen := (List.getElem?_eq_some_iff.1 hk0).1
 have ho := h.told.odd
 have hpo : ∀ k, k ∈ p :: vp.blk -> k ∉ vo.blk := by
  intro k hk hm
  have h1 := h.new k hm
  rcases List.mem_cons.1 hk with rfl | hk
  ·omega
  ·have := hB k (h.blk k hk); omega
 have hfut := h.fut.fr hf ho hpo
 have hset : w'.Fr ((w'.setCell ⟨p, 6, none⟩ v').setCell ⟨p, 7, none⟩ (.int .i64 (S.told + 1))) [p] := ((World.Fr.refl w' [p]).setCell (a := ⟨p, 6, none⟩) (.inl (by simp)) v').setCell (a := ⟨p, 7, none⟩) (.inl (by simp)) _
 have hop : Odd w' [p] := Odd.one hfut.box (by decide)
 have hvl : ∀ k, k ∈ vl.blk -> k ∉ [p] := hop.off hfut.left (.inl rfl)
 have hvr : ∀ k, k ∈ vr.blk -> k ∉ [p] := hop.off hfut.right (.inl rfl)
 have hvp : ∀ k, k ∈ v'.blk -> k ∉ [p] := by
  intro k hk hm
  simp at hm
  subst hm
  rcases hv.2 with ⟨rfl, _⟩ | ⟨g, off, cap, cur, rfl, hg, _⟩
  ·simp [Value.blk] at hk
  ·simp [Value.blk] at hk
   subst hk
   have := hg.symm.trans h.fut.box
   injection this with this
   injection this with _ h2
   exact absurd h2 (by decide)
 have hlo : w0.heap.size <= w.heap.size := h.fr.size
 have hvo : ∀ k, k ∈ vo'.blk -> w0.heap.size <= k := fun k hk => (hnew k hk).elim (h.new k) (fun h => by omega)
 refine ⟨⟨heap_set_same (heap_set_same hfut.box 6 v') 7 _, hfut.left.fr hset hvl, hfut.right.fr hset hvr, hfut.lw, hfut.rw, hfut.names, ⟨?_, fun k hk => ?_⟩⟩, ⟨?_, fun k hk => ?_⟩, h.ok.off hlen h.many, ?_, ?_, ?_, fun k hk => h.blk k (hvb k hk), hvo, ?_⟩
 ·have h1 := (hv.fr hf (fun k hk => hpo k (by simp [hvb k hk]))).fr hset hvp
  simpa using h1
 ·have h1 := hfut.pts.tab k (List.mem_of_mem_drop hk)
  exact ⟨h1.1.fr hset hop, h1.2.fr hset hop⟩
 ·have h1 := hsl.fr hset (fun k hk hm => by simp at hm; subst hm; have := hvo _ hk; omega)
  simpa using h1
 ·rcases List.mem_append.1 hk with hk | hk
  ·exact ((h.told.tab k hk).fr hf ho).fr hset hop
  ·simp at hk
   subst hk
   exact htab.fr hset hop
 ·have := h.many; simp; omega
 ·have := h.eq
  rw [drainF_yes hk0 hs] at this
  rw [this, hT]
  simp
 ·refine (h.fr.trans hf (fun k hk => .inr (h.new k hk))).trans hset (fun k hk => .inl hk)
 ·have := h.len; simp; omega
end
end Go.Proofs.YtbejmdlncnkaaaaGreat
