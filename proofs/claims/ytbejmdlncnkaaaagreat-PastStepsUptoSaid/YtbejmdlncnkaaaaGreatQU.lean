/-
  The law PastSteps: what lies between the points.
-/
import Derived.Test.YtbejmdlncnkaaaaGreatXQR
import Derived.Test.YtbejmdlncnkaaaaGreatXQL
import Derived.Test.YtbejmdlncnkaaaaGreatQB
namespace Go.Proofs.YtbejmdlncnkaaaaGreat
open Go.RowKit
theorem OpAt.neq {Q : Nat -> Prop} {w : World} {p : Nat} {X : PX} {B : List Nat} (h : OpAt Q w p X B) {g : Nat} {cs : Array Value} {T : TypeId} (hg : w.heap[g]? = some (.cells cs T (0, 0))) (h1 : T ≠ 96) (h2 : T ≠ 115) : g ∉ B := by
 obtain ⟨S, vl, vr, vw, hx, hp, rfl⟩ := h
 intro hm
 rcases List.mem_cons.1 hm with rfl | hm
 ·rw [hp.box] at hg
  cases hg
  exact h1 rfl
 ·exact Sl.off_box hp.kept.sl hg (fun e => h2 e.symm) hm
theorem OpAt.keep {Q : Nat -> Prop} {w w' : World} {p : Nat} {X : PX} {B : List Nat} (h : OpAt Q w p X B) (hf : w.Fr w' B) {g : Nat} {cs : Array Value} {T : TypeId} (hg : w.heap[g]? = some (.cells cs T (0, 0))) (h1 : T ≠ 96) (h2 : T ≠ 115) : w'.heap[g]? = some (.cells cs T (0, 0)) := hf.heap hg (h.neq hg h1 h2)
theorem RefP.odd {w0 w : World} {p : Nat} {S : RP} {vl vr vt vL vR : Value} (h : RefP w0 w p S vl vr vt vL vR) : Odd w (p :: (vt.blk ++ (vL.blk ++ vR.blk))) := by
 have hs : ∀ {e : TypeId} {size : Nat} {v : Value} {n : Nat} {xs : List Value}, w.Sl e size v n xs -> e ≠ 9 -> e ≠ 81 -> e ≠ 83 -> ∀ k, k ∈ v.blk -> ∃ cs T, w.heap[k]? = some (.cells cs T (0, 0)) /\ T ≠ 9 /\ T ≠ 81 /\ T ≠ 83 := fun hs h1 h2 h3 k hk => by
  obtain ⟨cs, hg⟩ := Sl.ty hs k hk
  exact ⟨_, _, hg, h1, h2, h3⟩
 intro k hk
 simp only [List.mem_cons, List.mem_append] at hk
 rcases hk with rfl | hk | hk | hk
 ·exact ⟨_, _, h.box, by decide, by decide, by decide⟩
 ·exact hs h.ts (by decide) (by decide) (by decide) k hk
 ·obtain ⟨hd, h1, _⟩ := h.l.ex
  exact hs h1 (by decide) (by decide) (by decide) k hk
 ·obtain ⟨hd, h1, _⟩ := h.r.ex
  exact hs h1 (by decide) (by decide) (by decide) k hk
theorem RefP.off {w0 w w' : World} {p : Nat} {S : RP} {vl vr vt vL vR : Value} {M : List Nat} (h : RefP w0 w p S vl vr vt vL vR) (hf : w.Fr w' M) (hn : ∀ k, k ∈ vl.blk ++ vr.blk -> k ∉ M) (ho : ∀ k, k ∈ p :: (vt.blk ++ (vL.blk ++ vR.blk)) -> k ∉ M) (hM : ∀ k, k ∈ M -> w0.heap.size <= k) : RefP w0 w' p S vl vr vt vL vR :=
 ⟨hf.heap h.box (ho p (by simp)), ⟨h.nl.sl.fr hf (fun k hk => hn k (by simp [hk])), h.nl.wf, h.nl.blk⟩, ⟨h.nr.sl.fr hf (fun k hk => hn k (by simp [hk])), h.nr.wf, h.nr.blk⟩, h.ts.fr hf (fun k hk => ho k (by simp [hk])), h.l.fr hf (fun k hk => ho k (by simp [hk])), h.r.fr hf (fun k hk => ho k (by simp [hk])), h.dj, h.new, h.fr.trans hf (fun k hk => .inr (hM k hk))⟩
theorem RefP.lt {w0 w : World} {p : Nat} {S : RP} {vl vr vt vL vR : Value} (h : RefP w0 w p S vl vr vt vL vR) : ∀ k, k ∈ vl.blk ++ (vr.blk ++ (p :: (vt.blk ++ (vL.blk ++ vR.blk)))) -> k < w.heap.size := by
 obtain ⟨_, hl⟩ := h.l.sl
 obtain ⟨_, hr⟩ := h.r.sl
 intro k hk
 simp only [List.mem_append, List.mem_cons] at hk
 rcases hk with hk | hk | rfl | hk | hk | hk
 ·exact h.nl.sl.lt k hk
 ·exact h.nr.sl.lt k hk
 ·exact lt_of_heap h.box
 ·exact h.ts.lt k hk
 ·exact hl.lt k hk
 ·exact hr.lt k hk
theorem RefP.ne {w0 w : World} {p : Nat} {S : RP} {vl vr vt vL vR : Value} (h : RefP w0 w p S vl vr vt vL vR) {g : Nat} {cs : Array Value} {T : TypeId} (hg : w.heap[g]? = some (.cells cs T (0, 0))) (h1 : T ≠ 107) (h2 : T ≠ 2) (h3 : T ≠ 34) : g ∉ p :: (vt.blk ++ (vL.blk ++ vR.blk)) := by
 obtain ⟨_, hl⟩ := h.l.sl
 obtain ⟨_, hr⟩ := h.r.sl
 intro hm
 simp only [List.mem_append, List.mem_cons] at hm
 rcases hm with rfl | hm | hm | hm
 ·have := h.box
  rw [hg] at this
  cases this
  exact h1 rfl
 ·exact Sl.off_box h.ts hg (fun e => h2 e.symm) hm
 ·exact Sl.off_box hl hg (fun e => h3 e.symm) hm
 ·exact Sl.off_box hr hg (fun e => h3 e.symm) hm
theorem RefP.beside {Q : Nat -> Prop} {w0 w w' : World} {p q : Nat} {S : RP} {vl vr vt vL vR : Value} {X : PX} {B : List Nat} (h : RefP w0 w p S vl vr vt vL vR) (hb : OpAt Q w q X B) (hf : w.Fr w' B) (hB : ∀ k, k ∈ B -> w0.heap.size <= k) : RefP w0 w' p S vl vr vt vL vR := by
 have hs : ∀ {e : TypeId} {size n : Nat} {v : Value} {xs : List Value}, w.Sl e size v n xs -> e ≠ 96 -> e ≠ 115 -> ∀ k, k ∈ v.blk -> k ∉ B := fun hs h1 h2 k hk => by
  obtain ⟨cs, hg⟩ := Sl.ty hs k hk
  exact hb.neq hg h1 h2
 obtain ⟨_, hl⟩ := h.l.sl
 obtain ⟨_, hr⟩ := h.r.sl
 refine h.off hf (fun k hk => ?_) (fun k hk => ?_) hB
 ·rcases List.mem_append.1 hk with hk | hk
  ·exact hs h.nl.sl (by decide) (by decide) k hk
  ·exact hs h.nr.sl (by decide) (by decide) k hk
 ·simp only [List.mem_append, List.mem_cons] at hk
  rcases hk with rfl | hk | hk | hk
  ·exact hb.neq h.box (by decide) (by decide)
  ·exact hs h.ts (by decide) (by decide) k hk
  ·exact hs hl (by decide) (by decide) k hk
  ·exact hs hr (by decide) (by decide) k hk
theorem OpAt.beside {Q : Nat -> Prop} {w0 w w' : World} {p q : Nat} {S : RP} {vl vr vt vL vR : Value} {X : PX} {B : List Nat} (hb : OpAt Q w q X B) (h : RefP w0 w p S vl vr vt vL vR) (hf : w.Fr w' (p :: (vt.blk ++ (vL.blk ++ vR.blk)))) : OpAt Q w' q X B := by
 refine hb.fr hf h.odd (fun k hk hm => ?_)
 obtain ⟨S', vl', vr', vw', rfl, hp, rfl⟩ := hb
 have : ∃ cs T, w.heap[k]? = some (.cells cs T (0, 0)) /\ T ≠ 107 /\ T ≠ 2 /\ T ≠ 34 := by
  rcases List.mem_cons.1 hk with rfl | hk
  ·exact ⟨_, _, hp.box, by decide, by decide, by decide⟩
  ·obtain ⟨cs, hg⟩ := Sl.ty hp.kept.sl k hk
   exact ⟨_, _, hg, by decide, by decide, by decide⟩
 obtain ⟨cs, T, hg, h1, h2, h3⟩ := this
 exact h.ne hg h1 h2 h3 hm
theorem LT.beside {w w1 w2 : World} {vo : Value} {hd : List (Value × Value)} {ts : List Tb} (h : LT w w1 vo hd ts) {M : List Nat} (hf : w1.Fr w2 M) (hM : Odd w1 M) (hv : ∀ k, k ∈ vo.blk -> k ∉ M) : w2.Sl 34 2 vo hd.length (hd.flatMap fun x => [x.1, x.2]) /\ ∀ (i : Nat) (x : Value × Value) (t : Tb), hd[i]? = some x -> ts[i]? = some t -> TabIn (fun k => w.heap.size <= k /\ k < w1.heap.size) w2 (.agg #[x.1, x.2]) t :=
 ⟨h.sl.fr hf hv, fun i x t e1 e2 => ((h.tab i x t e1 e2).imp (fun _ hk h => ⟨h, hk⟩)).fr hf hM⟩
theorem LT.rdB {w w1 w2 : World} {vo : Value} {hd : List (Value × Value)} {ts : List Tb} (h : LT w w1 vo hd ts) {M : List Nat} (hf : w1.Fr w2 M) (hM : Odd w1 M) (hv : ∀ k, k ∈ vo.blk -> k ∉ M) : RdTabs w2 vo ts := by
 obtain ⟨h1, h2⟩ := h.beside hf hM hv
 exact ⟨hd, h.len, by have := h1.rd; rw [h.len] at this; exact this, fun j x t e1 e2 => (h2 j x t e1 e2).rd⟩
theorem sa_list {L : Nat -> Prop} {w : World} : ∀ {hd : List (Value × Value)} {ts : List Tb}, hd.length = ts.length -> (∀ (i : Nat) (x : Value × Value) (t : Tb), hd[i]? = some x -> ts[i]? = some t -> TabIn L w (.agg #[x.1, x.2]) t) -> (∀ t, t ∈ ts -> t.vars.length <= 1048576 /\ t.rows.length <= 1048576 /\ ∀ r, r ∈ t.rows -> r.length <= 1048576) ->
  ∃ D : List SR, D.length = hd.length /\ (D.flatMap fun d => [d.a, d.b]) = (hd.flatMap fun x => [x.1, x.2]) /\ ∀ d, d ∈ D -> SQ L w d
 | [], _, _, _, _ => ⟨[], rfl, rfl, by simp⟩
 | x :: hd, [], hl, _, _ => by simp at hl
 | x :: hd, t :: ts, hl, ht, hb => by
  obtain ⟨D, h1, h2, h3⟩ := sa_list (hd := hd) (ts := ts) (by simpa using hl) (fun i x t e1 e2 => ht (i + 1) x t (by simpa using e1) (by simpa using e2)) (fun t h => hb t (List.mem_cons_of_mem _ h))
  have hbt := hb t (List.mem_cons_self ..)
  obtain ⟨hs, hq⟩ := (ht 0 x t rfl rfl).sq hbt.1 (by omega) hbt.2.2
  refine ⟨⟨x.1, x.2, t.vars.length, hs, t.rows.map List.length⟩ :: D, by simp [h1], by simp [h2], fun d hd => ?_⟩
  rcases List.mem_cons.1 hd with rfl | hd
  ·exact hq
  ·exact h3 d hd
theorem SA.begin {L : Nat -> Prop} {w : World} {v : Value} {hd : List (Value × Value)} {D : List SR} (hs : w.Sl 34 2 v hd.length (hd.flatMap fun x => [x.1, x.2])) (h1 : D.length = hd.length) (h2 : (D.flatMap fun d => [d.a, d.b]) = (hd.flatMap fun x => [x.1, x.2])) (h3 : ∀ d, d ∈ D -> SQ L w d) : SA L w w v D :=
 ⟨by rw [h1, h2]; exact hs, h3, ⟨[], World.Fr.refl _ _, by simp⟩, fun _ _ h => h, fun _ _ _ h _ _ => h⟩
theorem spoil_lent {w w1 w2 : World} {vo : Value} {hd : List (Value × Value)} {ts : List Tb} (hs : w2.Sl 34 2 vo hd.length (hd.flatMap fun x => [x.1, x.2])) (hlen : hd.length = ts.length) (ht : ∀ (i : Nat) (x : Value × Value) (t : Tb), hd[i]? = some x -> ts[i]? = some t -> TabIn (fun k => w.heap.size <= k /\ k < w1.heap.size) w2 (.agg #[x.1, x.2]) t) (hn : ts.length <= 1048576) (hb : ∀ t, t ∈ ts -> t.vars.length <= 1048576 /\ t.rows.length <= 1048576 /\ ∀ r, r ∈ t.rows -> r.length <= 1048576) :
  Calls Tryz.prog 27 #[vo] w2 fun e w' => e = .returned (.tuple #[]) /\ ∃ M, w2.Fr w' M /\ (∀ k, k ∈ M -> w.heap.size <= k /\ k < w1.heap.size) /\ ∀ (k : Nat) (cs : Array Value) (e : TypeId), w2.heap[k]? = some (.cells cs e (0, 0)) -> e ≠ 9 -> e ≠ 83 -> w'.heap[k]? = some (.cells cs e (0, 0)) := by
 obtain ⟨D, h1, h2, h3⟩ := sa_list (L := fun k => w.heap.size <= k /\ k < w1.heap.size) hlen ht hb
 refine (spoil27 (SA.begin hs h1 h2 h3) (by omega)).mono fun e w' ⟨he, hsa⟩ => ?_
 obtain ⟨M, hf, hM⟩ := hsa.fr
 exact ⟨he, M, hf, hM, hsa.typ⟩
theorem TabIn.apart {Q : Nat -> Prop} {w : World} {v : Value} {t : Tb} (h : TabIn Q w v t) {B : List Nat} (hB : Odd w B) : TabIn (fun b => Q b /\ b ∉ B) w v t := by
 obtain ⟨a, b, hs, hv, h1, h2, h3, h4, h5, h6⟩ := h.ex
 exact ⟨⟨a, b, hs, hv, h1, h2, h3, fun k hk => ⟨h4 k hk, hB.off h1 (.inl rfl) k hk⟩, fun k hk => ⟨h5 k hk, hB.off h2 (.inr (.inl rfl)) k hk⟩, fun i hv r e1 e2 => ⟨(h6 i hv r e1 e2).1, fun k hk => ⟨(h6 i hv r e1 e2).2 k hk, hB.off (h6 i hv r e1 e2).1 (.inr (.inr rfl)) k hk⟩⟩⟩, h.wf⟩
structure SOut (cf : V -> V -> Int) (Q : Nat -> Prop) (w w' : World) (p : Nat) (X : PX) (B : List Nat) (n : Int) (ts : List Tb) (u : Value) (m : Nat) (B' : List Nat) : Prop where
 told : TabIn (fun b => m <= b) w' u (stepP cf X n ts).2.1
 op : OpAt (fun b => Q b /\ b < m) w' p (stepP cf X n ts).2.2 B'
 lo : w.heap.size <= m
 hi : m <= w'.heap.size
 blk : ∀ k, k ∈ B' -> k ∈ B ∨ w.heap.size <= k
 fr : w.Fr w' B
theorem SOut.still {cf : V -> V -> Int} {Q : Nat -> Prop} {w w' w2 : World} {p : Nat} {X : PX} {B : List Nat} {n : Int} {ts : List Tb} {u : Value} {m : Nat} {B' : List Nat} (h : SOut cf Q w w' p X B n ts u m B') (hf : w'.Fr w2 []) : SOut cf Q w w2 p X B n ts u m B' :=
 ⟨h.told.still hf, h.op.still hf, h.lo, Nat.le_trans h.hi hf.size, h.blk, h.fr.trans hf (by simp)⟩
structure StP (cf : V -> V -> Int) (w wr : World) (p : Nat) (X : PX) (B : List Nat) (r : Nat) (S : RP) (vl vr vt vL vR : Value) (j : Nat) : Prop where
 op : OpAt anyB wr p X B
 pok : POkP cf X 600
 ref : RefP w wr r S vl vr vt vL vR
 rok : RPOk cf S
 eq : S.X cf = X
 new : ∀ k, k ∈ B -> w.heap.size <= k
 few : S.T.length <= j
theorem StP.still {cf : V -> V -> Int} {w wr w' : World} {p : Nat} {X : PX} {B : List Nat} {r : Nat} {S : RP} {vl vr vt vL vR : Value} {j : Nat} (h : StP cf w wr p X B r S vl vr vt vL vR j) (hf : wr.Fr w' []) : StP cf w w' p X B r S vl vr vt vL vR j :=
 ⟨h.op.still hf, h.pok, h.ref.still hf, h.rok, h.eq, h.new, h.few⟩
theorem RP.w_len (cf : V -> V -> Int) (S : RP) : (S.w cf).length <= S.T.length := by
 unfold RP.w
 split
 ·rw [List.length_drop, RP.all_len]; omega
 ·exact Nat.le_trans (List.length_filter_le _ _) (Nat.le_of_eq (RP.all_len cf S))
theorem StP.w_len {cf : V -> V -> Int} {w wr : World} {p : Nat} {X : PX} {B : List Nat} {r : Nat} {S : RP} {vl vr vt vL vR : Value} {j : Nat} (h : StP cf w wr p X B r S vl vr vt vL vR j) : X.w.length <= j := by
 have h1 := S.w_len cf
 have h2 : (S.X cf).w = S.w cf := rfl
 rw [h.eq] at h2
 rw [h2]
 exact Nat.le_trans h1 h.few
theorem OpAt.stepL {cf : V -> V -> Int} (hK : Ctx V.wf cf) {Q : Nat -> Prop} {wa wl : World} {p : Nat} {X : PX} {B : List Nat} {vo : Value} {hd : List (Value × Value)} {ts : List Tb} {n : Int} (ho : OpAt Q wa p X B) (hO : POkP cf X 600) (hm : X.w.length <= 1000) (hl : LT wa wl vo hd ts) (hts : ts.length <= 1048576) (hf : ∀ t, t ∈ ts -> Fits V.wf t) (hrows : ∀ t, t ∈ ts -> t.rows.length <= 600) :
  Calls Tryz.prog 18 #[.pointer (some ⟨p, 0, none⟩), .int .i64 n, vo] wl fun e w' => ∃ u1 u2 u3 u4 m B', e = .returned (.tuple #[.agg #[.slice u1 (stepP cf X n ts).2.1.vars.length u2, .slice u3 (stepP cf X n ts).2.1.rows.length u4], .int .i64 (stepP cf X n ts).1]) /\ SOut cf (fun b => b < wa.heap.size ∨ wl.heap.size <= b) wl w' p X B n ts (.agg #[.slice u1 (stepP cf X n ts).2.1.vars.length u2, .slice u3 (stepP cf X n ts).2.1.rows.length u4]) m B' := by
 have hop := ho.still hl.fr
 have hvo : ∀ k, k ∈ vo.blk -> k ∉ B := fun k hk hm => by
  have h1 := hl.new k hk
  have h2 := ho.lt k hm
  omega
 refine (step18 hK (by decide) (Q := fun b => b < wa.heap.size ∨ wl.heap.size <= b) (fun k hk => .inr hk) (n := n) ((ho.imp (R := fun b => b < wa.heap.size ∨ wl.heap.size <= b) (fun _ h _ => .inl h)).still hl.fr) hO hm (fun W hW => hl.rdB hW hop.odd hvo) (fun _ g off l c e => hvo g (by subst e; simp [Value.blk])) (by omega) hf (fun _ => hrows)).mono ?_
 rintro e w' ⟨u, B', m, rfl, h1, h2, h3, h4, h5⟩
 obtain ⟨a, b, hs, rfl, _⟩ := h1.ex
 obtain ⟨a1, a2, a3, a4, rfl, rfl⟩ := h1.shape
 exact ⟨a1, a2, a3, a4, m, B', rfl, h1, h2, h3.1, h3.2, h4, h5⟩
structure TwoP (cf : V -> V -> Int) (w wa wl w3 : World) (p : Nat) (X : PX) (B : List Nat) (m h : Nat) (r : Nat) (S : RP) (vl vr vt vL vR u u2 vo : Value) (t : Tb) (hd : List (Value × Value)) (ts : List Tb) (j : Nat) : Prop where
 op : OpAt (fun b => (b < wa.heap.size ∨ wl.heap.size <= b) /\ b < m) w3 p X B
 pok : POkP cf X 600
 ref : RefP w w3 r S vl vr vt vL vR
 rok : RPOk cf S
 eq : S.X cf = X
 new : ∀ k, k ∈ B -> w.heap.size <= k
 few : S.T.length <= j + 1
 told : TabIn (fun b => (m <= b /\ b < h) /\ b ∉ B) w3 u t
 told2 : TT w w3 u2 t
 lent : w3.Sl 34 2 vo hd.length (hd.flatMap fun x => [x.1, x.2])
 tabs : ∀ (i : Nat) (x : Value × Value) (t : Tb), hd[i]? = some x -> ts[i]? = some t -> TabIn (fun k => wa.heap.size <= k /\ k < wl.heap.size) w3 (.agg #[x.1, x.2]) t
 nm : ∀ k, k ∈ vl.blk ++ vr.blk -> k < wa.heap.size
 own : ∀ k, k ∈ r :: (vt.blk ++ (vL.blk ++ vR.blk)) -> k < wa.heap.size ∨ h <= k
 bl : ∀ b, b ∈ B -> b < wa.heap.size ∨ wl.heap.size <= b
 lo : w.heap.size <= wa.heap.size
 mid : wa.heap.size <= wl.heap.size
 hi : wl.heap.size <= m
 top : m <= h
theorem StP.ref2 {cf : V -> V -> Int} {Q : Nat -> Prop} {w wa wl w2 : World} {p : Nat} {X : PX} {B : List Nat} {r : Nat} {S : RP} {vl vr vt vL vR vo u : Value} {j m : Nat} {hd : List (Value × Value)} {ts : List Tb} {n : Int} {B' : List Nat} (h : StP cf w wa p X B r S vl vr vt vL vR j) (hl : LT wa wl vo hd ts) (hF : SOut cf Q wl w2 p X B n ts u m B') : RefP w w2 r S vl vr vt vL vR :=
 (h.ref.still hl.fr).beside (h.op.still hl.fr) hF.fr h.new
theorem StP.both {cf : V -> V -> Int} {w wa wl w2 w3 : World} {p : Nat} {X : PX} {B : List Nat} {r : Nat} {S S' : RP} {vl vr vt vL vR vt' vL' vR' vo u u2 : Value} {j m : Nat} {hd : List (Value × Value)} {ts : List Tb} {n : Int} {B' : List Nat} (h : StP cf w wa p X B r S vl vr vt vL vR j) (hl : LT wa wl vo hd ts) (hF : SOut cf (fun b => b < wa.heap.size ∨ wl.heap.size <= b) wl w2 p X B n ts u m B') (hR : ROutP cf w w2 w3 r S vl vr vt vL vR n ts u2 S' vt' vL' vR') (hpok : POkP cf (stepP cf X n ts).2.2 600) :
  TwoP cf w wa wl w3 p (stepP cf X n ts).2.2 B' m w2.heap.size r S' vl vr vt' vL' vR' u u2 vo (stepP cf X n ts).2.1 hd ts j := by
 have href := h.ref2 hl hF
 have hlt := h.ref.lt
 have hm2 := hF.hi
 have hlo := hF.lo
 have hfl := hl.fr.size
 have hf0 := h.ref.fr.size
 have hB0 := h.op.lt
 have hopl := h.op.still hl.fr
 have hvo : ∀ k, k ∈ vo.blk -> k ∉ B := fun k hk hm => by
  have h1 := hl.new k hk
  have h2 := hB0 k hm
  omega
 obtain ⟨l1, l2⟩ := hl.beside hF.fr hopl.odd hvo
 have hvo2 : ∀ k, k ∈ vo.blk -> k ∉ r :: (vt.blk ++ (vL.blk ++ vR.blk)) := fun k hk hm => by
  have h1 := hl.new k hk
  have h2 := hlt k (by rw [List.mem_append, List.mem_append]; exact .inr (.inr hm))
  omega
 have heq := hR.eq
 rw [h.eq] at heq
 have htold := hR.told
 rw [h.eq] at htold
 refine ⟨hF.op.beside href hR.fr, hpok, hR.ref, hR.ok, heq.symm, fun k hk => ?_, by have := hR.len; have := h.few; omega, (((hF.told.imp (R := fun b => m <= b /\ b < w2.heap.size) (fun b hb h => ⟨h, hb⟩)).apart hF.op.odd).fr hR.fr href.odd), htold, l1.fr hR.fr hvo2, fun i x t a b => (l2 i x t a b).fr hR.fr href.odd, fun k hk => ?_, fun k hk => ?_, fun b hb => ?_, hf0, hfl, hlo, hm2⟩
 ·rcases hF.blk k hk with h1 | h1
  ·exact h.new k h1
  ·omega
 ·exact hlt k (by simp only [List.mem_append] at hk ⊢; rcases hk with hk | hk <;> simp [hk])
 ·rcases List.mem_cons.1 hk with rfl | hk
  ·exact .inl (hlt _ (by simp))
  ·rcases hR.own k hk with h1 | h1
   ·exact .inl (hlt k (by rw [List.mem_append, List.mem_append]; exact .inr (.inr (List.mem_cons_of_mem _ h1))))
   ·exact .inr (by omega)
 ·rcases hF.blk b hb with h1 | h1
  ·exact .inl (hB0 b h1)
  ·exact .inr h1
theorem TwoP.still {cf : V -> V -> Int} {w wa wl w3 w' : World} {p : Nat} {X : PX} {B : List Nat} {m h r : Nat} {S : RP} {vl vr vt vL vR u u2 vo : Value} {t : Tb} {hd : List (Value × Value)} {ts : List Tb} {j : Nat} (a : TwoP cf w wa wl w3 p X B m h r S vl vr vt vL vR u u2 vo t hd ts j) (hf : w3.Fr w' []) : TwoP cf w wa wl w' p X B m h r S vl vr vt vL vR u u2 vo t hd ts j :=
 ⟨a.op.still hf, a.pok, a.ref.still hf, a.rok, a.eq, a.new, a.few, a.told.still hf, a.told2.still hf, a.lent.fr hf (by simp), fun i x t e1 e2 => (a.tabs i x t e1 e2).still hf, a.nm, a.own, a.bl, a.lo, a.mid, a.hi, a.top⟩
structure AftP (cf : V -> V -> Int) (w w4 : World) (p : Nat) (X : PX) (B : List Nat) (m h : Nat) (r : Nat) (S : RP) (vl vr vt vL vR ua ub : Value) (t : Tb) (j : Nat) : Prop where
 op : OpAt (fun b => b < m) w4 p X B
 pok : POkP cf X 600
 ref : RefP w w4 r S vl vr vt vL vR
 rok : RPOk cf S
 eq : S.X cf = X
 new : ∀ k, k ∈ B -> w.heap.size <= k
 few : S.T.length <= j + 1
 tab : ∃ hs, SQ (fun b => (m <= b /\ b < h) /\ b ∉ B) w4 ⟨ua, ub, t.vars.length, hs, t.rows.map List.length⟩
 nm : ∀ k, k ∈ vl.blk ++ vr.blk -> k < m
 own : ∀ k, k ∈ r :: (vt.blk ++ (vL.blk ++ vR.blk)) -> k < m ∨ h <= k
 lo : w.heap.size <= m
theorem AftP.still {cf : V -> V -> Int} {w w4 w' : World} {p : Nat} {X : PX} {B : List Nat} {m h r : Nat} {S : RP} {vl vr vt vL vR ua ub : Value} {t : Tb} {j : Nat} (a : AftP cf w w4 p X B m h r S vl vr vt vL vR ua ub t j) (hf : w4.Fr w' []) : AftP cf w w' p X B m h r S vl vr vt vL vR ua ub t j :=
 ⟨a.op.still hf, a.pok, a.ref.still hf, a.rok, a.eq, a.new, a.few, by obtain ⟨hs, hq⟩ := a.tab; exact ⟨hs, hq.still hf⟩, a.nm, a.own, a.lo⟩
theorem AftP.spoil {cf : V -> V -> Int} {w w4 : World} {p : Nat} {X : PX} {B : List Nat} {m h r : Nat} {S : RP} {vl vr vt vL vR ua ub v : Value} {t : Tb} {j : Nat} (a : AftP cf w w4 p X B m h r S vl vr vt vL vR ua ub t j) (hs : w4.Sl 34 2 v 1 [ua, ub]) :
  Calls Tryz.prog 27 #[v] w4 fun e w' => e = .returned (.tuple #[]) /\ StP cf w w' p X B r S vl vr vt vL vR (j + 1) /\ ∀ (k : Nat) (cs : Array Value) (e : TypeId), w4.heap[k]? = some (.cells cs e (0, 0)) -> e ≠ 9 -> e ≠ 83 -> w'.heap[k]? = some (.cells cs e (0, 0)) := by
 obtain ⟨hh, hq⟩ := a.tab
 have hsa : SA (fun b => (m <= b /\ b < h) /\ b ∉ B) w4 w4 v [⟨ua, ub, t.vars.length, hh, t.rows.map List.length⟩] :=
  ⟨by simpa using hs, fun d hd => by simp at hd; subst hd; exact hq, ⟨[], World.Fr.refl _ _, by simp⟩, fun _ _ h => h, fun _ _ _ h _ _ => h⟩
 refine (spoil27 hsa (by simp)).mono fun e w' ⟨he, hx⟩ => ?_
 obtain ⟨M, hf, hM⟩ := hx.fr
 have hlo := a.lo
 exact ⟨he, ⟨(a.op.off hf (fun b hb h1 => by have := (hM b hb).1; omega) (fun b hb hm => (hM b hm).2 hb)).imp (fun _ _ _ => trivial), a.pok, a.ref.off hf (fun b hb hm => by have := a.nm b hb; have := (hM b hm).1; omega) (fun b hb hm => by have := (hM b hm).1; rcases a.own b hb with h1 | h1 <;> omega) (fun b hb => by have := (hM b hb).1; omega), a.rok, a.eq, a.new, a.few⟩, hx.typ⟩
theorem TwoP.spoil {cf : V -> V -> Int} {w wa wl w3 : World} {p : Nat} {X : PX} {B : List Nat} {m h r : Nat} {S : RP} {vl vr vt vL vR ua ub u2 vo : Value} {t : Tb} {hd : List (Value × Value)} {ts : List Tb} {j : Nat} (a : TwoP cf w wa wl w3 p X B m h r S vl vr vt vL vR (.agg #[ua, ub]) u2 vo t hd ts j) (hlen : hd.length = ts.length) (hn : ts.length <= 1048576) (hb : ∀ t, t ∈ ts -> t.vars.length <= 1048576 /\ t.rows.length <= 1048576 /\ ∀ r, r ∈ t.rows -> r.length <= 1048576) (hv : t.vars.length <= 1048576 /\ t.rows.length <= 1048576 /\ ∀ r, r ∈ t.rows -> r.length <= 1048576) :
  Calls Tryz.prog 27 #[vo] w3 fun e w' => e = .returned (.tuple #[]) /\ AftP cf w w' p X B m h r S vl vr vt vL vR ua ub t j /\ ∀ (k : Nat) (cs : Array Value) (e : TypeId), w3.heap[k]? = some (.cells cs e (0, 0)) -> e ≠ 9 -> e ≠ 83 -> w'.heap[k]? = some (.cells cs e (0, 0)) := by
 refine (spoil_lent a.lent hlen a.tabs hn hb).mono fun e w' ⟨he, M, hf, hM, typ⟩ => ?_
 have h1 := a.lo; have h2 := a.mid; have h3 := a.hi; have h4 := a.top
 refine ⟨he, ⟨(a.op.off hf (fun b hb hq => ?_) (fun b hb hm => ?_)).imp (fun _ _ h => h.2), a.pok, a.ref.off hf (fun b hb hm => ?_) (fun b hb hm => ?_) (fun b hb => ?_), a.rok, a.eq, a.new, a.few, ?_, fun b hb => ?_, fun b hb => ?_, by omega⟩, typ⟩
 ·have := hM b hb; omega
 ·have := hM b hm; have := a.bl b hb; omega
 ·have := hM b hm; have := a.nm b hb; omega
 ·have := hM b hm; have := a.own b hb; omega
 ·have := hM b hb; omega
 ·exact (a.told.off hf (fun b hb hq => by have := hM b hb; omega)).sq hv.1 (by omega) hv.2.2
 ·have := a.nm b hb; omega
 ·have := a.own b hb; omega
theorem StP.cloned {cf : V -> V -> Int} {Q : Nat -> Prop} {w w4 w5 wl w6 : World} {p c : Nat} {X : PX} {B Bc B' : List Nat} {r m' : Nat} {S : RP} {vl vr vt vL vR vo u' : Value} {j : Nat} {hd : List (Value × Value)} {ts ts' : List Tb} {n : Int} (a : StP cf w w4 p X B r S vl vr vt vL vR j) (hc : OpAt anyB w5 c X Bc) (hB : ∀ k, k ∈ Bc -> w4.heap.size <= k) (h5 : w4.Fr w5 []) (hl : LT w5 wl vo hd ts') (hF : SOut cf Q wl w6 p X B n ts u' m' B') : StP cf w w6 c X Bc r S vl vr vt vL vR j := by
 have hp := (a.op.still h5).still hl.fr
 have hlt := a.op.lt
 have hw := a.ref.fr.size
 refine ⟨((hc.still hl.fr).fr hF.fr hp.odd (fun k hk hm => ?_)), a.pok, ((a.ref.still h5).still hl.fr).beside hp hF.fr a.new, a.rok, a.eq, fun k hk => ?_, a.few⟩
 ·have h1 := hB k hk; have h2 := hlt k hm; omega
 ·have := hB k hk; omega
def MkD.S (m : MkD) : RP := ⟨m.r, m.i, m.n, sortS m.l, sortS m.right, [], [], []⟩
theorem MkD.S_X (cf : V -> V -> Int) (m : MkD) : m.S.X cf = m.X := by
 have h1 : m.S.parts = m.p := by
  show (if m.r = 15 then (2 : Int) else 1) = m.p
  unfold MkD.r MkD.p
  by_cases h15 : m.kind = 15
  ·simp [h15]
  ·by_cases h13 : m.kind = 13 <;> simp [h15, h13]
 have h2 : m.S.fn = m.x := by
  show (if m.r = 11 then 59 else 65) = m.x
  unfold MkD.r MkD.x
  by_cases h15 : m.kind = 15
  ·simp [h15]
  ·by_cases h13 : m.kind = 13 <;> simp [h15, h13]
 have h3 : m.S.w cf = [] := List.eq_nil_of_length_eq_zero (by have := m.S.w_len cf; have h : m.S.T.length = 0 := rfl; omega)
 show (⟨m.i, m.n, sortS m.l, sortS m.right, lastI [], m.S.w cf, m.S.fn, m.S.parts⟩ : PX) = m.X
 rw [h1, h2, h3]
 rfl
theorem MkD.S_ok {cf : V -> V -> Int} {m : MkD} (h : POkP cf m.X 600) : RPOk cf m.S := ⟨rfl, rfl, Nat.zero_le _, by
 show m.r = 11 ∨ m.r = 13 ∨ m.r = 15
 unfold MkD.r
 by_cases h15 : m.kind = 15
 ·simp [h15]
 ·by_cases h13 : m.kind = 13 <;> simp [h15, h13], by simp [MkD.S], by simp [MkD.S], by simp [MkD.S], h.sub, h.upl, h.up, h.le8⟩
theorem MkD.X_ok {cf : V -> V -> Int} {m : MkD} (h : beginE m.i m.l m.right = 0) : POkP cf m.X 600 := by
 refine beginP_ok h ?_ ?_
 ·unfold MkD.x MkD.p
  by_cases h15 : m.kind = 15
  ·simp [h15]
  ·by_cases h13 : m.kind = 13 <;> simp [h15, h13]
 ·unfold MkD.p
  split <;> simp
theorem StP.begin {cf : V -> V -> Int} {w wr : World} {m : MkD} {p r : Nat} {vl vr : Value} (hop : OpAt anyB wr p m.X [p]) (hok : POkP cf m.X 600) (hb : wr.heap[r]? = some (.cells (rcells10 m.r m.i m.n vl vr (.slice none 0 0) (.slice none 0 0) (.slice none 0 0)) 107 (0, 0))) (h1 : NamesIn anyB wr vl (sortS m.l)) (h2 : NamesIn anyB wr vr (sortS m.right)) (hp : w.heap.size <= p) (hr : w.heap.size <= r) (hf : w.Fr wr []) : StP cf w wr p m.X [p] r m.S vl vr (.slice none 0 0) (.slice none 0 0) (.slice none 0 0) 0 :=
 ⟨hop, hok, ⟨hb, h1, h2, World.Sl.nil _ _ _, Hdr.nil _ _, Hdr.nil _ _, by simp [Value.blk], fun k hk => by simp [Value.blk] at hk; subst hk; exact hr, hf⟩, m.S_ok hok, m.S_X cf, fun k hk => by simp at hk; subst hk; exact hp, by simp [MkD.S]⟩
end Go.Proofs.YtbejmdlncnkaaaaGreat
