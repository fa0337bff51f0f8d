/-
  Package past: since: the walk. Package past: what an operator's next does; what it leaves. Package past, plainly: what a step does to an operator. Package past: the walk of Step. Package past: Step, by the operator's state; how an operator begins.
-/
import Derived.Test.YtbejmdlncnkaaaaGreatPaB
import Derived.Deep.RegionHeld3
namespace Go.Proofs.YtbejmdlncnkaaaaGreat
section
open Go.RowKit
structure SBox (w0 w : World) (p p3 : Nat) (S : PS) (n : Int) (vl vr vw : Value) : Prop where
 lo : w0.heap.size <= p3
 b3 : w.heap[p3]? = some (.cells #[.pointer (some ⟨p, 0, none⟩)] 28 (0, 0))
 b4 : w.heap[p3 + 1]? = some (.cells #[.int .i64 n] 2 (0, 0))
 b6 : w.heap[p3 + 2]? = some (.cells #[.slice none 0 0, .slice none 0 0] 34 (0, 0))
 box : w.heap[p]? = some (.cells (pcells10 S vl vr vw) 96 (0, 0))
theorem SBox.fr {w0 w w' : World} {p p3 : Nat} {S : PS} {n : Int} {vl vr vw : Value} {M : List Nat} (h : SBox w0 w p p3 S n vl vr vw) (hf : w.Fr w' M) (hp : p ∉ M) (h3 : ∀ k, k ∈ M -> k < p3 ∨ p3 + 2 < k) : SBox w0 w' p p3 S n vl vr vw :=
 ⟨h.lo, hf.heap h.b3 (fun hm => by have := h3 _ hm; omega), hf.heap h.b4 (fun hm => by have := h3 _ hm; omega), hf.heap h.b6 (fun hm => by have := h3 _ hm; omega), hf.heap h.box hp⟩
theorem SBox.still {w0 w w' : World} {p p3 : Nat} {S : PS} {n : Int} {vl vr vw : Value} (h : SBox w0 w p p3 S n vl vr vw) (hf : w.Fr w' []) : SBox w0 w' p p3 S n vl vr vw := h.fr hf (by simp) (by simp)
theorem Odd.sl {w : World} {v : Value} {n : Nat} {xs : List Value} (h : w.Sl 115 3 v n xs) : Odd w v.blk := by
 intro k hk
 rcases h.2 with ⟨rfl, _⟩ | ⟨g, off, cap, cur, rfl, hg, _⟩
 ·simp [Value.blk] at hk
 ·simp [Value.blk] at hk
  subst hk
  exact ⟨_, _, hg, by decide, by decide, by decide⟩
theorem Sl115.ne {w : World} {v : Value} {n : Nat} {xs : List Value} (h : w.Sl 115 3 v n xs) {k : Nat} {cs : Array Value} {T : TypeId} (hk : w.heap[k]? = some (.cells cs T (0, 0))) (hT : T ≠ 115) : k ∉ v.blk := fun hm => by
 rcases h.2 with ⟨rfl, _⟩ | ⟨g, off, cap, cur, rfl, hg, _⟩
 ·simp [Value.blk] at hm
 ·simp [Value.blk] at hm
  subst hm
  have := hg.symm.trans hk
  injection this with this
  injection this with _ h2
  exact hT h2.symm
end
section
open Go.RowKit
abbrev firstT (ts : List Tb) : Tb := ts.getD 0 ⟨[], []⟩
abbrev lastT (ts : List Tb) : Tb := ts.getD (ts.length - 1) ⟨[], []⟩
theorem wrongE_zero {cf : V -> V -> Int} {S : PS} {n : Int} {ts : List Tb} (hp : S.parts = 1 ∨ S.parts = 2) (h : wrongE cf S n ts = 0) : 0 <= n /\ n <= 1099511627776 /\ S.time <= n /\ (ts.length : Int) = S.parts /\ (∀ t, t ∈ ts -> tcheck cf t = 0) /\ (S.parts = 2 -> (firstT ts).vars = S.left) /\ (lastT ts).vars = S.right := by
 unfold wrongE at h
 split at h
 ·cases h
 rename_i h1
 split at h
 ·cases h
 rename_i h2
 split at h
 ·rename_i h3; exact absurd h h3
 rename_i h3
 split at h
 ·cases h
 rename_i h4
 have hl : (ts.length : Int) = S.parts := Classical.byContradiction h2
 have hb : firstBad cf ts = 0 := Classical.byContradiction h3
 have hpos : 0 < ts.length := by omega
 refine ⟨by omega, by omega, by omega, hl, firstBad_zero hb, fun hp2 => ?_, ?_⟩
 ·refine Classical.byContradiction fun hne => h4 (.inl ⟨hp2, ts[0], List.getElem?_eq_getElem hpos, ?_⟩)
  simpa [firstT, List.getD_eq_getElem?_getD, List.getElem?_eq_getElem hpos] using hne
 ·have hl2 : ts.length - 1 < ts.length := by omega
  refine Classical.byContradiction fun hne => h4 (.inr ⟨ts[ts.length - 1], List.getElem?_eq_getElem hl2, ?_⟩)
  simpa [lastT, List.getD_eq_getElem?_getD, List.getElem?_eq_getElem hl2] using hne
theorem PastAt.setTime {w : World} {p : Nat} {S : PS} {vl vr vw : Value} (h : PastAt w p S vl vr vw) (n : Int) : PastAt (w.setCell ⟨p, 6, none⟩ (.int .i64 n)) p { S with time := n } vl vr vw /\ w.Fr (w.setCell ⟨p, 6, none⟩ (.int .i64 n)) [p] := by
 have hf : w.Fr (w.setCell ⟨p, 6, none⟩ (.int .i64 n)) [p] := (World.Fr.refl w [p]).setCell (a := ⟨p, 6, none⟩) (.inl (by simp)) _
 have hod : Odd w [p] := Odd.one h.box (by decide)
 exact ⟨⟨heap_set_same h.box 6 (.int .i64 n), h.left.fr hf (hod.off h.left (.inl rfl)), h.right.fr hf (hod.off h.right (.inl rfl)), h.lw, h.rw, h.kept.fr hf hod (fun k hk hm => by
  simp at hm
  subst hm
  exact Sl115.ne h.kept.sl h.box (by decide) hk)⟩, hf⟩
end
section
open Go.RowKit
structure PX where
 i : Iv
 nt : Bool
 left : List BA
 right : List BA
 time : Int
 w : List (Int × Tb)
 fn : Nat
 parts : Int
abbrev PS.px (S : PS) : PX := ⟨S.i, S.nt, S.left, S.right, S.time, S.waits.map Kp.tt, S.fn, S.parts⟩
abbrev PX.ps (X : PX) : PS := ⟨X.i, X.nt, X.left, X.right, X.time, [], X.fn, X.parts⟩
noncomputable def wrongP (cf : V -> V -> Int) (X : PX) (n : Int) (ts : List Tb) : Int := wrongE cf X.ps n ts
def prevX (i : Iv) (n : Int) (e : Tb) (l : List (Int × Tb)) : Tb := l.foldl (fun o x => if inB (n - x.1) i then x.2 else o) e
noncomputable def keepP (cf : V -> V -> Int) (X : PX) (n : Int) (ts : List Tb) : List (Int × Tb) :=
 if X.fn = 59 then [(n, firstT ts)] else ((if X.parts = 1 then X.w else X.w.map (holdK cf X.nt (firstT ts))) ++ [(n, lastT ts)]).filter fun x => !goneX X.i n x
noncomputable def tellP (cf : V -> V -> Int) (X : PX) (n : Int) (ts : List Tb) : Tb :=
 if X.fn = 59 then prevX X.i n ⟨X.right, []⟩ X.w else sinceO cf X.i n ⟨X.right, []⟩ (keepP cf X n ts)
open Classical in
noncomputable def stepP (cf : V -> V -> Int) (X : PX) (n : Int) (ts : List Tb) : Int × Tb × PX :=
 if wrongP cf X n ts = 0 then (0, tellP cf X n ts, { X with time := n, w := keepP cf X n ts }) else (wrongP cf X n ts, ⟨[], []⟩, X)
structure POkP (cf : V -> V -> Int) (X : PX) (M : Nat) : Prop where
 upl : X.left.Pairwise fun a b => ltS a b = true
 up : X.right.Pairwise fun a b => ltS a b = true
 le8 : X.left.length <= 8 /\ X.right.length <= 8
 parts : X.parts = 1 ∨ X.parts = 2
 sub : ∀ s, s ∈ X.left -> s ∈ X.right
 time : -1 <= X.time /\ X.time <= 1099511627776
 times : ∀ x, x ∈ X.w -> 0 <= x.1 /\ x.1 <= X.time
 good : ∀ x, x ∈ X.w -> Good cf x.2 /\ x.2.vars = X.right /\ x.2.rows.length <= M
 fn : X.fn = 59 /\ X.parts = 1 ∨ X.fn = 65 /\ M = 600
theorem POkP.ok {cf : V -> V -> Int} {S : PS} {M : Nat} (h : POkP cf S.px M) (hm : S.waits.length <= 1000) : POk cf S M :=
 ⟨h.upl, h.up, h.le8, h.parts, h.sub, h.time, fun k hk => h.times k.tt (List.mem_map_of_mem hk), fun k hk => h.good k.tt (List.mem_map_of_mem hk), hm⟩
theorem tb_len {ts : List Tb} (h : (ts.length : Int) = 1) : firstT ts = lastT ts := by
 have : ts.length = 1 := by omega
 unfold firstT lastT
 rw [this]
theorem keepP_times {cf : V -> V -> Int} {X : PX} {n : Int} {ts : List Tb} {M : Nat} (h : POkP cf X M) (hn : 0 <= n) (hx : X.time <= n) : ∀ x, x ∈ keepP cf X n ts -> 0 <= x.1 /\ x.1 <= n := by
 intro x hxm
 unfold keepP at hxm
 split at hxm
 ·simp at hxm; subst hxm; exact ⟨hn, Int.le_refl _⟩
 ·rcases List.mem_append.1 (List.mem_filter.1 hxm).1 with hm | hm
  ·split at hm
   ·have := h.times x hm; omega
   ·obtain ⟨y, hy, rfl⟩ := List.mem_map.1 hm
    have := h.times y hy
    exact ⟨this.1, Int.le_trans this.2 hx⟩
  ·simp at hm; subst hm; exact ⟨hn, Int.le_refl _⟩
theorem keepP_good {cf : V -> V -> Int} (hO : OrdOk okW cf) {X : PX} {n : Int} {ts : List Tb} {M : Nat} (h : POkP cf X M) (he : wrongP cf X n ts = 0) (hgd : ∀ t, t ∈ ts -> Good cf t /\ t.rows.length <= M) : ∀ x, x ∈ keepP cf X n ts -> Good cf x.2 /\ x.2.vars = X.right /\ x.2.rows.length <= M := by
 obtain ⟨h1, h2, h3, h4, h5, h6, h7⟩ := wrongE_zero (S := X.ps) h.parts he
 simp only at h4 h6 h7
 have hpos : 0 < ts.length := by have := h.parts; omega
 have hl2 : ts.length - 1 < ts.length := by omega
 have e0 : ts[0]? = some (firstT ts) := by simp [firstT, List.getD_eq_getElem?_getD, List.getElem?_eq_getElem hpos]
 have e1 : ts[ts.length - 1]? = some (lastT ts) := by simp [lastT, List.getD_eq_getElem?_getD, List.getElem?_eq_getElem hl2]
 obtain ⟨g1, g2⟩ := hgd _ (List.mem_of_getElem? e0)
 obtain ⟨g3, g4⟩ := hgd _ (List.mem_of_getElem? e1)
 intro x hx
 unfold keepP at hx
 split at hx
 ·rename_i hf
  simp at hx
  subst hx
  have hp : X.parts = 1 := by rcases h.fn with ⟨_, hp⟩ | ⟨hf', _⟩; exact hp; rw [hf] at hf'; cases hf'
  rw [hp] at h4
  have e := tb_len h4
  exact ⟨g1, (congrArg Tb.vars e).trans h7, g2⟩
 ·rcases List.mem_append.1 (List.mem_filter.1 hx).1 with hm | hm
  ·split at hm
   ·exact h.good x hm
   ·rename_i hp
    obtain ⟨y, hy, rfl⟩ := List.mem_map.1 hm
    obtain ⟨k1, k2, k3⟩ := h.good y hy
    have hp2 := h.parts.resolve_left hp
    obtain ⟨q1, q2, q3⟩ := hold_small hO (nt := X.nt) k1 g1 (fun s hs => by rw [k2]; exact h.sub s (by rw [<- h6 hp2]; exact hs))
    exact ⟨q1, q2.trans k2, Nat.le_trans q3 k3⟩
  ·simp at hm; subst hm; exact ⟨g3, h7, g4⟩
theorem POkP.step {cf : V -> V -> Int} (hO : OrdOk okW cf) {X : PX} {n : Int} {ts : List Tb} {M : Nat} (h : POkP cf X M) (hgd : wrongP cf X n ts = 0 -> ∀ t, t ∈ ts -> Good cf t /\ t.rows.length <= M) : POkP cf (stepP cf X n ts).2.2 M := by
 unfold stepP
 by_cases he : wrongP cf X n ts = 0
 ·rw [if_pos he]
  obtain ⟨h1, h2, h3, h4, h5, h6, h7⟩ := wrongE_zero (S := X.ps) h.parts he
  exact ⟨h.upl, h.up, h.le8, h.parts, h.sub, ⟨by show -1 <= n; omega, h2⟩, keepP_times h h1 h3, keepP_good hO h he (hgd he), h.fn⟩
 ·rw [if_neg he]
  exact h
end
section
open Go.RowKit
structure NewTab (B : Nat) (w : World) (v : Value) (t : Tb) : Prop where
 ex : ∃ a b hs, v = .agg #[a, b] /\ w.Sl 9 1 a t.vars.length (t.vars.map Value.string) /\ w.Sl 81 1 b hs.length hs /\ hs.length = t.rows.length /\ (∀ k, k ∈ a.blk -> B <= k) /\ (∀ k, k ∈ b.blk -> B <= k) /\
  ∀ (i : Nat) (hv : Value) (r : Row), hs[i]? = some hv -> t.rows[i]? = some r -> w.Sl 83 4 hv r.length (r.flatMap V.enc) /\ ∀ k, k ∈ hv.blk -> B <= k
 wf : (∀ s, s ∈ t.vars -> s.size <= 9223372036854775807) /\ ∀ r, r ∈ t.rows -> ∀ v, v ∈ r -> v.wf
theorem OwnTab.new {B : Nat} {w0 w : World} {v : Value} {t : Tb} (h : OwnTab w0 w v t) (hB : B <= w0.heap.size) : NewTab B w v t := by
 obtain ⟨a, b, hs, hv, h1, h2, h3, h4, h5, h6⟩ := h.ex
 exact ⟨⟨a, b, hs, hv, h1, h2, h3, fun k hk => Nat.le_trans hB (h4 k hk), fun k hk => Nat.le_trans hB (h5 k hk), fun i hv r e1 e2 => ⟨(h6 i hv r e1 e2).1, fun k hk => Nat.le_trans hB ((h6 i hv r e1 e2).2 k hk)⟩⟩, h.wf⟩
theorem NewTab.sl {B : Nat} {w : World} {v : Value} {t : Tb} (h : NewTab B w v t) : SlTab w v t := by
 obtain ⟨a, b, hs, hv, h1, h2, h3, h4, h5, h6⟩ := h.ex
 exact ⟨⟨a, b, hs, hv, h1, h2, h3, fun i hv r e1 e2 => (h6 i hv r e1 e2).1⟩, h.wf⟩
theorem NewTab.fr {B : Nat} {w w' : World} {v : Value} {t : Tb} {M : List Nat} (h : NewTab B w v t) (hf : w.Fr w' M) (hM : Odd w M) : NewTab B w' v t := by
 obtain ⟨a, b, hs, hv, h1, h2, h3, h4, h5, h6⟩ := h.ex
 exact ⟨⟨a, b, hs, hv, h1.fr hf (hM.off h1 (.inl rfl)), h2.fr hf (hM.off h2 (.inr (.inl rfl))), h3, h4, h5, fun i hv r e1 e2 => ⟨(h6 i hv r e1 e2).1.fr hf (hM.off (h6 i hv r e1 e2).1 (.inr (.inr rfl))), (h6 i hv r e1 e2).2⟩⟩, h.wf⟩
theorem NewTab.none (B : Nat) (w : World) : NewTab B w (.agg #[.slice none 0 0, .slice none 0 0]) ⟨[], []⟩ :=
 ⟨⟨_, _, [], rfl, World.Sl.nil _ _ _, World.Sl.nil _ _ _, rfl, by simp [Value.blk], by simp [Value.blk], by simp⟩, by simp, by simp⟩
theorem PastAt.fr {w w' : World} {p : Nat} {S : PS} {vl vr vw : Value} {M : List Nat} (h : PastAt w p S vl vr vw) (hf : w.Fr w' M) (hM : Odd w M) (hd : ∀ k, k ∈ p :: vw.blk -> k ∉ M) : PastAt w' p S vl vr vw :=
 ⟨hf.heap h.box (hd p (by simp)), h.left.fr hf (hM.off h.left (.inl rfl)), h.right.fr hf (hM.off h.right (.inl rfl)), h.lw, h.rw, h.kept.fr hf hM (fun k hk => hd k (by simp [hk]))⟩
end
section
open Go.RowKit
def OpAt (w : World) (p : Nat) (X : PX) (B : List Nat) : Prop := ∃ S vl vr vw, PS.px S = X /\ PastAt w p S vl vr vw /\ B = p :: vw.blk
theorem OpAt.fr {w w' : World} {p : Nat} {X : PX} {B M : List Nat} (h : OpAt w p X B) (hf : w.Fr w' M) (hM : Odd w M) (hd : ∀ k, k ∈ B -> k ∉ M) : OpAt w' p X B := by
 obtain ⟨S, vl, vr, vw, hx, hp, rfl⟩ := h
 exact ⟨S, vl, vr, vw, hx, hp.fr hf hM hd, rfl⟩
theorem OpAt.still {w w' : World} {p : Nat} {X : PX} {B : List Nat} (h : OpAt w p X B) (hf : w.Fr w' []) : OpAt w' p X B := h.fr hf (fun k hk => by simp at hk) (by simp)
theorem OpAt.odd {w : World} {p : Nat} {X : PX} {B : List Nat} (h : OpAt w p X B) : Odd w B := by
 obtain ⟨S, vl, vr, vw, hx, hp, rfl⟩ := h
 exact hp.odd
theorem OpAt.lt {w : World} {p : Nat} {X : PX} {B : List Nat} (h : OpAt w p X B) : ∀ k, k ∈ B -> k < w.heap.size := by
 obtain ⟨S, vl, vr, vw, hx, hp, rfl⟩ := h
 intro k hk
 rcases List.mem_cons.1 hk with rfl | hk
 ·exact lt_of_heap hp.box
 ·exact hp.kept.sl.lt k hk
abbrev beginP (i : Iv) (nt : Bool) (l r : List BA) (fn : Nat) (parts : Int) : PX := ⟨i, nt, sortS l, sortS r, -1, [], fn, parts⟩
theorem beginE_zero {i : Iv} {l r : List BA} (h : beginE i l r = 0) : ivB i = true /\ NamesOk l /\ NamesOk r /\ ∀ s, s ∈ l -> s ∈ r := by
 unfold beginE at h
 split at h
 ·cases h
 rename_i h1
 split at h
 ·cases h
 rename_i h2
 split at h
 ·rename_i h3
  refine ⟨by simpa using h1, Classical.byContradiction fun hl => h2 (.inl hl), Classical.byContradiction fun hr => h2 (.inr hr), h3⟩
 ·cases h
theorem OpAt.begun {w : World} {k : Nat} {i : Iv} {nt : Bool} {l r : List BA} {fn : Nat} {parts : Int} {vl vr : Value} (h : PastAt w k (beginS i nt l r fn parts) vl vr (.slice none 0 0)) : OpAt w k (beginP i nt l r fn parts) [k] :=
 ⟨_, vl, vr, _, rfl, h, by simp [Value.blk]⟩
end
end Go.Proofs.YtbejmdlncnkaaaaGreat
