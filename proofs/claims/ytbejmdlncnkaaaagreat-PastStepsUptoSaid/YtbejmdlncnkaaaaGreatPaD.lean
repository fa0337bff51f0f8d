/-
  Package past: what an operator's next does; what it leaves. Package past, plainly: what a step does to an operator. Package past: the walk of Step. Package past: Step, by the operator's state; how an operator begins.
-/
import Derived.Test.YtbejmdlncnkaaaaGreatP12
set_option maxRecDepth 100000
set_option maxHeartbeats 16000000
set_option linter.unusedSimpArgs false
namespace Go.Proofs.YtbejmdlncnkaaaaGreat
section
open Go.RowKit
variable {Q : Nat -> Prop}
abbrev firstT (ts : List Tb) : Tb := ts.getD 0 ⟨[], []⟩
abbrev lastT (ts : List Tb) : Tb := ts.getD (ts.length - 1) ⟨[], []⟩
noncomputable def nextT (cf : V -> V -> Int) (S : PS) (n : Int) (ts : List Tb) : Tb := if S.fn = 59 then prevO S.i n ⟨S.right, []⟩ S.waits else sinceO cf S.i n ⟨S.right, []⟩ (sinceW cf S (firstT ts) (lastT ts) n)
noncomputable def nextW (cf : V -> V -> Int) (S : PS) (n : Int) (ts : List Tb) : List (Int × Tb) := if S.fn = 59 then [(n, firstT ts)] else sinceW cf S (firstT ts) (lastT ts) n
theorem wrongE_zero {cf : V -> V -> Int} {S : PS} {n : Int} {ts : List Tb} (hp : S.parts = 1 ∨ S.parts = 2) (h : wrongE cf S n ts = 0) : 0 <= n /\ n <= 1099511627776 /\ S.time <= n /\ (ts.length : Int) = S.parts /\ (∀ t, t ∈ ts -> tcheck cf t = 0) /\ (S.parts = 2 -> (firstT ts).vars = S.left) /\ (lastT ts).vars = S.right := by
 unfold wrongE at h
 split at h
 ·cases h
 rename_i h1
 split at h
 ·cases h
 rename_i h2
 split at h
 ·rename_i h3; exact absurd h h3
 rename_i h3
 split at h
 ·cases h
 rename_i h4
 have hl : (ts.length : Int) = S.parts := Classical.byContradiction h2
 have hb : firstBad cf ts = 0 := Classical.byContradiction h3
 have hpos : 0 < ts.length := by omega
 refine ⟨by omega, by omega, by omega, hl, firstBad_zero hb, fun hp2 => ?_, ?_⟩
 ·refine Classical.byContradiction fun hne => h4 (.inl ⟨hp2, ts[0], List.getElem?_eq_getElem hpos, ?_⟩)
  simpa [firstT, List.getD_eq_getElem?_getD, List.getElem?_eq_getElem hpos] using hne
 ·have hl2 : ts.length - 1 < ts.length := by omega
  refine Classical.byContradiction fun hne => h4 (.inr ⟨ts[ts.length - 1], List.getElem?_eq_getElem hl2, ?_⟩)
  simpa [lastT, List.getD_eq_getElem?_getD, List.getElem?_eq_getElem hl2] using hne
theorem PastAt.setTime {w : World} {p : Nat} {S : PS} {vl vr vw : Value} (h : PastAt Q w p S vl vr vw) (n : Int) : PastAt Q (w.setCell ⟨p, 6, none⟩ (.int .i64 n)) p { S with time := n } vl vr vw /\ w.Fr (w.setCell ⟨p, 6, none⟩ (.int .i64 n)) [p] := by
 have hf : w.Fr (w.setCell ⟨p, 6, none⟩ (.int .i64 n)) [p] := (World.Fr.refl w [p]).setCell (a := ⟨p, 6, none⟩) (.inl (by simp)) _
 have hod : Odd w [p] := Odd.one h.box (by decide)
 exact ⟨⟨heap_set_same h.box 6 (.int .i64 n), h.left.fr hf (hod.off h.left (.inl rfl)), h.right.fr hf (hod.off h.right (.inl rfl)), h.lw, h.rw, h.names, h.kept.fr hf hod (fun k hk hm => by
  simp at hm
  subst hm
  exact Sl115.ne h.kept.sl h.box (by decide) hk)⟩, hf⟩
theorem Calls.fn_eq {P : Program} {f g : Nat} {args : Array Value} {w : World} {Q : Ending -> World -> Prop} (h : f = g) (hc : Calls P g args w Q) : Calls P f args w Q := by subst h; exact hc
theorem next_call {cf : V -> V -> Int} (hK : Ctx V.wf cf) {w : World} (hQ : QFrom Q w) {p : Nat} {S : PS} {vl vr vw v : Value} {ts : List Tb} {n : Int} (h : PastAt Q w p S vl vr vw) (hO : POk cf S) (hfn : S.fn = 59 /\ S.parts = 1 ∨ S.fn = 65) (ht : ∀ W, w.Fr W (p :: vw.blk) -> RdTabs W v ts) (hdis : ∀ g off l c, v = .slice (some ⟨g, off, none⟩) l c -> g ∉ p :: vw.blk) (he : wrongE cf S n ts = 0) (hgd : ∀ t, t ∈ ts -> Good cf t /\ t.rows.length <= 600) :
  Calls Tryz.prog S.fn #[.pointer (some ⟨p, 0, none⟩), .int .i64 n, v] w fun e w' => ∃ u ks' vw', e = .returned u /\ TabIn Q w' u (nextT cf S n ts) /\ ks'.map Kp.tt = nextW cf S n ts /\ PastAt Q w' p { S with waits := ks' } vl vr vw' /\ (∀ k, k ∈ vw'.blk -> k ∈ vw.blk ∨ w.heap.size <= k) /\ w.Fr w' (p :: vw.blk) := by
 obtain ⟨h1, h2, h3, h4, h5, h6, h7⟩ := wrongE_zero hO.parts he
 have hpos : 0 < ts.length := by have := hO.parts; omega
 have hl2 : ts.length - 1 < ts.length := by omega
 have e0 : ts[0]? = some (firstT ts) := by simp [firstT, List.getD_eq_getElem?_getD, List.getElem?_eq_getElem hpos]
 have e1 : ts[ts.length - 1]? = some (lastT ts) := by simp [lastT, List.getD_eq_getElem?_getD, List.getElem?_eq_getElem hl2]
 obtain ⟨g1, g2⟩ := hgd _ (List.mem_of_getElem? e0)
 obtain ⟨g3, g4⟩ := hgd _ (List.mem_of_getElem? e1)
 rcases hfn with ⟨hf, hp⟩ | hf
 ·have hT : nextT cf S n ts = prevO S.i n ⟨S.right, []⟩ S.waits := by unfold nextT; rw [if_pos hf]
  have hW : nextW cf S n ts = [(n, firstT ts)] := by unfold nextW; rw [if_pos hf]
  rw [hT, hW]
  refine Calls.fn_eq hf ?_
  refine (prev59 hK hQ h hO (ht w (World.Fr.refl w _)) e0 g1 (by omega) ⟨h1, h2⟩).mono ?_
  rintro e w' ⟨u, x, y, vw', rfl, q1, q2, q3, q4⟩
  exact ⟨u, _, vw', rfl, q1, rfl, q2, fun k hk => .inr (q3 k hk), q4.mono (by simp)⟩
 ·have hne : ¬ S.fn = 59 := by rw [hf]; decide
  have hT : nextT cf S n ts = sinceO cf S.i n ⟨S.right, []⟩ (sinceW cf S (firstT ts) (lastT ts) n) := by unfold nextT; rw [if_neg hne]
  have hW : nextW cf S n ts = sinceW cf S (firstT ts) (lastT ts) n := by unfold nextW; rw [if_neg hne]
  rw [hT, hW]
  refine Calls.fn_eq hf ?_
  exact since65 hK hQ h hO ht hdis e0 e1 h4 g1 g3 g2 g4 ⟨h1, h2⟩ (fun hp s hs => hO.sub s (by rw [<- h6 hp]; exact hs)) h7
end
section
open Go.RowKit
structure PX where
 i : Iv
 nt : Bool
 left : List BA
 right : List BA
 time : Int
 w : List (Int × Tb)
 fn : Nat
 parts : Int
abbrev PS.px (S : PS) : PX := ⟨S.i, S.nt, S.left, S.right, S.time, S.waits.map Kp.tt, S.fn, S.parts⟩
abbrev PX.ps (X : PX) : PS := ⟨X.i, X.nt, X.left, X.right, X.time, [], X.fn, X.parts⟩
noncomputable def wrongP (cf : V -> V -> Int) (X : PX) (n : Int) (ts : List Tb) : Int := wrongE cf X.ps n ts
def prevX (i : Iv) (n : Int) (e : Tb) (l : List (Int × Tb)) : Tb := l.foldl (fun o x => if inB (n - x.1) i then x.2 else o) e
theorem prevO_px {i : Iv} {n : Int} {e : Tb} (ks : List Kp) : prevO i n e ks = prevX i n e (ks.map Kp.tt) := by
 unfold prevO prevX
 rw [List.foldl_map]
noncomputable def keepP (cf : V -> V -> Int) (X : PX) (n : Int) (ts : List Tb) : List (Int × Tb) :=
 if X.fn = 59 then [(n, firstT ts)] else ((if X.parts = 1 then X.w else X.w.map (holdK cf X.nt (firstT ts))) ++ [(n, lastT ts)]).filter fun x => !goneX X.i n x
noncomputable def tellP (cf : V -> V -> Int) (X : PX) (n : Int) (ts : List Tb) : Tb :=
 if X.fn = 59 then prevX X.i n ⟨X.right, []⟩ X.w else sinceO cf X.i n ⟨X.right, []⟩ (keepP cf X n ts)
theorem nextW_px {cf : V -> V -> Int} (S : PS) (n : Int) (ts : List Tb) : nextW cf S n ts = keepP cf S.px n ts := by
 unfold nextW keepP
 rfl
theorem nextT_px {cf : V -> V -> Int} (S : PS) (n : Int) (ts : List Tb) : nextT cf S n ts = tellP cf S.px n ts := by
 unfold nextT tellP
 by_cases h : S.fn = 59
 ·rw [if_pos h, if_pos h, prevO_px]
 ·rw [if_neg h, if_neg h, <- nextW_px]
  unfold nextW
  rw [if_neg h]
open Classical in
noncomputable def stepP (cf : V -> V -> Int) (X : PX) (n : Int) (ts : List Tb) : Int × Tb × PX :=
 if wrongP cf X n ts = 0 then (0, tellP cf X n ts, { X with time := n, w := keepP cf X n ts }) else (wrongP cf X n ts, ⟨[], []⟩, X)
structure POkP (cf : V -> V -> Int) (X : PX) (M : Nat) : Prop where
 upl : X.left.Pairwise fun a b => ltS a b = true
 up : X.right.Pairwise fun a b => ltS a b = true
 le8 : X.left.length <= 8 /\ X.right.length <= 8
 parts : X.parts = 1 ∨ X.parts = 2
 sub : ∀ s, s ∈ X.left -> s ∈ X.right
 time : -1 <= X.time /\ X.time <= 1099511627776
 times : ∀ x, x ∈ X.w -> 0 <= x.1 /\ x.1 <= X.time
 good : ∀ x, x ∈ X.w -> Good cf x.2 /\ x.2.vars = X.right /\ x.2.rows.length <= M
 fn : X.fn = 59 /\ X.parts = 1 ∨ X.fn = 65 /\ M = 600
theorem POkP.ok {cf : V -> V -> Int} {S : PS} {M : Nat} (h : POkP cf S.px M) (hm : S.waits.length <= 1000) : POk cf S M :=
 ⟨h.upl, h.up, h.le8, h.parts, h.sub, h.time, fun k hk => h.times k.tt (List.mem_map_of_mem hk), fun k hk => h.good k.tt (List.mem_map_of_mem hk), hm⟩
theorem keepP_len {cf : V -> V -> Int} {X : PX} {n : Int} {ts : List Tb} : (keepP cf X n ts).length <= X.w.length + 1 := by
 unfold keepP
 split
 ·simp
 ·refine Nat.le_trans (List.length_filter_le _ _) ?_
  split <;> simp
theorem tb_len {ts : List Tb} (h : (ts.length : Int) = 1) : firstT ts = lastT ts := by
 have : ts.length = 1 := by omega
 unfold firstT lastT
 rw [this]
theorem keepP_times {cf : V -> V -> Int} {X : PX} {n : Int} {ts : List Tb} {M : Nat} (h : POkP cf X M) (hn : 0 <= n) (hx : X.time <= n) : ∀ x, x ∈ keepP cf X n ts -> 0 <= x.1 /\ x.1 <= n := by
 intro x hxm
 unfold keepP at hxm
 split at hxm
 ·simp at hxm; subst hxm; exact ⟨hn, Int.le_refl _⟩
 ·rcases List.mem_append.1 (List.mem_filter.1 hxm).1 with hm | hm
  ·split at hm
   ·have := h.times x hm; omega
   ·obtain ⟨y, hy, rfl⟩ := List.mem_map.1 hm
    have := h.times y hy
    exact ⟨this.1, Int.le_trans this.2 hx⟩
  ·simp at hm; subst hm; exact ⟨hn, Int.le_refl _⟩
theorem keepP_good {cf : V -> V -> Int} (hO : OrdOk okW cf) {X : PX} {n : Int} {ts : List Tb} {M : Nat} (h : POkP cf X M) (he : wrongP cf X n ts = 0) (hgd : ∀ t, t ∈ ts -> Good cf t /\ t.rows.length <= M) : ∀ x, x ∈ keepP cf X n ts -> Good cf x.2 /\ x.2.vars = X.right /\ x.2.rows.length <= M := by
 obtain ⟨h1, h2, h3, h4, h5, h6, h7⟩ := wrongE_zero (S := X.ps) h.parts he
 simp only at h4 h6 h7
 have hpos : 0 < ts.length := by have := h.parts; omega
 have hl2 : ts.length - 1 < ts.length := by omega
 have e0 : ts[0]? = some (firstT ts) := by simp [firstT, List.getD_eq_getElem?_getD, List.getElem?_eq_getElem hpos]
 have e1 : ts[ts.length - 1]? = some (lastT ts) := by simp [lastT, List.getD_eq_getElem?_getD, List.getElem?_eq_getElem hl2]
 obtain ⟨g1, g2⟩ := hgd _ (List.mem_of_getElem? e0)
 obtain ⟨g3, g4⟩ := hgd _ (List.mem_of_getElem? e1)
 intro x hx
 unfold keepP at hx
 split at hx
 ·rename_i hf
  simp at hx
  subst hx
  have hp : X.parts = 1 := by rcases h.fn with ⟨_, hp⟩ | ⟨hf', _⟩; exact hp; rw [hf] at hf'; cases hf'
  rw [hp] at h4
  have e := tb_len h4
  exact ⟨g1, (congrArg Tb.vars e).trans h7, g2⟩
 ·rcases List.mem_append.1 (List.mem_filter.1 hx).1 with hm | hm
  ·split at hm
   ·exact h.good x hm
   ·rename_i hp
    obtain ⟨y, hy, rfl⟩ := List.mem_map.1 hm
    obtain ⟨k1, k2, k3⟩ := h.good y hy
    have hp2 := h.parts.resolve_left hp
    obtain ⟨q1, q2, q3⟩ := hold_small hO (nt := X.nt) k1 g1 (fun s hs => by rw [k2]; exact h.sub s (by rw [<- h6 hp2]; exact hs))
    exact ⟨q1, q2.trans k2, Nat.le_trans q3 k3⟩
  ·simp at hm; subst hm; exact ⟨g3, h7, g4⟩
theorem prevX_good {cf : V -> V -> Int} {i : Iv} {n : Int} {l : List (Int × Tb)} {R : List BA} {M : Nat} : ∀ e : Tb, Good cf e /\ e.vars = R /\ e.rows.length <= M -> (∀ x, x ∈ l -> Good cf x.2 /\ x.2.vars = R /\ x.2.rows.length <= M) -> Good cf (prevX i n e l) /\ (prevX i n e l).vars = R /\ (prevX i n e l).rows.length <= M := by
 induction l with
 | nil => intro e he _; exact he
 | cons k r ih =>
  intro e he hk
  unfold prevX
  rw [List.foldl_cons]
  refine ih _ ?_ (fun x hx => hk x (by simp [hx]))
  by_cases hin : inB (n - k.1) i = true
  ·rw [if_pos hin]; exact hk k (by simp)
  ·rw [if_neg hin]; exact he
theorem empty_good {cf : V -> V -> Int} {X : PX} {M : Nat} (h : POkP cf X M) : Good cf ⟨X.right, []⟩ := ⟨h.le8.2, h.up, by simp, by simp, by simp⟩
theorem tellP_good {cf : V -> V -> Int} (hO : OrdOk okW cf) {X : PX} {n : Int} {ts : List Tb} {M : Nat} (h : POkP cf X M) (hM : M <= 5864062014634) (hm : X.w.length <= 1000) (he : wrongP cf X n ts = 0) (hgd : ∀ t, t ∈ ts -> Good cf t /\ t.rows.length <= M) :
  Good cf (tellP cf X n ts) /\ (tellP cf X n ts).vars = X.right /\ (tellP cf X n ts).rows.length <= 5864062014634 /\ (X.fn = 65 -> (tellP cf X n ts).rows.length <= 1000000) := by
 have hE := empty_good h
 unfold tellP
 split
 ·rename_i hf
  obtain ⟨h1, h2, h3⟩ := prevX_good (i := X.i) (n := n) (l := X.w) (R := X.right) (M := M) ⟨X.right, []⟩ ⟨hE, rfl, by simp⟩ h.good
  exact ⟨h1, h2, by omega, fun h' => by rw [hf] at h'; cases h'⟩
 ·rename_i hf
  have hM6 : M = 600 := by rcases h.fn with ⟨h', _⟩ | ⟨_, h'⟩; exact absurd h' hf; exact h'
  subst hM6
  obtain ⟨h1, h2, h3⟩ := sinceO_good hO (i := X.i) (n := n) (keepP cf X n ts) ⟨X.right, []⟩ hE (keepP_good hO h he hgd)
  have h4 : (keepP cf X n ts).length <= 1001 := Nat.le_trans keepP_len (by omega)
  have h6 := Nat.mul_le_mul_right 600 h4
  simp only [List.length_nil] at h3
  have h7 : (sinceO cf X.i n ⟨X.right, []⟩ (keepP cf X n ts)).rows.length <= 1000000 := by omega
  exact ⟨h1, h2, by omega, fun _ => h7⟩
theorem POkP.step {cf : V -> V -> Int} (hO : OrdOk okW cf) {X : PX} {n : Int} {ts : List Tb} {M : Nat} (h : POkP cf X M) (hgd : wrongP cf X n ts = 0 -> ∀ t, t ∈ ts -> Good cf t /\ t.rows.length <= M) : POkP cf (stepP cf X n ts).2.2 M := by
 unfold stepP
 by_cases he : wrongP cf X n ts = 0
 ·rw [if_pos he]
  obtain ⟨h1, h2, h3, h4, h5, h6, h7⟩ := wrongE_zero (S := X.ps) h.parts he
  exact ⟨h.upl, h.up, h.le8, h.parts, h.sub, ⟨by show -1 <= n; omega, h2⟩, keepP_times h h1 h3, keepP_good hO h he (hgd he), h.fn⟩
 ·rw [if_neg he]
  exact h
end
section
open Go.RowKit
variable {Q : Nat -> Prop}
theorem TabIn.none (Q : Nat -> Prop) (w : World) : TabIn Q w (.agg #[.slice none 0 0, .slice none 0 0]) ⟨[], []⟩ :=
 ⟨⟨_, _, [], rfl, World.Sl.nil _ _ _, World.Sl.nil _ _ _, rfl, by simp [Value.blk], by simp [Value.blk], by simp⟩, by simp, by simp⟩
theorem PastAt.fr {w w' : World} {p : Nat} {S : PS} {vl vr vw : Value} {M : List Nat} (h : PastAt Q w p S vl vr vw) (hf : w.Fr w' M) (hM : Odd w M) (hd : ∀ k, k ∈ p :: vw.blk -> k ∉ M) : PastAt Q w' p S vl vr vw :=
 ⟨hf.heap h.box (hd p (by simp)), h.left.fr hf (hM.off h.left (.inl rfl)), h.right.fr hf (hM.off h.right (.inl rfl)), h.lw, h.rw, h.names, h.kept.fr hf hM (fun k hk => hd k (by simp [hk]))⟩
theorem step18_bad {cf : V -> V -> Int} (hK : Ctx V.wf cf) {w : World} {p : Nat} {S : PS} {vl vr vw v : Value} {ts : List Tb} {n : Int} (h : PastAt Q w p S vl vr vw) (hS : S.left.length <= 8 /\ S.right.length <= 8) (hp : S.parts = 1 ∨ S.parts = 2) (ht : RdTabs w v ts) (hts : ts.length <= 8796093021952) (hf : ∀ t, t ∈ ts -> Fits V.wf t) (he : wrongE cf S n ts ≠ 0) :
  Calls Tryz.prog 18 #[.pointer (some ⟨p, 0, none⟩), .int .i64 n, v] w fun e w' => e = .returned (.tuple #[.agg #[.slice none 0 0, .slice none 0 0], .int .i64 (wrongE cf S n ts)]) /\ w.Fr w' [] := by
 have f6 := (World.Fr.refl w []).alloc (.cells #[.slice none 0 0, .slice none 0 0] 34)
 have q6 := heap_alloc_at w (.cells #[.slice none 0 0, .slice none 0 0] 34) _ rfl
 have k := wrong61 hK (n := n) (h.still f6) (ht.still f6) hS hp hts hf
 generalize wrongE cf S n ts = R at *
 have hne : (R != 0) = true := by simpa using he
 obtain ⟨v1, v2, rfl⟩ := ht.shape
 have K := Hz k; have F := Hz f6; have Q := Hz q6
 clear k f6 q6 h ht hf hS hp hts he hK
 go_enter Tryz.func18, Tryz.ntmps18
 go_upto_region 1 with (fail)
 generalize hW : World.alloc w _ = W at *
 clear hW
 go_wp2_with fail
 (with_reducible refine K.out.mono ?_)
 rintro e w1 ⟨rfl, fx⟩
 have q := fx.heap Q.out (by simp)
 obtain ⟨m0, m1, mf⟩ := two q
 have hz := lt_of_heap q
 have hs := heap_set_same (heap_set_same q 0 (.slice none 0 0)) 1 (.slice none 0 0)
 obtain ⟨s0, s1, _⟩ := two hs
 have hfin : w.Fr ((w1.setCell ⟨w.heap.size, 0, none⟩ (.slice none 0 0)).setCell ⟨w.heap.size, 1, none⟩ (.slice none 0 0)) [] := ((F.out.trans fx (by simp)).setCell (a := ⟨w.heap.size, 0, none⟩) (.inr (Nat.le_refl _)) _).setCell (a := ⟨w.heap.size, 1, none⟩) (.inr (Nat.le_refl _)) _
 have HS := Hz (And.intro s0 s1); have HF := Hz hfin
 clear hs s0 s1 hfin q fx K Q F
 go_wp2
 obtain ⟨s0, s1⟩ := HS.out
 refine bodyPost_ret (v := .tuple #[.agg #[.slice none 0 0, .slice none 0 0], .int .i64 R]) (by simp [results, Tryz.results18, go_sem, s0, s1]) rfl ⟨rfl, HF.out⟩
theorem step18_ok {cf : V -> V -> Int} (hK : Ctx V.wf cf) {w : World} {p : Nat} {S : PS} {vl vr vw v : Value} {ts : List Tb} {n : Int} {T : Tb} {X : List (Int × Tb)} (h : PastAt Q w p S vl vr vw) (hS : S.left.length <= 8 /\ S.right.length <= 8) (hp : S.parts = 1 ∨ S.parts = 2) (ht : RdTabs w v ts) (hts : ts.length <= 8796093021952) (hf : ∀ t, t ∈ ts -> Fits V.wf t) (he : wrongE cf S n ts = 0) (hT : Good cf T) (hTm : T.rows.length <= 5864062014634) (eF : ∀ args w, (callFunc S.fn args).run Tryz.prog w = .ok (.enter S.fn args) w)
  (hnext : ∀ W, w.Fr W [] -> Calls Tryz.prog S.fn #[.pointer (some ⟨p, 0, none⟩), .int .i64 n, v] W fun e w' => ∃ u ks' vw', e = .returned u /\ TabIn Q w' u T /\ ks'.map Kp.tt = X /\ PastAt Q w' p { S with waits := ks' } vl vr vw' /\ (∀ k, k ∈ vw'.blk -> k ∈ vw.blk ∨ W.heap.size <= k) /\ W.Fr w' (p :: vw.blk)) :
  Calls Tryz.prog 18 #[.pointer (some ⟨p, 0, none⟩), .int .i64 n, v] w fun e w' => ∃ u ks' vw' m, e = .returned (.tuple #[u, .int .i64 0]) /\ TabIn (fun b => m <= b) w' u T /\ ks'.map Kp.tt = X /\ PastAt (fun b => Q b /\ b < m) w' p { S with waits := ks', time := n } vl vr vw' /\ (w.heap.size <= m /\ m <= w'.heap.size) /\ (∀ k, k ∈ vw'.blk -> k ∈ vw.blk ∨ w.heap.size <= k) /\ w.Fr w' (p :: vw.blk) := by
 have f6 := (World.Fr.refl w []).alloc (.cells #[.slice none 0 0, .slice none 0 0] 34)
 have q6 := heap_alloc_at w (.cells #[.slice none 0 0, .slice none 0 0] 34) _ rfl
 have k := wrong61 hK (n := n) (h.still f6) (ht.still f6) hS hp hts hf
 rw [he] at k
 obtain ⟨v1, v2, rfl⟩ := ht.shape
 have hlt6 : p < w.heap.size := lt_of_heap h.box
 have hblt : ∀ k, k ∈ vw.blk -> k < w.heap.size := fun k hk => h.kept.sl.lt k hk
 have hp6 : w.heap.size ∉ p :: vw.blk := fun hm => by
  rcases List.mem_cons.1 hm with e | hm
  ·omega
  ·have := hblt _ hm; omega
 have K := Hz k; have F := Hz f6; have Q := Hz q6; have H := Hz h; have HN := Hz hnext; have HK := Hz hK; have HT := Hz hT; have HTm := Hz hTm; have HP6 := Hz hp6; have HLT := Hz hlt6
 clear k f6 q6 h ht hf hS hp hts he hK hnext hT hTm hblt hp6
 go_enter Tryz.func18, Tryz.ntmps18
 go_upto_region 1 with (fail)
 generalize hW : World.alloc w _ = W at *
 clear hW
 go_wp2_with fail
 (with_reducible refine K.out.mono ?_)
 rintro e w1 ⟨rfl, fx⟩
 have F1 := Hz (F.out.trans fx (by simp))
 have q := fx.heap Q.out (by simp)
 have hpa := H.out.still F1.out
 obtain ⟨e0, e1, e2, e3, e4, e5, e6, e7, e8, e9, ef⟩ := ten hpa.box
 have hzp := lt_of_heap hpa.box
 have Q1 := Hz q
 have hc := HN.out w1 F1.out
 have Hc := Hz hc
 clear hc q hpa fx K Q F
 go_wp2_with fail
 (with_reducible refine Hc.out.mono ?_)
 rintro e w2 ⟨u, ks', vw', rfl, hsl, hks, hpa, hb, hfr⟩
 obtain ⟨a, b, _, hu, _⟩ := hsl.ex
 subst hu
 obtain ⟨a1, a2, a3, a4, rfl, rfl⟩ := hsl.shape
 have q6 := hfr.heap Q1.out HP6.out
 have hlt1 := lt_of_heap Q1.out
 have hnin : w.heap.size ∉ p :: vw'.blk := fun hm => by
  rcases List.mem_cons.1 hm with e | hm
  ·have := HLT.out; omega
  ·rcases hb _ hm with h | h
   ·exact HP6.out (by simp [h])
   ·omega
 have hbw : ∀ k, k ∈ vw'.blk -> k ∈ vw.blk ∨ w.heap.size <= k := fun k hk => (hb k hk).imp id (fun h => by omega)
 have hf9 := (World.Fr.refl w2 []).alloc (.cells #[.slice a1 T.vars.length a2, .slice a3 T.rows.length a4] 34)
 have q9 := heap_alloc_at w2 (.cells #[.slice a1 T.vars.length a2, .slice a3 T.rows.length a4] 34) _ rfl
 have hpa9 := hpa.still hf9
 have hsl9 := hsl.still hf9
 have q69 := hf9.heap q6 (by simp)
 have hfw9 : w.Fr (w2.alloc (.cells #[.slice a1 T.vars.length a2, .slice a3 T.rows.length a4] 34)) (p :: vw.blk) := ((F1.out.mono (L' := p :: vw.blk) (by simp)).trans hfr (fun k hk => .inl hk)).trans hf9 (by simp)
 have hne9 : w2.heap.size ≠ p := by have := lt_of_heap hpa.box; omega
 have HA := Hz hpa9; have HSl := Hz hsl9; have HQ9 := Hz q9; have HQ6 := Hz q69; have HFW := Hz hfw9; have HKS := Hz hks; have HNE := Hz hne9; have HNI := Hz hnin; have HBW := Hz hbw
 clear hpa9 hsl9 q9 q69 hfw9 hks hne9 hnin hbw hf9 hpa hsl q6 hlt1 hb hfr Hc Q1 F1 HN H e0 e1 e2 e3 e4 e5 e6 e7 e8 e9 ef hzp
 go_upto_region 5 with (fail)
 generalize hWW : World.alloc w2 _ = W3 at *
 clear hWW
 generalize w2.heap.size = p9 at *
 obtain ⟨e0, e1, e2, e3, e4, e5, e6, e7, e8, e9, ef⟩ := ten HA.out.box
 have hzp := lt_of_heap HA.out.box
 obtain ⟨hpt, hft⟩ := HA.out.setTime n
 have hodd := Odd.one HA.out.box (by decide)
 have hsl4 := HSl.out.fr hft hodd
 have q94 := heap_set_other HQ9.out ⟨p, 6, none⟩ HNE.out (.int .i64 n)
 have q64 := heap_set_other HQ6.out ⟨p, 6, none⟩ (by show w.heap.size ≠ p; have := HLT.out; omega) (.int .i64 n)
 have hfw4 := HFW.out.trans hft (fun k hk => .inl (by simp at hk; simp [hk]))
 have HA4 := Hz hpt; have HSl4 := Hz hsl4; have HQ94 := Hz q94; have HQ64 := Hz q64; have HFW4 := Hz hfw4
 clear hpt hft hodd hsl4 q94 q64 hfw4 HA HSl HQ9 HQ6 HFW
 go_upto_region 6 with (fail)
 generalize hWW : World.setCell W3 _ _ = W4 at *
 clear hWW e0 e1 e2 e3 e4 e5 e6 e7 e8 e9 ef hzp
 obtain ⟨m0, m1, mf⟩ := two HQ94.out
 have hz9 := lt_of_heap HQ94.out
 have Hc := Hz (copied62 HK.out HSl4.out.rd (HT.out.fits HTm.out) HT.out.check)
 go_wp2_with fail
 (with_reducible refine Hc.out.mono ?_)
 rintro e w5 ⟨u', rfl, ho⟩
 obtain ⟨t1, t2, t3, t4, rfl⟩ := ho.shape
 have q65 := ho.fr.heap HQ64.out (by simp)
 have h1 := ((World.Fr.refl w5 [w.heap.size]).setCell (a := ⟨w.heap.size, 0, none⟩) (.inl (by simp)) (.slice t1 T.vars.length t2)).setCell (a := ⟨w.heap.size, 1, none⟩) (.inl (by simp)) (.slice t3 T.rows.length t4)
 have hod := Odd.one q65 (by decide)
 have hnew : TabIn (fun b => W4.heap.size <= b) _ _ _ := (ho.inn (fun k hk _ => hk)).fr h1 hod
 have hpa6 := ((HA4.out.imp (R := fun b => Q b /\ b < W4.heap.size) (fun k hk hq => ⟨hq, hk⟩)).still ho.fr).fr h1 hod (fun k hk hm => by simp at hm; subst hm; exact HNI.out hk)
 have hfw6 := (HFW4.out.trans ho.fr (by simp)).trans h1 (fun k hk => .inr (by simp at hk; exact Nat.le_of_eq hk.symm))
 have hb6 := heap_set_same (heap_set_same q65 0 (.slice t1 T.vars.length t2)) 1 (.slice t3 T.rows.length t4)
 have Hms := Hz (And.intro HFW4.out.size (Nat.le_trans ho.fr.size h1.size))
 have Hfin := Hz (And.intro hnew (And.intro hpa6 hfw6))
 have Hc6 := Hz (two hb6)
 obtain ⟨n0, n1, nf⟩ := two q65
 have hz6 := lt_of_heap q65
 clear hnew hpa6 hfw6 hb6 h1 hod q65 ho Hc HSl4 HQ94 HQ64 HFW4 m0 m1 mf hz9 HA4
 go_wp2
 obtain ⟨f0, f1, _⟩ := Hc6.out
 obtain ⟨g1, g2, g3⟩ := Hfin.out
 refine bodyPost_ret (v := .tuple #[.agg #[.slice t1 _ t2, .slice t3 _ t4], .int .i64 0]) (by simp [results, Tryz.results18, go_sem, f0, f1]) rfl ⟨_, ks', vw', _, rfl, g1, HKS.out, g2, Hms.out, HBW.out, g3⟩
end
section
open Go.RowKit
def OpAt (Q : Nat -> Prop) (w : World) (p : Nat) (X : PX) (B : List Nat) : Prop := ∃ S vl vr vw, PS.px S = X /\ PastAt Q w p S vl vr vw /\ B = p :: vw.blk
variable {Q : Nat -> Prop}
theorem OpAt.fr {w w' : World} {p : Nat} {X : PX} {B M : List Nat} (h : OpAt Q w p X B) (hf : w.Fr w' M) (hM : Odd w M) (hd : ∀ k, k ∈ B -> k ∉ M) : OpAt Q w' p X B := by
 obtain ⟨S, vl, vr, vw, hx, hp, rfl⟩ := h
 exact ⟨S, vl, vr, vw, hx, hp.fr hf hM hd, rfl⟩
theorem OpAt.still {w w' : World} {p : Nat} {X : PX} {B : List Nat} (h : OpAt Q w p X B) (hf : w.Fr w' []) : OpAt Q w' p X B := h.fr hf (fun k hk => by simp at hk) (by simp)
theorem OpAt.odd {w : World} {p : Nat} {X : PX} {B : List Nat} (h : OpAt Q w p X B) : Odd w B := by
 obtain ⟨S, vl, vr, vw, hx, hp, rfl⟩ := h
 exact hp.odd
theorem OpAt.lt {w : World} {p : Nat} {X : PX} {B : List Nat} (h : OpAt Q w p X B) : ∀ k, k ∈ B -> k < w.heap.size := by
 obtain ⟨S, vl, vr, vw, hx, hp, rfl⟩ := h
 intro k hk
 rcases List.mem_cons.1 hk with rfl | hk
 ·exact lt_of_heap hp.box
 ·exact hp.kept.sl.lt k hk
theorem OpAt.imp {R : Nat -> Prop} {w : World} {p : Nat} {X : PX} {B : List Nat} (h : OpAt Q w p X B) (hq : ∀ k, k < w.heap.size -> Q k -> R k) : OpAt R w p X B := by
 obtain ⟨S, vl, vr, vw, hx, hp, rfl⟩ := h
 exact ⟨S, vl, vr, vw, hx, hp.imp hq, rfl⟩
theorem step18 {cf : V -> V -> Int} (hK : Ctx V.wf cf) {M : Nat} (hM : M <= 5864062014634) {w : World} (hQ : QFrom Q w) {p : Nat} {X : PX} {B : List Nat} {v : Value} {ts : List Tb} {n : Int} (h : OpAt Q w p X B) (hO : POkP cf X M) (hm : X.w.length <= 1000) (ht : ∀ W, w.Fr W B -> RdTabs W v ts) (hdis : 0 < ts.length -> ∀ g off l c, v = .slice (some ⟨g, off, none⟩) l c -> g ∉ B) (hts : ts.length <= 8796093021952) (hf : ∀ t, t ∈ ts -> Fits V.wf t) (hrows : wrongP cf X n ts = 0 -> ∀ t, t ∈ ts -> t.rows.length <= M) :
  Calls Tryz.prog 18 #[.pointer (some ⟨p, 0, none⟩), .int .i64 n, v] w fun e w' => ∃ u B' m, e = .returned (.tuple #[u, .int .i64 (stepP cf X n ts).1]) /\ TabIn (fun b => m <= b) w' u (stepP cf X n ts).2.1 /\ OpAt (fun b => Q b /\ b < m) w' p (stepP cf X n ts).2.2 B' /\ (w.heap.size <= m /\ m <= w'.heap.size) /\ (∀ k, k ∈ B' -> k ∈ B ∨ w.heap.size <= k) /\ w.Fr w' B := by
 obtain ⟨S, vl, vr, vw, rfl, hp, rfl⟩ := h
 have hOk := hO.ok (by simpa using hm)
 have htw := ht w (World.Fr.refl w _)
 by_cases he : wrongP cf S.px n ts = 0
 ·have hst : stepP cf S.px n ts = (0, tellP cf S.px n ts, { S.px with time := n, w := keepP cf S.px n ts }) := by unfold stepP; rw [if_pos he]
  rw [hst]
  obtain ⟨h1, h2, h3, h4, h5, h6, h7⟩ := wrongE_zero (S := S) hO.parts he
  have hgd : ∀ t, t ∈ ts -> Good cf t /\ t.rows.length <= M := fun t ht => ⟨good_of hK.ord (h5 t ht) (hf t ht).ok, hrows he t ht⟩
  obtain ⟨g1, g2, g3, _⟩ := tellP_good hK.ord hO hM hm he hgd
  have hpos : 0 < ts.length := by have := hO.parts; simp only at this; omega
  have hl2 : ts.length - 1 < ts.length := by omega
  have e0 : ts[0]? = some (firstT ts) := by simp [firstT, List.getD_eq_getElem?_getD, List.getElem?_eq_getElem hpos]
  have hnext : ∀ W, w.Fr W [] -> Calls Tryz.prog S.fn #[.pointer (some ⟨p, 0, none⟩), .int .i64 n, v] W fun e w' => ∃ u ks' vw', e = .returned u /\ TabIn Q w' u (tellP cf S.px n ts) /\ ks'.map Kp.tt = keepP cf S.px n ts /\ PastAt Q w' p { S with waits := ks' } vl vr vw' /\ (∀ k, k ∈ vw'.blk -> k ∈ vw.blk ∨ W.heap.size <= k) /\ W.Fr w' (p :: vw.blk) := by
   intro W hW
   have htW : ∀ W', W.Fr W' (p :: vw.blk) -> RdTabs W' v ts := fun W' hW' => ht W' ((hW.mono (by simp)).trans hW' (fun k hk => .inl hk))
   rcases hO.fn with ⟨hfn, hpt⟩ | ⟨hfn, hM6⟩
   ·have hfn' : S.fn = 59 := hfn
    have hT : tellP cf S.px n ts = prevO S.i n ⟨S.right, []⟩ S.waits := by rw [<- nextT_px]; unfold nextT; rw [if_pos hfn']
    have hKp : keepP cf S.px n ts = [(n, firstT ts)] := by unfold keepP; rw [if_pos hfn]
    rw [hT, hKp]
    refine Calls.fn_eq hfn' ?_
    obtain ⟨k1, k2⟩ := hgd _ (List.mem_of_getElem? e0)
    refine (prev59 hK (hQ.fr hW) (hp.still hW) hOk (htW W (World.Fr.refl W _)) e0 k1 (by omega) ⟨h1, h2⟩).mono ?_
    rintro e w' ⟨u, x, y, vw', rfl, q1, q2, q3, q4⟩
    exact ⟨u, _, vw', rfl, q1, rfl, q2, fun k hk => .inr (q3 k hk), q4.mono (by simp)⟩
   ·have hfn' : S.fn = 65 := hfn
    subst hM6
    have := next_call hK (hQ.fr hW) (n := n) (hp.still hW) hOk (.inr hfn') htW (hdis hpos) he hgd
    rw [nextT_px, nextW_px] at this
    exact this
  have eF : ∀ args w, (callFunc S.fn args).run Tryz.prog w = .ok (.enter S.fn args) w := by
   rcases hO.fn with ⟨hfn, _⟩ | ⟨hfn, _⟩
   ·have hfn' : S.fn = 59 := hfn
    rw [hfn']; exact Tryz.call59
   ·have hfn' : S.fn = 65 := hfn
    rw [hfn']; exact Tryz.call65
  refine (step18_ok hK hp hO.le8 hO.parts htw hts hf he g1 g3 eF hnext).mono ?_
  rintro e w' ⟨u, ks', vw', m, rfl, q1, q2, q3, qm, q4, q5⟩
  refine ⟨u, p :: vw'.blk, m, rfl, q1, ⟨{ S with waits := ks', time := n }, vl, vr, vw', by simp only [PS.px, q2], q3, rfl⟩, qm, ?_, q5⟩
  intro k hk
  rcases List.mem_cons.1 hk with rfl | hk
  ·exact .inl (by simp)
  ·rcases q4 k hk with h | h
   ·exact .inl (by simp [h])
   ·exact .inr h
 ·have hst : stepP cf S.px n ts = (wrongP cf S.px n ts, ⟨[], []⟩, S.px) := by unfold stepP; rw [if_neg he]
  rw [hst]
  refine (step18_bad hK hp hO.le8 hO.parts htw hts hf he).mono ?_
  rintro e w' ⟨rfl, hfr⟩
  exact ⟨_, p :: vw.blk, w.heap.size, rfl, TabIn.none _ _, ⟨S, vl, vr, vw, rfl, (hp.imp (fun k hk hq => ⟨hq, hk⟩)).still hfr, rfl⟩, ⟨Nat.le_refl _, hfr.size⟩, fun k hk => .inl hk, hfr.mono (by simp)⟩
abbrev beginP (i : Iv) (nt : Bool) (l r : List BA) (fn : Nat) (parts : Int) : PX := ⟨i, nt, sortS l, sortS r, -1, [], fn, parts⟩
theorem beginE_zero {i : Iv} {l r : List BA} (h : beginE i l r = 0) : ivB i = true /\ NamesOk l /\ NamesOk r /\ ∀ s, s ∈ l -> s ∈ r := by
 unfold beginE at h
 split at h
 ·cases h
 rename_i h1
 split at h
 ·cases h
 rename_i h2
 split at h
 ·rename_i h3
  refine ⟨by simpa using h1, Classical.byContradiction fun hl => h2 (.inl hl), Classical.byContradiction fun hr => h2 (.inr hr), h3⟩
 ·cases h
theorem beginP_ok {cf : V -> V -> Int} {i : Iv} {nt : Bool} {l r : List BA} {fn : Nat} {parts : Int} {M : Nat} (h : beginE i l r = 0) (hf : fn = 59 /\ parts = 1 ∨ fn = 65 /\ M = 600) (hp : parts = 1 ∨ parts = 2) : POkP cf (beginP i nt l r fn parts) M := by
 obtain ⟨h1, h2, h3, h4⟩ := beginE_zero h
 obtain ⟨a1, a2⟩ := sortS_up h2
 obtain ⟨b1, b2⟩ := sortS_up h3
 refine ⟨a1, b1, ⟨a2, b2⟩, hp, fun s hs => (sortS_perm r).mem_iff.2 (h4 s ((sortS_perm l).mem_iff.1 hs)), by simp, by simp, by simp, hf⟩
theorem OpAt.begun {w : World} {k : Nat} {i : Iv} {nt : Bool} {l r : List BA} {fn : Nat} {parts : Int} {vl vr : Value} (h : PastAt Q w k (beginS i nt l r fn parts) vl vr (.slice none 0 0)) : OpAt Q w k (beginP i nt l r fn parts) [k] :=
 ⟨_, vl, vr, _, rfl, h, by simp [Value.blk]⟩
end
end Go.Proofs.YtbejmdlncnkaaaaGreat
