/-
  Package future: Waits, and what a Step keeps. Package future: a state, without where its points lie. Soon, plainly, is Until, not, of what is always false. Package future: Step, by the operator's plain state. The reference's Same of two lists of tables told that are alike. Package future, plainly: points are told in order, each once, as soon as it is settled.
-/
import Derived.Test.YtbejmdlncnkaaaaGreatF9
import Derived.Test.YtbejmdlncnkaaaaGreatPaD
import Derived.Test.YtbejmdlncnkaaaaGreatPaE
import Derived.Deep.RegionHeld3
set_option maxRecDepth 100000
set_option maxHeartbeats 16000000
set_option linter.unusedSimpArgs false
namespace Go.Proofs.YtbejmdlncnkaaaaGreat
section
open Go.RowKit
theorem waits35 {Q : Nat -> Prop} {w : World} {p : Nat} {S : FS} {vl vr vp : Value} (h : FutAt Q w p S vl vr vp) :
  Calls Tryz.prog 35 #[.pointer (some ⟨p, 0, none⟩)] w fun e w' => e = .returned (.int .i64 S.pts.length) /\ w = w' := by
 obtain ⟨d1, d2, rfl, _, _⟩ := h.pts.sl.shape
 obtain ⟨e0, e1, e2, e3, e4, e5, e6, e7, e8, e9, e10, ef⟩ := eleven h.box
 have hzp := lt_of_heap h.box
 clear h
 go_enter Tryz.func35, Tryz.ntmps35
 go_wp2
 go_ret
 exact ⟨rfl, rfl⟩
theorem pushF_ok {cf : V -> V -> Int} {S : FS} {n : Int} {ts : List Tb} (h : FOk cf S) (he : wrongE cf S.ps n ts = 0) (hgd : ∀ t, t ∈ ts -> Good cf t /\ t.rows.length <= 600) (hm : S.pts.length + 1 <= 1000) {k : Sn} (hk : Point S n ts k) : FOk cf (pushF S k) := by
 obtain ⟨h1, h2, h3, h4, h5, h6, h7⟩ := wrongE_zero (S := S.ps) h.parts he
 have h3' : S.time <= n := h3
 have h4' : (ts.length : Int) = S.parts := h4
 have hlen : 0 < ts.length := by rcases h.parts with e | e <;> omega
 have htr := List.mem_of_getElem? hk.tr
 have hrv : k.tr.vars = S.right := by
  have : lastT ts = k.tr := by unfold lastT; rw [List.getD_eq_getElem?_getD, hk.tr]; rfl
  rw [<- this]
  exact h7
 have hkt := hk.time
 refine ⟨h.upl, h.up, h.le8, h.parts, h.sub, ⟨by show -1 <= k.time; omega, by show k.time <= _; omega⟩, fun x hx => ?_, fun x hx => ?_, fun hp x hx => ?_, by simpa using hm, h.told, h.iv⟩
 ·rcases List.mem_append.1 hx with hx | hx
  ·have := h.times x hx
   show 0 <= x.time /\ x.time <= k.time
   omega
  ·simp at hx
   subst hx
   show 0 <= x.time /\ x.time <= x.time
   omega
 ·rcases List.mem_append.1 hx with hx | hx
  ·exact h.good x hx
  ·simp at hx
   subst hx
   exact ⟨(hgd _ htr).1, hrv, (hgd _ htr).2⟩
 ·rcases List.mem_append.1 hx with hx | hx
  ·exact h.goodl hp x hx
  ·simp at hx
   subst hx
   have htl := hk.tl hp
   have hlv : x.tl.vars = S.left := by
    have : firstT ts = x.tl := by unfold firstT; rw [List.getD_eq_getElem?_getD, htl]; rfl
    rw [<- this]
    exact h6 hp
   exact ⟨(hgd _ (List.mem_of_getElem? htl)).1, hlv, (hgd _ (List.mem_of_getElem? htl)).2⟩
theorem zero_h0 {cf : V -> V -> Int} {S : FS} {n : Int} {ts : List Tb} (h : FOk cf S) (he : wrongE cf S.ps n ts = 0) : (ts.length : Int) = S.parts /\ ∀ t, t ∈ ts -> tcheck cf t = 0 := by
 obtain ⟨h1, h2, h3, h4, h5, h6, h7⟩ := wrongE_zero (S := S.ps) h.parts he
 exact ⟨h4, h5⟩
end
section
open Go.RowKit
abbrev nilV : Value := .slice none 0 0
def bareK (k : Sn) : Sn := ⟨k.time, nilV, nilV, nilV, nilV, k.tl, k.tr⟩
def bareF (S : FS) : FS := { S with pts := S.pts.map bareK }
theorem heldU_bare (cf : V -> V -> Int) (S : FS) (t : Tb) (l : List Sn) : heldU cf (bareF S) t (l.map bareK) = heldU cf S t l := by
 unfold heldU
 show (if S.parts = 1 then t else _) = _
 rw [List.foldl_map]
 rfl
theorem untilTo_bare (cf : V -> V -> Int) (S : FS) (now : Int) : ∀ j, untilTo cf (bareF S) now j = untilTo cf S now j
 | 0 => rfl
 | j + 1 => by
  have ih := untilTo_bare cf S now j
  have hp : (bareF S).pts = S.pts.map bareK := rfl
  unfold untilTo
  rw [hp, List.getElem?_map, ih, <- List.map_take]
  cases S.pts[j]? with
  | none => rfl
  | some k =>
   show (if finB (k.time - now) S.i then (unionT cf (untilTo cf S now j) (heldU cf (bareF S) k.tr ((S.pts.take j).map bareK))).2 else untilTo cf S now j) = _
   rw [heldU_bare]
theorem settledB_bare (S : FS) (k0 : Sn) : settledB (bareF S) (bareK k0) = settledB S k0 := by
 unfold settledB
 have : (bareF S).pts.length = S.pts.length := by simp [bareF]
 rw [this]
 rfl
theorem tellF_bare (cf : V -> V -> Int) (S : FS) (k0 : Sn) : tellF cf (bareF S) (bareK k0) = tellF cf S k0 := by
 unfold tellF
 have h1 : (bareF S).pts.length = S.pts.length := by simp [bareF]
 have h2 : (bareF S).pts[1]? = S.pts[1]?.map bareK := by simp [bareF]
 have h3 : (bareF S).nx = S.nx := rfl
 rw [h1, h2, h3, untilTo_bare]
 cases S.pts[1]? with
 | none => rfl
 | some k1 => rfl
theorem offF_bare (S : FS) : offF (bareF S) = bareF (offF S) := by
 simp [offF, bareF]
theorem drainN_bare (cf : V -> V -> Int) : ∀ (n : Nat) (S : FS), drainN cf n (bareF S) = ((drainN cf n S).1, bareF (drainN cf n S).2)
 | 0, S => rfl
 | n + 1, S => by
  have h2 : (bareF S).pts[0]? = S.pts[0]?.map bareK := by simp [bareF]
  unfold drainN
  rw [h2]
  cases S.pts[0]? with
  | none => rfl
  | some k0 =>
   simp only [Option.map_some]
   rw [settledB_bare, tellF_bare, offF_bare, drainN_bare cf n (offF S)]
   cases settledB S k0 with
   | false => rfl
   | true => rfl
theorem drainF_bare (cf : V -> V -> Int) (S : FS) : drainF cf (bareF S) = ((drainF cf S).1, bareF (drainF cf S).2) := by
 unfold drainF
 have h1 : (bareF S).pts.length = S.pts.length := by simp [bareF]
 rw [h1, drainN_bare]
theorem stepF_bare (cf : V -> V -> Int) (S : FS) (n : Int) (ts : List Tb) (k : Sn) : stepF cf (bareF S) n ts (bareK k) = ((stepF cf S n ts k).1, bareF (stepF cf S n ts k).2) := by
 unfold stepF
 have hp : (bareF S).ps = S.ps := rfl
 have hq : pushF (bareF S) (bareK k) = bareF (pushF S k) := by simp [pushF, bareF, bareK]
 rw [hp, hq, drainF_bare]
 split <;> rfl
def newK (S : FS) (n : Int) (ts : List Tb) : Sn := ⟨n, nilV, nilV, nilV, nilV, if S.parts = 2 then firstT ts else ⟨[], []⟩, lastT ts⟩
theorem Point.bare {S : FS} {n : Int} {ts : List Tb} {k : Sn} (h : Point S n ts k) (hp : S.parts = 1 ∨ S.parts = 2) : bareK k = newK S n ts := by
 obtain ⟨h1, h2, h3, h4⟩ := h
 have hl : lastT ts = k.tr := by unfold lastT; rw [List.getD_eq_getElem?_getD, h2]; rfl
 unfold bareK newK
 rw [hl, h1]
 rcases hp with e | e
 ·rw [h4 e, if_neg (by omega)]
 ·have hf : firstT ts = k.tl := by unfold firstT; rw [List.getD_eq_getElem?_getD, h3 e]; rfl
  rw [if_pos e, hf]
noncomputable def stepX (cf : V -> V -> Int) (X : FS) (n : Int) (ts : List Tb) : Int × List (Int × Int × Tb) × FS := (wrongE cf X.ps n ts, stepF cf X n ts (newK X n ts))
theorem FStep.plain {cf : V -> V -> Int} {Q : Nat -> Prop} {w w' : World} {p : Nat} {S S' : FS} {vl vr vp u vp' : Value} {n : Int} {ts : List Tb} {k : Sn} {vs : List Vd} {m : Nat} (h : FStep cf Q w w' p S vl vr vp n ts k S' u vp' vs m) (hp : S.parts = 1 ∨ S.parts = 2) : stepX cf (bareF S) n ts = (wrongE cf S.ps n ts, vs.map Vd.tt, bareF S') := by
 unfold stepX
 have hps : (bareF S).ps = S.ps := rfl
 rw [hps]
 by_cases he : wrongE cf S.ps n ts = 0
 ·have hk := (h.pt he).bare hp
  have hn : newK (bareF S) n ts = newK S n ts := rfl
  rw [hn, <- hk, stepF_bare, h.eq]
 ·have h1 : stepF cf (bareF S) n ts (newK (bareF S) n ts) = ([], bareF S) := by unfold stepF; rw [hps, if_neg he]
  have h2 := h.eq
  unfold stepF at h2
  rw [if_neg he] at h2
  injection h2 with h3 h4
  rw [h1, <- h3, <- h4]
end
section
open Go.RowKit
abbrev twoF (X : FS) : FS := { X with nt := true, parts := 2 }
structure Half (cf : V -> V -> Int) (X : FS) : Prop where
 one : X.parts = 1
 left : X.left = []
 no : ∀ k, k ∈ X.pts -> k.tl = noT
 good : ∀ k, k ∈ X.pts -> Good cf k.tr
 far : X.nx = false
theorem Half.off {cf : V -> V -> Int} {X : FS} (h : Half cf X) : Half cf (offF X) := ⟨h.one, h.left, fun k hk => h.no k (List.mem_of_mem_drop hk), fun k hk => h.good k (List.mem_of_mem_drop hk), h.far⟩
end
section
open Go.RowKit
theorem FOk.bare {cf : V -> V -> Int} {S : FS} (h : FOk cf S) : FOk cf (bareF S) := by
 have hp : ∀ {R : Sn -> Prop}, (∀ k, k ∈ S.pts -> R (bareK k)) -> ∀ k, k ∈ (bareF S).pts -> R k := fun hR k hk => by
  obtain ⟨x, hx, rfl⟩ := List.mem_map.1 hk
  exact hR x hx
 exact ⟨h.upl, h.up, h.le8, h.parts, h.sub, h.time, hp h.times, hp h.good, fun h2 => hp (h.goodl h2), by simpa [bareF] using h.many, h.told, h.iv⟩
theorem FOk.unbare {cf : V -> V -> Int} {S : FS} (h : FOk cf (bareF S)) : FOk cf S :=
 ⟨h.upl, h.up, h.le8, h.parts, h.sub, h.time, fun k hk => h.times (bareK k) (List.mem_map_of_mem hk), fun k hk => h.good (bareK k) (List.mem_map_of_mem hk), fun h2 k hk => h.goodl h2 (bareK k) (List.mem_map_of_mem hk), by simpa [bareF] using h.many, h.told, h.iv⟩
def FutOp (Q : Nat -> Prop) (w : World) (p : Nat) (X : FS) (B : List Nat) : Prop := ∃ S vl vr vp, bareF S = X /\ FutAt Q w p S vl vr vp /\ B = p :: vp.blk
theorem FutOp.fr {Q : Nat -> Prop} {w w' : World} {p : Nat} {X : FS} {B M : List Nat} (h : FutOp Q w p X B) (hf : w.Fr w' M) (hM : Odd w M) (hd : ∀ k, k ∈ B -> k ∉ M) : FutOp Q w' p X B := by
 obtain ⟨S, vl, vr, vp, hx, hp, rfl⟩ := h
 exact ⟨S, vl, vr, vp, hx, hp.fr hf hM hd, rfl⟩
theorem FutOp.still {Q : Nat -> Prop} {w w' : World} {p : Nat} {X : FS} {B : List Nat} (h : FutOp Q w p X B) (hf : w.Fr w' []) : FutOp Q w' p X B := h.fr hf (fun k hk => by simp at hk) (by simp)
theorem FutOp.imp {Q R : Nat -> Prop} {w : World} {p : Nat} {X : FS} {B : List Nat} (h : FutOp Q w p X B) (hq : ∀ k, k < w.heap.size -> Q k -> R k) : FutOp R w p X B := by
 obtain ⟨S, vl, vr, vp, hx, hp, rfl⟩ := h
 exact ⟨S, vl, vr, vp, hx, hp.imp hq, rfl⟩
theorem FutOp.odd {Q : Nat -> Prop} {w : World} {p : Nat} {X : FS} {B : List Nat} (h : FutOp Q w p X B) : Odd w B := by
 obtain ⟨S, vl, vr, vp, hx, hp, rfl⟩ := h
 exact hp.odd
theorem FutOp.lt {Q : Nat -> Prop} {w : World} {p : Nat} {X : FS} {B : List Nat} (h : FutOp Q w p X B) : ∀ k, k ∈ B -> k < w.heap.size := by
 obtain ⟨S, vl, vr, vp, hx, hp, rfl⟩ := h
 intro k hk
 rcases List.mem_cons.1 hk with rfl | hk
 ·exact lt_of_heap hp.box
 ·exact hp.pts.sl.lt k hk
theorem Sl121.ne {w : World} {v : Value} {n : Nat} {xs : List Value} (h : w.Sl 121 5 v n xs) {g : Nat} {cs : Array Value} {T : TypeId} (hg : w.heap[g]? = some (.cells cs T (0, 0))) (h2 : T ≠ 121) : g ∉ v.blk := by
 intro hm
 rcases h.2 with ⟨rfl, _⟩ | ⟨g', off, cap, cur, rfl, hg', _⟩
 ·simp [Value.blk] at hm
 ·simp [Value.blk] at hm
  subst hm
  rw [hg'] at hg
  cases hg
  exact h2 rfl
theorem FutOp.ne {Q : Nat -> Prop} {w : World} {p : Nat} {X : FS} {B : List Nat} (h : FutOp Q w p X B) {g : Nat} {cs : Array Value} {T : TypeId} (hg : w.heap[g]? = some (.cells cs T (0, 0))) (h1 : T ≠ 119) (h2 : T ≠ 121) : g ∉ B := by
 obtain ⟨S, vl, vr, vp, hx, hp, rfl⟩ := h
 intro hm
 rcases List.mem_cons.1 hm with rfl | hm
 ·rw [hp.box] at hg
  cases hg
  exact h1 rfl
 ·exact Sl121.ne hp.pts.sl hg h2 hm
theorem newK_point {S : FS} {n : Int} {ts : List Tb} (hp : S.parts = 1 ∨ S.parts = 2) (h0 : (ts.length : Int) = S.parts) : Point S n ts (newK S n ts) := by
 have hl : 0 < ts.length := by omega
 have hl2 : ts.length - 1 < ts.length := by omega
 refine ⟨rfl, ?_, fun h2 => ?_, fun h1 => ?_⟩
 ·show ts[ts.length - 1]? = some (lastT ts)
  unfold lastT
  rw [List.getD_eq_getElem?_getD, List.getElem?_eq_getElem hl2]; rfl
 ·show ts[0]? = some (if S.parts = 2 then firstT ts else ⟨[], []⟩)
  rw [if_pos h2]
  unfold firstT
  rw [List.getD_eq_getElem?_getD, List.getElem?_eq_getElem hl]; rfl
 ·show (if S.parts = 2 then firstT ts else ⟨[], []⟩) = _
  rw [if_neg (by omega)]
theorem drainN_good {cf : V -> V -> Int} (hO : OrdOk okW cf) : ∀ (n : Nat) {X : FS}, FOk cf X -> X.told + X.pts.length <= 1000 -> FOk cf (drainN cf n X).2 /\ ∀ x, x ∈ (drainN cf n X).1 -> Good cf x.2.2 /\ x.2.2.vars = X.right /\ x.2.2.rows.length <= 600000
 | 0, X, h, _ => ⟨h, by simp [drainN]⟩
 | n + 1, X, h, hm => by
  unfold drainN
  cases hk : X.pts[0]? with
  | none => exact ⟨h, by simp⟩
  | some k0 =>
   have hl := (List.getElem?_eq_some_iff.1 hk).1
   dsimp only
   split
   ·have ih := drainN_good hO n (h.off hl hm) (by simp; omega)
    refine ⟨ih.1, fun x hx => ?_⟩
    rcases List.mem_cons.1 hx with rfl | hx
    ·exact tellF_good hO h
    ·exact ih.2 x hx
   ·exact ⟨h, by simp⟩
theorem drainN_len {cf : V -> V -> Int} : ∀ (n : Nat) (X : FS), (drainN cf n X).1.length + (drainN cf n X).2.pts.length = X.pts.length
 | 0, X => by simp [drainN]
 | n + 1, X => by
  unfold drainN
  cases hk : X.pts[0]? with
  | none => simp
  | some k0 =>
   have hl := (List.getElem?_eq_some_iff.1 hk).1
   dsimp only
   split
   ·have := drainN_len (cf := cf) n (offF X)
    simp at this ⊢
    omega
   ·simp
theorem stepX_good {cf : V -> V -> Int} (hO : OrdOk okW cf) {X : FS} {n : Int} {ts : List Tb} (h : FOk cf X) (hgd : wrongE cf X.ps n ts = 0 -> ∀ t, t ∈ ts -> Good cf t /\ t.rows.length <= 600) (hm : X.told + X.pts.length + 1 <= 1000) :
  FOk cf (stepX cf X n ts).2.2 /\ (∀ x, x ∈ (stepX cf X n ts).2.1 -> Good cf x.2.2 /\ x.2.2.vars = X.right /\ x.2.2.rows.length <= 600000) /\ (stepX cf X n ts).2.1.length <= X.pts.length + 1 := by
 unfold stepX stepF
 dsimp only
 split
 ·rename_i he
  have h0 := zero_h0 h he
  have ht := h.told
  have hk := pushF_ok h he (hgd he) (by omega) (newK_point (n := n) h.parts h0.1)
  unfold drainF
  have h1 := drainN_good hO (pushF X (newK X n ts)).pts.length hk (by simp; omega)
  refine ⟨h1.1, h1.2, ?_⟩
  have := drainN_len (cf := cf) (pushF X (newK X n ts)).pts.length (pushF X (newK X n ts))
  simp at this ⊢
  omega
 ·exact ⟨h, by simp, by simp⟩
structure FOut (cf : V -> V -> Int) (Q : Nat -> Prop) (w w' : World) (p : Nat) (X : FS) (B : List Nat) (n : Int) (ts : List Tb) (u : Value) (m : Nat) (B' : List Nat) (vs : List Vd) : Prop where
 lo : w.heap.size <= m
 hi : m <= w'.heap.size
 told : VdAt (fun b => m <= b) w' u vs
 new : ∀ b, b ∈ u.blk -> m <= b
 op : FutOp (fun b => Q b /\ b < m) w' p (stepX cf X n ts).2.2 B'
 blk : ∀ b, b ∈ B' -> b < m /\ (b ∈ B ∨ w.heap.size <= b)
 eq : vs.map Vd.tt = (stepX cf X n ts).2.1
 ok : FOk cf (stepX cf X n ts).2.2
 many : (stepX cf X n ts).2.2.told + (stepX cf X n ts).2.2.pts.length <= 1000
 fr : w.Fr w' B
theorem fstep33 {cf : V -> V -> Int} (hK : Ctx V.wf cf) {Q : Nat -> Prop} {w : World} (hQ : ∀ b, w.heap.size <= b -> Q b) {p : Nat} {X : FS} {B : List Nat} {v : Value} {ts : List Tb} {n : Int} (h : FutOp Q w p X B) (ht : RdTabs w v ts) (hO : FOk cf X) (hts : ts.length <= 8796093021952) (hf : ∀ t, t ∈ ts -> Fits V.wf t) (hmany : X.told + X.pts.length + 1 <= 1000) (hrows : wrongE cf X.ps n ts = 0 -> ∀ t, t ∈ ts -> t.rows.length <= 600) :
  Calls Tryz.prog 33 #[.pointer (some ⟨p, 0, none⟩), .int .i64 n, v] w fun e w' => ∃ u m B' vs, e = .returned (.tuple #[u, .int .i64 (stepX cf X n ts).1]) /\ FOut cf Q w w' p X B n ts u m B' vs := by
 obtain ⟨S, vl, vr, vp, rfl, hp, rfl⟩ := h
 have hO' := hO.unbare
 have hlp : (bareF S).pts.length = S.pts.length := by simp [bareF]
 rw [hlp] at hmany
 have hm' : S.told + S.pts.length + 1 <= 1000 := hmany
 have htd := hO'.told
 have hc := step33 hK hQ (n := n) hp ht hO' hts hf hm' (fun he => zero_h0 hO' he) (fun he k hk => pushF_ok hO' he (fun t ht => ⟨good_of hK.ord ((zero_h0 hO' he).2 t ht) (hf t ht).ok, hrows he t ht⟩) (by omega) hk)
 refine hc.mono ?_
 rintro e w' ⟨k, S', u, vp', vs, m, rfl, h⟩
 have hpl := h.plain hO'.parts
 have hb := h.lo
 have hlt := lt_of_heap hp.box
 refine ⟨u, m, p :: vp'.blk, vs, by rw [hpl], h.lo, h.hi, h.told, h.new, ?_, ?_, by rw [hpl], by rw [hpl]; exact h.ok.bare, by rw [hpl]; have := h.many; simpa [bareF] using this, h.fr⟩
 ·rw [hpl]
  exact ⟨S', vl, vr, vp', rfl, h.fut, rfl⟩
 ·intro b hb'
  rcases List.mem_cons.1 hb' with rfl | hb'
  ·exact ⟨by omega, .inl (by simp)⟩
  ·obtain ⟨h1, h2⟩ := h.blk b hb'
   exact ⟨h1, h2.elim (fun h => .inl (by simp [h])) .inr⟩
abbrev fbeginX (i : Iv) (nt : Bool) (l r : List BA) (parts : Int) (nx : Bool) : FS := fbeginS i nt l r parts nx
theorem FutOp.begun {Q : Nat -> Prop} {w : World} {k : Nat} {i : Iv} {nt nx : Bool} {l r : List BA} {parts : Int} {vl vr : Value} (h : FutAt Q w k (fbeginS i nt l r parts nx) vl vr (.slice none 0 0)) : FutOp Q w k (fbeginX i nt l r parts nx) [k] :=
 ⟨_, vl, vr, _, rfl, h, by simp [Value.blk]⟩
theorem beginF_ok {cf : V -> V -> Int} {i : Iv} {nt nx : Bool} {l r : List BA} {parts : Int} (h : beginF i l r = 0) (hp : parts = 1 ∨ parts = 2) : FOk cf (fbeginX i nt l r parts nx) := by
 unfold beginF at h
 split at h
 ·rename_i hi
  obtain ⟨h1, h2, h3, h4⟩ := beginE_zero h
  obtain ⟨a1, a2⟩ := sortS_up h2
  obtain ⟨b1, b2⟩ := sortS_up h3
  exact ⟨a1, b1, ⟨a2, b2⟩, hp, fun s hs => (sortS_perm r).mem_iff.2 (h4 s ((sortS_perm l).mem_iff.1 hs)), by simp, by simp, by simp, by simp, by simp, by simp, hi⟩
 ·cases h
end
section
open Go.RowKit
theorem flatVd {ks : List Vd} {j : Nat} {k : Vd} (h : ks[j]? = some k) (i : Nat) (hi : i < 4) : (ks.flatMap Vd.cells)[j * 4 + i]? = k.cells[i]? := by
 induction ks generalizing j with
 | nil => simp at h
 | cons a t ih =>
  cases j with
  | zero => simp at h; subst h; simp only [List.flatMap_cons, Nat.zero_mul, Nat.zero_add]; rw [List.getElem?_append_left (by simp [Vd.cells]; omega)]
  | succ j =>
   simp only [List.flatMap_cons]
   rw [List.getElem?_append_right (by simp [Vd.cells]; omega)]
   have := ih (j := j) (by simpa using h)
   rw [show (j + 1) * 4 + i - (Vd.cells a).length = j * 4 + i from by simp [Vd.cells]; omega]
   exact this
theorem VdAt.at {Q : Nat -> Prop} {w : World} {v : Value} {ks : List Vd} (h : VdAt Q w v ks) {j : Nat} {k : Vd} (hj : ks[j]? = some k) :
  ∃ g off c, v = .slice (some ⟨g, off, none⟩) ks.length c /\ ks.length <= c /\ g < w.heap.size /\ w.cell? ⟨g, off + j * 4, none⟩ = some (.int .i64 k.nr) /\ w.cell? ⟨g, off + j * 4 + 1, none⟩ = some (.int .i64 k.time) /\ w.cell? ⟨g, off + j * 4 + 2, none⟩ = some k.a /\ w.cell? ⟨g, off + j * 4 + 3, none⟩ = some k.b /\ (∀ i, w.frozen? ⟨g, i, none⟩ = false) /\ TabIn Q w (.agg #[k.a, k.b]) k.t := by
 have hjl := (List.getElem?_eq_some_iff.1 hj).1
 obtain ⟨g, off, c, he, hle, _, hg, hc, hf⟩ := h.sl.form (by omega)
 have key : ∀ i, i < 4 -> w.cell? ⟨g, off + j * 4 + i, none⟩ = k.cells[i]? := fun i hi => by
  have := hc (j * 4 + i) (by omega)
  rw [flatVd hj i hi] at this
  rw [Nat.add_assoc]
  exact this
 exact ⟨g, off, c, he, hle, hg, key 0 (by omega), key 1 (by omega), key 2 (by omega), key 3 (by omega), hf, h.tab k (List.mem_of_getElem? hj)⟩
end
section
open Go.RowKit
structure OrdI (X : FS) (TS : List Int) (o : Nat) : Prop where
 told : X.told = (o : Int)
 le : o <= TS.length
 pts : X.pts.map Sn.time = TS.drop o
 past : X.nx = false -> 0 < o -> ∀ t, TS[o - 1]? = some t -> X.i.hi < X.time - t
 next : X.nx = true -> 1 <= TS.length -> X.pts.length = 1
 wait : X.nx = false -> ∀ t, TS[o]? = some t -> ¬ X.i.hi < X.time - t
theorem OrdI.len {X : FS} {TS : List Int} {o : Nat} (h : OrdI X TS o) : X.pts.length = TS.length - o := by
 have := congrArg List.length h.pts
 simpa using this
end
end Go.Proofs.YtbejmdlncnkaaaaGreat
