/-
  Package future: Waits, and what a Step keeps. Package future: a state, without where its points lie. Soon, plainly, is Until, not, of what is always false. What a Step keeps, in plain. Package future: Step, by the operator's plain state. Package future, plainly: points are told in order, each once, as soon as it is settled.
-/
import Derived.Test.YtbejmdlncnkaaaaGreatF9
import Derived.Test.YtbejmdlncnkaaaaGreatPaD
import Derived.Test.YtbejmdlncnkaaaaGreatP26
namespace Go.Proofs.YtbejmdlncnkaaaaGreat
open Go.RowKit

set_option maxRecDepth 100000 in
set_option maxHeartbeats 2000000 in
theorem waits35 {Q : Nat → Prop} {w : World} {p : Nat} {S : FS} {vl vr vp : Value} (h : FutAt Q w p S vl vr vp) :
    Calls Tryz.prog 35 #[.pointer (some ⟨p, 0, none⟩)] w fun e w' => e = .returned (.int .i64 S.pts.length) ∧ w = w' := by
  obtain ⟨d1, d2, rfl, _, _⟩ := h.pts.sl.shape
  obtain ⟨e0, e1, e2, e3, e4, e5, e6, e7, e8, e9, e10, ef⟩ := eleven h.box
  have hzp := lt_of_heap h.box
  clear h
  go_enter Tryz.func35, Tryz.ntmps35
  go_wp2
  go_ret
  exact ⟨rfl, rfl⟩
theorem pushF_ok {cf : V → V → Int} {S : FS} {n : Int} {ts : List Tb} (h : FOk cf S) (he : wrongE cf S.ps n ts = 0) (hgd : ∀ t, t ∈ ts → Good cf t ∧ t.rows.length ≤ 600) (hm : S.pts.length + 1 ≤ 1000) {k : Sn} (hk : Point S n ts k) : FOk cf (pushF S k) := by
  obtain ⟨h1, h2, h3, h4, h5, h6, h7⟩ := wrongE_zero (S := S.ps) h.parts he
  have h3' : S.time ≤ n := h3
  have h4' : (ts.length : Int) = S.parts := h4
  have hlen : 0 < ts.length := by rcases h.parts with e | e <;> omega
  have htr := List.mem_of_getElem? hk.tr
  have hrv : k.tr.vars = S.right := by
    have : lastT ts = k.tr := by unfold lastT; rw [List.getD_eq_getElem?_getD, hk.tr]; rfl
    rw [← this]
    exact h7
  have hkt := hk.time
  refine ⟨h.upl, h.up, h.le8, h.parts, h.sub, ⟨by show -1 ≤ k.time; omega, by show k.time ≤ _; omega⟩, fun x hx => ?_, fun x hx => ?_, fun hp x hx => ?_, by simpa using hm, h.told, h.iv⟩
  · rcases List.mem_append.1 hx with hx | hx
    · have := h.times x hx
      show 0 ≤ x.time ∧ x.time ≤ k.time
      omega
    · simp at hx
      subst hx
      show 0 ≤ x.time ∧ x.time ≤ x.time
      omega
  · rcases List.mem_append.1 hx with hx | hx
    · exact h.good x hx
    · simp at hx
      subst hx
      exact ⟨(hgd _ htr).1, hrv, (hgd _ htr).2⟩
  · rcases List.mem_append.1 hx with hx | hx
    · exact h.goodl hp x hx
    · simp at hx
      subst hx
      have htl := hk.tl hp
      have hlv : x.tl.vars = S.left := by
        have : firstT ts = x.tl := by unfold firstT; rw [List.getD_eq_getElem?_getD, htl]; rfl
        rw [← this]
        exact h6 hp
      exact ⟨(hgd _ (List.mem_of_getElem? htl)).1, hlv, (hgd _ (List.mem_of_getElem? htl)).2⟩
theorem zero_h0 {cf : V → V → Int} {S : FS} {n : Int} {ts : List Tb} (h : FOk cf S) (he : wrongE cf S.ps n ts = 0) : (ts.length : Int) = S.parts ∧ ∀ t, t ∈ ts → tcheck cf t = 0 := by
  obtain ⟨h1, h2, h3, h4, h5, h6, h7⟩ := wrongE_zero (S := S.ps) h.parts he
  exact ⟨h4, h5⟩
end Go.Proofs.YtbejmdlncnkaaaaGreat
namespace Go.Proofs.YtbejmdlncnkaaaaGreat
open Go.RowKit

abbrev nilV : Value := .slice none 0 0
def bareK (k : Sn) : Sn := ⟨k.time, nilV, nilV, nilV, nilV, k.tl, k.tr⟩
def bareF (S : FS) : FS := { S with pts := S.pts.map bareK }
theorem heldU_bare (cf : V → V → Int) (S : FS) (t : Tb) (l : List Sn) : heldU cf (bareF S) t (l.map bareK) = heldU cf S t l := by
  unfold heldU
  show (if S.parts = 1 then t else _) = _
  rw [List.foldl_map]
  rfl
theorem untilTo_bare (cf : V → V → Int) (S : FS) (now : Int) : ∀ j, untilTo cf (bareF S) now j = untilTo cf S now j
  | 0 => rfl
  | j + 1 => by
    have ih := untilTo_bare cf S now j
    have hp : (bareF S).pts = S.pts.map bareK := rfl
    unfold untilTo
    rw [hp, List.getElem?_map, ih, ← List.map_take]
    cases S.pts[j]? with
    | none => rfl
    | some k =>
      show (if finB (k.time - now) S.i then (unionT cf (untilTo cf S now j) (heldU cf (bareF S) k.tr ((S.pts.take j).map bareK))).2 else untilTo cf S now j) = _
      rw [heldU_bare]
theorem settledB_bare (S : FS) (k0 : Sn) : settledB (bareF S) (bareK k0) = settledB S k0 := by
  unfold settledB
  have : (bareF S).pts.length = S.pts.length := by simp [bareF]
  rw [this]
  rfl
theorem tellF_bare (cf : V → V → Int) (S : FS) (k0 : Sn) : tellF cf (bareF S) (bareK k0) = tellF cf S k0 := by
  unfold tellF
  have h1 : (bareF S).pts.length = S.pts.length := by simp [bareF]
  have h2 : (bareF S).pts[1]? = S.pts[1]?.map bareK := by simp [bareF]
  have h3 : (bareF S).nx = S.nx := rfl
  rw [h1, h2, h3, untilTo_bare]
  cases S.pts[1]? with
  | none => rfl
  | some k1 => rfl
theorem offF_bare (S : FS) : offF (bareF S) = bareF (offF S) := by
  simp [offF, bareF]
theorem drainN_bare (cf : V → V → Int) : ∀ (n : Nat) (S : FS), drainN cf n (bareF S) = ((drainN cf n S).1, bareF (drainN cf n S).2)
  | 0, S => rfl
  | n + 1, S => by
    have h2 : (bareF S).pts[0]? = S.pts[0]?.map bareK := by simp [bareF]
    unfold drainN
    rw [h2]
    cases S.pts[0]? with
    | none => rfl
    | some k0 =>
      simp only [Option.map_some]
      rw [settledB_bare, tellF_bare, offF_bare, drainN_bare cf n (offF S)]
      cases settledB S k0 with
      | false => rfl
      | true => rfl
theorem drainF_bare (cf : V → V → Int) (S : FS) : drainF cf (bareF S) = ((drainF cf S).1, bareF (drainF cf S).2) := by
  unfold drainF
  have h1 : (bareF S).pts.length = S.pts.length := by simp [bareF]
  rw [h1, drainN_bare]
theorem stepF_bare (cf : V → V → Int) (S : FS) (n : Int) (ts : List Tb) (k : Sn) : stepF cf (bareF S) n ts (bareK k) = ((stepF cf S n ts k).1, bareF (stepF cf S n ts k).2) := by
  unfold stepF
  have hp : (bareF S).ps = S.ps := rfl
  have hq : pushF (bareF S) (bareK k) = bareF (pushF S k) := by simp [pushF, bareF, bareK]
  rw [hp, hq, drainF_bare]
  split <;> rfl
/-- the new point, without where it lies -/
def newK (S : FS) (n : Int) (ts : List Tb) : Sn := ⟨n, nilV, nilV, nilV, nilV, if S.parts = 2 then firstT ts else ⟨[], []⟩, lastT ts⟩
theorem Point.bare {S : FS} {n : Int} {ts : List Tb} {k : Sn} (h : Point S n ts k) (hp : S.parts = 1 ∨ S.parts = 2) : bareK k = newK S n ts := by
  obtain ⟨h1, h2, h3, h4⟩ := h
  have hl : lastT ts = k.tr := by unfold lastT; rw [List.getD_eq_getElem?_getD, h2]; rfl
  unfold bareK newK
  rw [hl, h1]
  rcases hp with e | e
  · rw [h4 e, if_neg (by omega)]
  · have hf : firstT ts = k.tl := by unfold firstT; rw [List.getD_eq_getElem?_getD, h3 e]; rfl
    rw [if_pos e, hf]
/-- a Step, in plain -/
noncomputable def stepX (cf : V → V → Int) (X : FS) (n : Int) (ts : List Tb) : Int × List (Int × Int × Tb) × FS := (wrongE cf X.ps n ts, stepF cf X n ts (newK X n ts))
theorem FStep.plain {cf : V → V → Int} {Q : Nat → Prop} {w w' : World} {p : Nat} {S S' : FS} {vl vr vp u vp' : Value} {n : Int} {ts : List Tb} {k : Sn} {vs : List Vd} {m : Nat} (h : FStep cf Q w w' p S vl vr vp n ts k S' u vp' vs m) (hp : S.parts = 1 ∨ S.parts = 2) : stepX cf (bareF S) n ts = (wrongE cf S.ps n ts, vs.map Vd.tt, bareF S') := by
  unfold stepX
  have hps : (bareF S).ps = S.ps := rfl
  rw [hps]
  by_cases he : wrongE cf S.ps n ts = 0
  · have hk := (h.pt he).bare hp
    have hn : newK (bareF S) n ts = newK S n ts := rfl
    rw [hn, ← hk, stepF_bare, h.eq]
  · have h1 : stepF cf (bareF S) n ts (newK (bareF S) n ts) = ([], bareF S) := by unfold stepF; rw [hps, if_neg he]
    have h2 := h.eq
    unfold stepF at h2
    rw [if_neg he] at h2
    injection h2 with h3 h4
    rw [h1, ← h3, ← h4]
end Go.Proofs.YtbejmdlncnkaaaaGreat
namespace Go.Proofs.YtbejmdlncnkaaaaGreat
open Go.RowKit

/-- the operator of two parts that goes with one of one -/
abbrev twoF (X : FS) : FS := { X with nt := true, parts := 2 }
/-- no left part -/
structure Half (cf : V → V → Int) (X : FS) : Prop where
  one : X.parts = 1
  left : X.left = []
  no : ∀ k, k ∈ X.pts → k.tl = noT
  good : ∀ k, k ∈ X.pts → Good cf k.tr
  far : X.nx = false
theorem heldU_two {cf : V → V → Int} (hO : OrdOk okW cf) {X : FS} {t : Tb} (ht : Good cf t) (l : List Sn) (hl : ∀ k, k ∈ l → k.tl = noT) : heldU cf (twoF X) t l = t := by
  unfold heldU
  rw [if_neg (show ¬ (2 : Int) = 1 by decide)]
  induction l with
  | nil => rfl
  | cons a r ih =>
    have h1 : holdT cf true t a.tl = t := by
      rw [hl a (by simp)]
      exact anti_noT hO ht
    rw [List.foldl_cons, h1]
    exact ih (fun k hk => hl k (by simp [hk]))
theorem untilTo_two {cf : V → V → Int} (hO : OrdOk okW cf) {X : FS} (h : Half cf X) (now : Int) : ∀ j, untilTo cf (twoF X) now j = untilTo cf X now j
  | 0 => rfl
  | j + 1 => by
    have ih := untilTo_two hO h now j
    unfold untilTo
    rw [ih]
    show (match X.pts[j]? with | none => _ | some k => _) = _
    cases hk : X.pts[j]? with
    | none => rfl
    | some k =>
      have h1 := heldU_two hO (X := X) (h.good k (List.mem_of_getElem? hk)) (X.pts.take j) (fun x hx => h.no x (List.mem_of_mem_take hx))
      have h2 : heldU cf X k.tr (X.pts.take j) = k.tr := heldU_one h.one
      show (if finB (k.time - now) X.i then (unionT cf (untilTo cf X now j) (heldU cf (twoF X) k.tr (X.pts.take j))).2 else untilTo cf X now j) = _
      rw [h1]
      show _ = if finB (k.time - now) X.i then (unionT cf (untilTo cf X now j) (heldU cf X k.tr (X.pts.take j))).2 else untilTo cf X now j
      rw [h2]
theorem tellF_two {cf : V → V → Int} (hO : OrdOk okW cf) {X : FS} (h : Half cf X) (k0 : Sn) : tellF cf (twoF X) k0 = tellF cf X k0 := by
  unfold tellF
  show (if X.nx = true then _ else untilTo cf (twoF X) k0.time X.pts.length) = _
  rw [untilTo_two hO h]
  rfl
theorem Half.off {cf : V → V → Int} {X : FS} (h : Half cf X) : Half cf (offF X) := ⟨h.one, h.left, fun k hk => h.no k (List.mem_of_mem_drop hk), fun k hk => h.good k (List.mem_of_mem_drop hk), h.far⟩
theorem drainN_two {cf : V → V → Int} (hO : OrdOk okW cf) : ∀ (n : Nat) {X : FS}, Half cf X → drainN cf n (twoF X) = ((drainN cf n X).1, twoF (drainN cf n X).2)
  | 0, X, h => rfl
  | n + 1, X, h => by
    have ih := drainN_two hO n h.off
    unfold drainN
    show (match X.pts[0]? with | none => _ | some k0 => _) = _
    cases X.pts[0]? with
    | none => rfl
    | some k0 =>
      show (if settledB X k0 = true then ((X.told, k0.time, tellF cf (twoF X) k0) :: (drainN cf n (twoF (offF X))).1, (drainN cf n (twoF (offF X))).2) else ([], twoF X)) = _
      rw [tellF_two hO h, ih]
      dsimp only
      cases settledB X k0 with
      | false => rfl
      | true => rfl
/-- a Step of Soon, and one of Until, not, of what is always false -/
theorem stepX_two {cf : V → V → Int} (hO : OrdOk okW cf) {X : FS} {n : Int} {t : Tb} (h : Half cf X) (ht : wrongE cf X.ps n [t] = 0 → Good cf t) :
    stepX cf (twoF X) n [noT, t] = ((stepX cf X n [t]).1, (stepX cf X n [t]).2.1, twoF (stepX cf X n [t]).2.2) := by
  have hw : wrongE cf (twoF X).ps n [noT, t] = wrongE cf X.ps n [t] := by
    exact wrong_both (X := X.ps.px) h.one h.left
  unfold stepX
  rw [hw]
  unfold stepF
  rw [hw]
  by_cases he : wrongE cf X.ps n [t] = 0
  · rw [if_pos he, if_pos he]
    have hk : newK (twoF X) n [noT, t] = newK X n [t] := by
      unfold newK
      rw [if_pos (show (twoF X).parts = 2 from rfl), if_neg (show ¬ X.parts = 2 by rw [h.one]; decide)]
      rfl
    have hh : Half cf (pushF X (newK X n [t])) := by
      refine ⟨h.one, h.left, fun k hk => ?_, fun k hk => ?_, h.far⟩
      · rcases List.mem_append.1 hk with hk | hk
        · exact h.no k hk
        · simp at hk
          subst hk
          unfold newK
          rw [if_neg (show ¬ X.parts = 2 by rw [h.one]; decide)]
      · rcases List.mem_append.1 hk with hk | hk
        · exact h.good k hk
        · simp at hk
          subst hk
          exact ht he
    rw [hk]
    have := drainN_two hO (pushF X (newK X n [t])).pts.length hh
    unfold drainF
    show (_, drainN cf (pushF X (newK X n [t])).pts.length (twoF (pushF X (newK X n [t])))) = _
    rw [this]
  · rw [if_neg he, if_neg he]
end Go.Proofs.YtbejmdlncnkaaaaGreat
namespace Go.Proofs.YtbejmdlncnkaaaaGreat
open Go.RowKit

theorem drainN_keep {cf : V → V → Int} {R : FS → Prop} (hR : ∀ X, R X → R (offF X)) : ∀ (n : Nat) {X : FS}, R X → R (drainN cf n X).2
  | 0, X, h => h
  | n + 1, X, h => by
    unfold drainN
    cases X.pts[0]? with
    | none => exact h
    | some k0 =>
      dsimp only
      split
      · exact drainN_keep hR n (hR X h)
      · exact h
theorem stepX_half {cf : V → V → Int} {X : FS} {n : Int} {t : Tb} (h : Half cf X) (ht : wrongE cf X.ps n [t] = 0 → Good cf t) : Half cf (stepX cf X n [t]).2.2 := by
  unfold stepX stepF
  dsimp only
  split
  · rename_i he
    unfold drainF
    refine drainN_keep (R := Half cf) (fun X hX => hX.off) _ ?_
    refine ⟨h.one, h.left, fun k hk => ?_, fun k hk => ?_, h.far⟩
    · rcases List.mem_append.1 hk with hk | hk
      · exact h.no k hk
      · simp at hk
        subst hk
        unfold newK
        rw [if_neg (show ¬ X.parts = 2 by rw [h.one]; decide)]
    · rcases List.mem_append.1 hk with hk | hk
      · exact h.good k hk
      · simp at hk
        subst hk
        exact ht he
  · exact h
/-- what a Step never turns -/
theorem stepX_fix {cf : V → V → Int} {X : FS} {n : Int} {ts : List Tb} : (stepX cf X n ts).2.2.i = X.i ∧ (stepX cf X n ts).2.2.nt = X.nt ∧ (stepX cf X n ts).2.2.left = X.left ∧ (stepX cf X n ts).2.2.right = X.right ∧ (stepX cf X n ts).2.2.parts = X.parts ∧ (stepX cf X n ts).2.2.nx = X.nx := by
  unfold stepX stepF
  dsimp only
  split
  · unfold drainF
    exact drainN_keep (R := fun Y => Y.i = X.i ∧ Y.nt = X.nt ∧ Y.left = X.left ∧ Y.right = X.right ∧ Y.parts = X.parts ∧ Y.nx = X.nx) (fun Y hY => hY) _ ⟨rfl, rfl, rfl, rfl, rfl, rfl⟩
  · exact ⟨rfl, rfl, rfl, rfl, rfl, rfl⟩
theorem drainN_sum {cf : V → V → Int} : ∀ (n : Nat) (X : FS), (drainN cf n X).2.told + (drainN cf n X).2.pts.length = X.told + X.pts.length
  | 0, X => rfl
  | n + 1, X => by
    unfold drainN
    cases hk : X.pts[0]? with
    | none => rfl
    | some k0 =>
      have hl := (List.getElem?_eq_some_iff.1 hk).1
      dsimp only
      split
      · rw [drainN_sum n (offF X)]
        simp
        omega
      · rfl
/-- how many points there were -/
theorem stepX_sum {cf : V → V → Int} {X : FS} {n : Int} {ts : List Tb} : (stepX cf X n ts).2.2.told + (stepX cf X n ts).2.2.pts.length = X.told + X.pts.length + (if wrongE cf X.ps n ts = 0 then 1 else 0) := by
  unfold stepX stepF
  dsimp only
  split
  · unfold drainF
    rw [drainN_sum]
    simp
    omega
  · simp
end Go.Proofs.YtbejmdlncnkaaaaGreat
namespace Go.Proofs.YtbejmdlncnkaaaaGreat
open Go.RowKit

theorem FOk.bare {cf : V → V → Int} {S : FS} (h : FOk cf S) : FOk cf (bareF S) := by
  have hp : ∀ {R : Sn → Prop}, (∀ k, k ∈ S.pts → R (bareK k)) → ∀ k, k ∈ (bareF S).pts → R k := fun hR k hk => by
    obtain ⟨x, hx, rfl⟩ := List.mem_map.1 hk
    exact hR x hx
  exact ⟨h.upl, h.up, h.le8, h.parts, h.sub, h.time, hp h.times, hp h.good, fun h2 => hp (h.goodl h2), by simpa [bareF] using h.many, h.told, h.iv⟩
theorem FOk.unbare {cf : V → V → Int} {S : FS} (h : FOk cf (bareF S)) : FOk cf S :=
  ⟨h.upl, h.up, h.le8, h.parts, h.sub, h.time, fun k hk => h.times (bareK k) (List.mem_map_of_mem hk), fun k hk => h.good (bareK k) (List.mem_map_of_mem hk), fun h2 k hk => h.goodl h2 (bareK k) (List.mem_map_of_mem hk), by simpa [bareF] using h.many, h.told, h.iv⟩
/-- an operator as it lies: its plain state, the blocks that a step may write -/
def FutOp (Q : Nat → Prop) (w : World) (p : Nat) (X : FS) (B : List Nat) : Prop := ∃ S vl vr vp, bareF S = X ∧ FutAt Q w p S vl vr vp ∧ B = p :: vp.blk
theorem FutOp.fr {Q : Nat → Prop} {w w' : World} {p : Nat} {X : FS} {B M : List Nat} (h : FutOp Q w p X B) (hf : w.Fr w' M) (hM : Odd w M) (hd : ∀ k, k ∈ B → k ∉ M) : FutOp Q w' p X B := by
  obtain ⟨S, vl, vr, vp, hx, hp, rfl⟩ := h
  exact ⟨S, vl, vr, vp, hx, hp.fr hf hM hd, rfl⟩
theorem FutOp.still {Q : Nat → Prop} {w w' : World} {p : Nat} {X : FS} {B : List Nat} (h : FutOp Q w p X B) (hf : w.Fr w' []) : FutOp Q w' p X B := h.fr hf (fun k hk => by simp at hk) (by simp)
theorem FutOp.imp {Q R : Nat → Prop} {w : World} {p : Nat} {X : FS} {B : List Nat} (h : FutOp Q w p X B) (hq : ∀ k, k < w.heap.size → Q k → R k) : FutOp R w p X B := by
  obtain ⟨S, vl, vr, vp, hx, hp, rfl⟩ := h
  exact ⟨S, vl, vr, vp, hx, hp.imp hq, rfl⟩
theorem FutOp.odd {Q : Nat → Prop} {w : World} {p : Nat} {X : FS} {B : List Nat} (h : FutOp Q w p X B) : Odd w B := by
  obtain ⟨S, vl, vr, vp, hx, hp, rfl⟩ := h
  exact hp.odd
theorem FutOp.lt {Q : Nat → Prop} {w : World} {p : Nat} {X : FS} {B : List Nat} (h : FutOp Q w p X B) : ∀ k, k ∈ B → k < w.heap.size := by
  obtain ⟨S, vl, vr, vp, hx, hp, rfl⟩ := h
  intro k hk
  rcases List.mem_cons.1 hk with rfl | hk
  · exact lt_of_heap hp.box
  · exact hp.pts.sl.lt k hk
theorem Sl121.ne {w : World} {v : Value} {n : Nat} {xs : List Value} (h : w.Sl 121 5 v n xs) {g : Nat} {cs : Array Value} {T : TypeId} (hg : w.heap[g]? = some (.cells cs T (0, 0))) (h2 : T ≠ 121) : g ∉ v.blk := by
  intro hm
  rcases h.2 with ⟨rfl, _⟩ | ⟨g', off, cap, cur, rfl, hg', _⟩
  · simp [Value.blk] at hm
  · simp [Value.blk] at hm
    subst hm
    rw [hg'] at hg
    cases hg
    exact h2 rfl
theorem FutOp.ne {Q : Nat → Prop} {w : World} {p : Nat} {X : FS} {B : List Nat} (h : FutOp Q w p X B) {g : Nat} {cs : Array Value} {T : TypeId} (hg : w.heap[g]? = some (.cells cs T (0, 0))) (h1 : T ≠ 119) (h2 : T ≠ 121) : g ∉ B := by
  obtain ⟨S, vl, vr, vp, hx, hp, rfl⟩ := h
  intro hm
  rcases List.mem_cons.1 hm with rfl | hm
  · rw [hp.box] at hg
    cases hg
    exact h1 rfl
  · exact Sl121.ne hp.pts.sl hg h2 hm

theorem newK_point {S : FS} {n : Int} {ts : List Tb} (hp : S.parts = 1 ∨ S.parts = 2) (h0 : (ts.length : Int) = S.parts) : Point S n ts (newK S n ts) := by
  have hl : 0 < ts.length := by omega
  have hl2 : ts.length - 1 < ts.length := by omega
  refine ⟨rfl, ?_, fun h2 => ?_, fun h1 => ?_⟩
  · show ts[ts.length - 1]? = some (lastT ts)
    unfold lastT
    rw [List.getD_eq_getElem?_getD, List.getElem?_eq_getElem hl2]; rfl
  · show ts[0]? = some (if S.parts = 2 then firstT ts else ⟨[], []⟩)
    rw [if_pos h2]
    unfold firstT
    rw [List.getD_eq_getElem?_getD, List.getElem?_eq_getElem hl]; rfl
  · show (if S.parts = 2 then firstT ts else ⟨[], []⟩) = _
    rw [if_neg (by omega)]
theorem drainN_good {cf : V → V → Int} (hO : OrdOk okW cf) : ∀ (n : Nat) {X : FS}, FOk cf X → X.told + X.pts.length ≤ 1000 → FOk cf (drainN cf n X).2 ∧ ∀ x, x ∈ (drainN cf n X).1 → Good cf x.2.2 ∧ x.2.2.vars = X.right ∧ x.2.2.rows.length ≤ 600000
  | 0, X, h, _ => ⟨h, by simp [drainN]⟩
  | n + 1, X, h, hm => by
    unfold drainN
    cases hk : X.pts[0]? with
    | none => exact ⟨h, by simp⟩
    | some k0 =>
      have hl := (List.getElem?_eq_some_iff.1 hk).1
      dsimp only
      split
      · have ih := drainN_good hO n (h.off hl hm) (by simp; omega)
        refine ⟨ih.1, fun x hx => ?_⟩
        rcases List.mem_cons.1 hx with rfl | hx
        · exact tellF_good hO h
        · exact ih.2 x hx
      · exact ⟨h, by simp⟩
theorem drainN_len {cf : V → V → Int} : ∀ (n : Nat) (X : FS), (drainN cf n X).1.length + (drainN cf n X).2.pts.length = X.pts.length
  | 0, X => by simp [drainN]
  | n + 1, X => by
    unfold drainN
    cases hk : X.pts[0]? with
    | none => simp
    | some k0 =>
      have hl := (List.getElem?_eq_some_iff.1 hk).1
      dsimp only
      split
      · have := drainN_len (cf := cf) n (offF X)
        simp at this ⊢
        omega
      · simp
/-- what a Step leaves is made well, and what it tells -/
theorem stepX_good {cf : V → V → Int} (hO : OrdOk okW cf) {X : FS} {n : Int} {ts : List Tb} (h : FOk cf X) (hgd : wrongE cf X.ps n ts = 0 → ∀ t, t ∈ ts → Good cf t ∧ t.rows.length ≤ 600) (hm : X.told + X.pts.length + 1 ≤ 1000) :
    FOk cf (stepX cf X n ts).2.2 ∧ (∀ x, x ∈ (stepX cf X n ts).2.1 → Good cf x.2.2 ∧ x.2.2.vars = X.right ∧ x.2.2.rows.length ≤ 600000) ∧ (stepX cf X n ts).2.1.length ≤ X.pts.length + 1 := by
  unfold stepX stepF
  dsimp only
  split
  · rename_i he
    have h0 := zero_h0 h he
    have ht := h.told
    have hk := pushF_ok h he (hgd he) (by omega) (newK_point (n := n) h.parts h0.1)
    unfold drainF
    have h1 := drainN_good hO (pushF X (newK X n ts)).pts.length hk (by simp; omega)
    refine ⟨h1.1, h1.2, ?_⟩
    have := drainN_len (cf := cf) (pushF X (newK X n ts)).pts.length (pushF X (newK X n ts))
    simp at this ⊢
    omega
  · exact ⟨h, by simp, by simp⟩

/-- what lies behind a Step -/
structure FOut (cf : V → V → Int) (Q : Nat → Prop) (w w' : World) (p : Nat) (X : FS) (B : List Nat) (n : Int) (ts : List Tb) (u : Value) (m : Nat) (B' : List Nat) (vs : List Vd) : Prop where
  lo : w.heap.size ≤ m
  hi : m ≤ w'.heap.size
  told : VdAt (fun b => m ≤ b) w' u vs
  new : ∀ b, b ∈ u.blk → m ≤ b
  op : FutOp (fun b => Q b ∧ b < m) w' p (stepX cf X n ts).2.2 B'
  blk : ∀ b, b ∈ B' → b < m ∧ (b ∈ B ∨ w.heap.size ≤ b)
  eq : vs.map Vd.tt = (stepX cf X n ts).2.1
  ok : FOk cf (stepX cf X n ts).2.2
  many : (stepX cf X n ts).2.2.told + (stepX cf X n ts).2.2.pts.length ≤ 1000
  fr : w.Fr w' B
theorem fstep33 {cf : V → V → Int} (hK : Ctx V.wf cf) {Q : Nat → Prop} {w : World} (hQ : ∀ b, w.heap.size ≤ b → Q b) {p : Nat} {X : FS} {B : List Nat} {v : Value} {ts : List Tb} {n : Int} (h : FutOp Q w p X B) (ht : RdTabs w v ts) (hO : FOk cf X) (hts : ts.length ≤ 8796093021952) (hf : ∀ t, t ∈ ts → Fits V.wf t) (hmany : X.told + X.pts.length + 1 ≤ 1000) (hrows : wrongE cf X.ps n ts = 0 → ∀ t, t ∈ ts → t.rows.length ≤ 600) :
    Calls Tryz.prog 33 #[.pointer (some ⟨p, 0, none⟩), .int .i64 n, v] w fun e w' => ∃ u m B' vs, e = .returned (.tuple #[u, .int .i64 (stepX cf X n ts).1]) ∧ FOut cf Q w w' p X B n ts u m B' vs := by
  obtain ⟨S, vl, vr, vp, rfl, hp, rfl⟩ := h
  have hO' := hO.unbare
  have hlp : (bareF S).pts.length = S.pts.length := by simp [bareF]
  rw [hlp] at hmany
  have hm' : S.told + S.pts.length + 1 ≤ 1000 := hmany
  have htd := hO'.told
  have hc := step33 hK hQ (n := n) hp ht hO' hts hf hm' (fun he => zero_h0 hO' he) (fun he k hk => pushF_ok hO' he (fun t ht => ⟨good_of hK.ord ((zero_h0 hO' he).2 t ht) (hf t ht).ok, hrows he t ht⟩) (by omega) hk)
  refine hc.mono ?_
  rintro e w' ⟨k, S', u, vp', vs, m, rfl, h⟩
  have hpl := h.plain hO'.parts
  have hb := h.lo
  have hlt := lt_of_heap hp.box
  refine ⟨u, m, p :: vp'.blk, vs, by rw [hpl], h.lo, h.hi, h.told, h.new, ?_, ?_, by rw [hpl], by rw [hpl]; exact h.ok.bare, by rw [hpl]; have := h.many; simpa [bareF] using this, h.fr⟩
  · rw [hpl]
    exact ⟨S', vl, vr, vp', rfl, h.fut, rfl⟩
  · intro b hb'
    rcases List.mem_cons.1 hb' with rfl | hb'
    · exact ⟨by omega, .inl (by simp)⟩
    · obtain ⟨h1, h2⟩ := h.blk b hb'
      exact ⟨h1, h2.elim (fun h => .inl (by simp [h])) .inr⟩
/-- how an operator begins -/
abbrev fbeginX (i : Iv) (nt : Bool) (l r : List BA) (parts : Int) (nx : Bool) : FS := fbeginS i nt l r parts nx
theorem FutOp.begun {Q : Nat → Prop} {w : World} {k : Nat} {i : Iv} {nt nx : Bool} {l r : List BA} {parts : Int} {vl vr : Value} (h : FutAt Q w k (fbeginS i nt l r parts nx) vl vr (.slice none 0 0)) : FutOp Q w k (fbeginX i nt l r parts nx) [k] :=
  ⟨_, vl, vr, _, rfl, h, by simp [Value.blk]⟩
theorem beginF_ok {cf : V → V → Int} {i : Iv} {nt nx : Bool} {l r : List BA} {parts : Int} (h : beginF i l r = 0) (hp : parts = 1 ∨ parts = 2) : FOk cf (fbeginX i nt l r parts nx) := by
  unfold beginF at h
  split at h
  · rename_i hi
    obtain ⟨h1, h2, h3, h4⟩ := beginE_zero h
    obtain ⟨a1, a2⟩ := sortS_up h2
    obtain ⟨b1, b2⟩ := sortS_up h3
    exact ⟨a1, b1, ⟨a2, b2⟩, hp, fun s hs => (sortS_perm r).mem_iff.2 (h4 s ((sortS_perm l).mem_iff.1 hs)), by simp, by simp, by simp, by simp, by simp, by simp, hi⟩
  · cases h
end Go.Proofs.YtbejmdlncnkaaaaGreat
namespace Go.Proofs.YtbejmdlncnkaaaaGreat
open Go.RowKit

theorem drainN_ord {cf : V → V → Int} : ∀ (N : Nat) (X : FS) (TS : List Int) (o : Nat), X.told = (o : Int) → X.pts.map Sn.time = TS.drop o → o ≤ TS.length →
    ∃ L X' o', drainN cf N X = (L, X') ∧ X'.told = ((o' : Nat) : Int) ∧ o' = o + L.length ∧ X'.pts.map Sn.time = TS.drop o' ∧ o' ≤ TS.length ∧ X'.time = X.time ∧ X'.i = X.i ∧ X'.nx = X.nx ∧ (∀ (i : Nat) x, L[i]? = some x → x.1 = ((o + i : Nat) : Int) ∧ TS[o + i]? = some x.2.1) ∧ (X.nx = false → 0 < L.length → ∀ t, TS[o' - 1]? = some t → X.i.hi < X.time - t) ∧ (X.nx = true → 1 ≤ X.pts.length → 1 ≤ X'.pts.length) ∧ (X.pts.length ≤ N → ∀ k0, X'.pts[0]? = some k0 → settledB X' k0 = false)
  | 0, X, TS, o, h1, h2, h3 => ⟨[], X, o, rfl, h1, rfl, h2, h3, rfl, rfl, rfl, by simp, by simp, fun _ h => h, fun h k0 hk => by
      have := (List.getElem?_eq_some_iff.1 hk).1
      omega⟩
  | N + 1, X, TS, o, h1, h2, h3 => by
    unfold drainN
    cases hk : X.pts[0]? with
    | none => exact ⟨[], X, o, rfl, h1, rfl, h2, h3, rfl, rfl, rfl, by simp, by simp, fun _ h => h, fun h k0 hk0 => by rw [hk] at hk0; cases hk0⟩
    | some k0 =>
      have hl := (List.getElem?_eq_some_iff.1 hk).1
      have hlen : X.pts.length = TS.length - o := by have := congrArg List.length h2; simpa using this
      have ht : TS[o]? = some k0.time := by
        have := congrArg (fun l => l[0]?) h2
        simp only [List.getElem?_map, hk, Option.map_some, List.getElem?_drop, Nat.add_zero] at this
        exact this.symm
      dsimp only
      by_cases hs : settledB X k0 = true
      · rw [if_pos hs]
        obtain ⟨L, X', o', e1, e2, e3, e4, e5, e6, e7, e8, e9, e10, e11, e12⟩ := drainN_ord (cf := cf) N (offF X) TS (o + 1) (by show X.told + 1 = _; omega) (by show (X.pts.drop 1).map Sn.time = _; rw [List.map_drop, h2, List.drop_drop]) (by omega)
        rw [e1]
        refine ⟨_, X', o', rfl, e2, by simp; omega, e4, e5, e6, e7, e8, fun i x hx => ?_, fun hn _ t ht' => ?_, fun hn hp => ?_, fun hp => e12 (by simp; omega)⟩
        · cases i with
          | zero => simp at hx; subst hx; exact ⟨by simpa using h1, by simpa using ht⟩
          | succ i =>
            obtain ⟨a, b⟩ := e9 i x (by simpa using hx)
            exact ⟨by rw [a]; omega, by rw [show o + (i + 1) = o + 1 + i by omega]; exact b⟩
        · by_cases h0 : L.length = 0
          · have : o' - 1 = o := by omega
            rw [this, ht] at ht'
            cases ht'
            have hs' := hs
            unfold settledB at hs'
            rw [hn] at hs'
            simpa using hs'
          · exact e10 hn (by omega) t ht'
        · have hs' := hs
          unfold settledB at hs'
          rw [hn] at hs'
          simp at hs'
          exact e11 hn (by simp; omega)
      · rw [if_neg hs]
        exact ⟨[], X, o, rfl, h1, rfl, h2, h3, rfl, rfl, rfl, by simp, by simp, fun _ h => h, fun h k1 hk1 => by rw [hk] at hk1; cases hk1; simpa using hs⟩

/-- what is known of an operator, of the times of all points so far -/
structure OrdI (X : FS) (TS : List Int) (o : Nat) : Prop where
  told : X.told = (o : Int)
  le : o ≤ TS.length
  pts : X.pts.map Sn.time = TS.drop o
  past : X.nx = false → 0 < o → ∀ t, TS[o - 1]? = some t → X.i.hi < X.time - t
  next : X.nx = true → 1 ≤ TS.length → X.pts.length = 1
  wait : X.nx = false → ∀ t, TS[o]? = some t → ¬ X.i.hi < X.time - t
theorem OrdI.len {X : FS} {TS : List Int} {o : Nat} (h : OrdI X TS o) : X.pts.length = TS.length - o := by
  have := congrArg List.length h.pts
  simpa using this
theorem stepX_ord {cf : V → V → Int} {X : FS} {TS : List Int} {o : Nat} {n : Int} {ts : List Tb} (h : OrdI X TS o) (hp : X.parts = 1 ∨ X.parts = 2) (he : wrongE cf X.ps n ts = 0) :
    ∃ o', OrdI (stepX cf X n ts).2.2 (TS ++ [n]) o' ∧ o' = o + (stepX cf X n ts).2.1.length ∧ (stepX cf X n ts).2.2.time = n ∧ ∀ (i : Nat) x, (stepX cf X n ts).2.1[i]? = some x → x.1 = ((o + i : Nat) : Int) ∧ (TS ++ [n])[o + i]? = some x.2.1 := by
  obtain ⟨_, _, hx, _⟩ := wrongE_zero (S := X.ps) hp he
  have hx' : X.time ≤ n := hx
  unfold stepX stepF
  dsimp only
  rw [if_pos he]
  unfold drainF
  have hle := h.le
  obtain ⟨L, X', o', e1, e2, e3, e4, e5, e6, e7, e8, e9, e10, e11, e12⟩ := drainN_ord (cf := cf) (pushF X (newK X n ts)).pts.length (pushF X (newK X n ts)) (TS ++ [n]) o h.told (by
    show (X.pts ++ [newK X n ts]).map Sn.time = _
    rw [List.map_append, h.pts, List.drop_append_of_le_length hle]
    rfl) (by simp; omega)
  have e12 := e12 (Nat.le_refl _)
  have e6' : X'.time = n := e6
  have e7' : X'.i = X.i := e7
  have e8' : X'.nx = X.nx := e8
  rw [e1]
  have hsome : ∀ t, (TS ++ [n])[o']? = some t → ∃ k0, X'.pts[0]? = some k0 ∧ k0.time = t := fun t ht => by
    have := congrArg (fun l => l[0]?) e4
    simp only [List.getElem?_map, List.getElem?_drop, Nat.add_zero] at this
    rw [ht] at this
    exact Option.map_eq_some_iff.1 this
  refine ⟨o', ⟨e2, e5, e4, fun hn hpos t ht => ?_, fun hn _ => ?_, fun hn t ht => ?_⟩, e3, e6', e9⟩
  · have hn' : X.nx = false := e8' ▸ hn
    show X'.i.hi < X'.time - t
    rw [e7', e6']
    by_cases h0 : L.length = 0
    · have ho : o' = o := by omega
      rw [ho, List.getElem?_append_left (by omega)] at ht
      have := h.past hn' (by omega) t ht
      omega
    · exact e10 hn' (by omega) t ht
  · have hn' : X.nx = true := e8' ▸ hn
    have h1 := e11 hn' (by simp)
    show X'.pts.length = 1
    obtain ⟨k0, hk0⟩ : ∃ k0, X'.pts[0]? = some k0 := ⟨X'.pts[0], List.getElem?_eq_getElem (by omega)⟩
    have := e12 k0 hk0
    unfold settledB at this
    rw [hn] at this
    simp at this
    omega
  · obtain ⟨k0, hk0, rfl⟩ := hsome t ht
    have := e12 k0 hk0
    unfold settledB at this
    have hn2 : X'.nx = false := hn
    rw [hn2] at this
    simpa using this
theorem ordI_begun (i : Iv) (nt : Bool) (l r : List BA) (parts : Int) (nx : Bool) : OrdI (fbeginX i nt l r parts nx) [] 0 := ⟨rfl, by simp, rfl, by simp, by simp, by simp⟩
end Go.Proofs.YtbejmdlncnkaaaaGreat
