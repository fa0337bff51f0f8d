/-
  The reference of the past, plainly: what it tells is what the operator tells.
-/
import Derived.Test.YtbejmdlncnkaaaaGreatPaD
import Derived.Test.YtbejmdlncnkaaaaGreatFuD
set_option linter.unusedSimpArgs false
namespace Go.Proofs.YtbejmdlncnkaaaaGreat
open Go.RowKit
structure RP where
 kind : Int
 i : Iv
 nt : Bool
 left : List BA
 right : List BA
 T : List Int
 L : List Tb
 R : List Tb
abbrev RP.parts (S : RP) : Int := if S.kind = 15 then 2 else 1
abbrev RP.fn (S : RP) : Nat := if S.kind = 11 then 59 else 65
noncomputable def RP.heldAt (cf : V -> V -> Int) (S : RP) (j : Nat) : Tb := if S.kind = 15 then (S.L.drop (j + 1)).foldl (holdT cf S.nt) (S.R.getD j ⟨[], []⟩) else S.R.getD j ⟨[], []⟩
noncomputable def RP.all (cf : V -> V -> Int) (S : RP) : List (Int × Tb) := (List.range S.T.length).map fun j => (S.T.getD j 0, S.heldAt cf j)
noncomputable def RP.w (cf : V -> V -> Int) (S : RP) : List (Int × Tb) := if S.kind = 11 then (S.all cf).drop (S.T.length - 1) else (S.all cf).filter fun x => !goneX S.i (lastI S.T) x
noncomputable abbrev RP.X (cf : V -> V -> Int) (S : RP) : PX := ⟨S.i, S.nt, S.left, S.right, lastI S.T, S.w cf, S.fn, S.parts⟩
def RP.push (S : RP) (n : Int) (a b : Tb) : RP := { S with T := S.T ++ [n], L := S.L ++ [a], R := S.R ++ [b] }
structure RPOk (cf : V -> V -> Int) (S : RP) : Prop where
 ll : S.L.length = S.T.length
 lr : S.R.length = S.T.length
 many : S.T.length <= 1000
 kind : S.kind = 11 ∨ S.kind = 13 ∨ S.kind = 15
 rng : ∀ t, t ∈ S.T -> 0 <= t /\ t <= 1099511627776
 good : ∀ t, t ∈ S.R -> Good cf t /\ t.vars = S.right /\ t.rows.length <= 600
 goodl : S.kind = 15 -> ∀ t, t ∈ S.L -> Good cf t /\ t.vars = S.left /\ t.rows.length <= 600
 sub : ∀ s, s ∈ S.left -> s ∈ S.right
 upl : S.left.Pairwise fun a b => ltS a b = true
 up : S.right.Pairwise fun a b => ltS a b = true
 le8 : S.left.length <= 8 /\ S.right.length <= 8
theorem RP.all_len (cf : V -> V -> Int) (S : RP) : (S.all cf).length = S.T.length := by simp [RP.all]
theorem RP.all_at (cf : V -> V -> Int) (S : RP) {j : Nat} (h : j < S.T.length) : (S.all cf)[j]? = some (S.T.getD j 0, S.heldAt cf j) := by
 unfold RP.all
 rw [List.getElem?_map, List.getElem?_range h]
 rfl
theorem foldl_hold {cf : V -> V -> Int} (hO : OrdOk okW cf) {nt : Bool} {R : List BA} : ∀ (l : List Tb) (k : Tb), Good cf k /\ k.vars = R /\ k.rows.length <= 600 -> (∀ a, a ∈ l -> Good cf a /\ ∀ s, s ∈ a.vars -> s ∈ R) -> Good cf (l.foldl (holdT cf nt) k) /\ (l.foldl (holdT cf nt) k).vars = R /\ (l.foldl (holdT cf nt) k).rows.length <= 600
 | [], _, h, _ => h
 | a :: l, k, h, ha => by
  obtain ⟨h1, h2⟩ := ha a (by simp)
  obtain ⟨q1, q2, q3⟩ := hold_small hO (nt := nt) h.1 h1 (fun s hs => by rw [h.2.1]; exact h2 s hs)
  exact foldl_hold hO l _ ⟨q1, q2.trans h.2.1, Nat.le_trans q3 h.2.2⟩ (fun b hb => ha b (by simp [hb]))
theorem RPOk.heldAt {cf : V -> V -> Int} (hO : OrdOk okW cf) {S : RP} (h : RPOk cf S) {j : Nat} (hj : j < S.T.length) : Good cf (S.heldAt cf j) /\ (S.heldAt cf j).vars = S.right /\ (S.heldAt cf j).rows.length <= 600 := by
 have hjR : j < S.R.length := by rw [h.lr]; exact hj
 have e : S.R.getD j ⟨[], []⟩ = S.R[j] := by rw [List.getD_eq_getElem?_getD, List.getElem?_eq_getElem hjR]; rfl
 have hk := h.good _ (List.getElem_mem hjR)
 unfold RP.heldAt
 rw [e]
 split
 ·rename_i h15
  refine foldl_hold hO _ _ hk (fun a ha => ?_)
  obtain ⟨g1, g2, _⟩ := h.goodl h15 a (List.mem_of_mem_drop ha)
  exact ⟨g1, fun s hs => h.sub s (by rw [<- g2]; exact hs)⟩
 ·exact hk
theorem RPOk.all {cf : V -> V -> Int} (hO : OrdOk okW cf) {S : RP} (h : RPOk cf S) : ∀ x, x ∈ S.all cf -> Good cf x.2 /\ x.2.vars = S.right /\ x.2.rows.length <= 600 := by
 intro x hx
 unfold RP.all at hx
 obtain ⟨j, hj, rfl⟩ := List.mem_map.1 hx
 exact h.heldAt hO (by simpa using hj)
theorem RP.push_all {cf : V -> V -> Int} {S : RP} (h : RPOk cf S) (n : Int) (a b : Tb) : (S.push n a b).all cf = (if S.kind = 15 then (S.all cf).map (holdK cf S.nt a) else S.all cf) ++ [(n, b)] := by
 have h1 := h.ll; have h2 := h.lr
 have hlen : (S.push n a b).T.length = S.T.length + 1 := by simp [RP.push]
 have e1 : ∀ j, j < S.T.length -> (S.T ++ [n]).getD j 0 = S.T.getD j 0 := fun j hj => by rw [List.getD_eq_getElem?_getD, List.getD_eq_getElem?_getD, List.getElem?_append_left hj]
 have e2 : ∀ j, j < S.T.length -> (S.R ++ [b]).getD j ⟨[], []⟩ = S.R.getD j ⟨[], []⟩ := fun j hj => by rw [List.getD_eq_getElem?_getD, List.getD_eq_getElem?_getD, List.getElem?_append_left (by omega)]
 have e3 : (S.push n a b).heldAt cf S.T.length = b := by
  have x1 : (S.R ++ [b]).getD S.T.length ⟨[], []⟩ = b := by rw [<- h2]; simp
  have x2 : (S.L ++ [a]).drop (S.T.length + 1) = [] := List.drop_eq_nil_of_le (by simp; omega)
  show (if S.kind = 15 then ((S.L ++ [a]).drop (S.T.length + 1)).foldl (holdT cf S.nt) ((S.R ++ [b]).getD S.T.length ⟨[], []⟩) else (S.R ++ [b]).getD S.T.length ⟨[], []⟩) = b
  rw [x1, x2]
  split <;> rfl
 have e4 : ∀ j, j < S.T.length -> (S.push n a b).heldAt cf j = if S.kind = 15 then holdT cf S.nt (S.heldAt cf j) a else S.heldAt cf j := fun j hj => by
  show (if S.kind = 15 then ((S.L ++ [a]).drop (j + 1)).foldl (holdT cf S.nt) ((S.R ++ [b]).getD j ⟨[], []⟩) else (S.R ++ [b]).getD j ⟨[], []⟩) = _
  rw [e2 j hj]
  unfold RP.heldAt
  by_cases h15 : S.kind = 15
  ·rw [if_pos h15, if_pos h15, if_pos h15, List.drop_append_of_le_length (by omega), List.foldl_append]
   rfl
  ·rw [if_neg h15, if_neg h15, if_neg h15]
 have key : ∀ j, j < S.T.length -> ((S.push n a b).T.getD j 0, (S.push n a b).heldAt cf j) = if S.kind = 15 then holdK cf S.nt a (S.T.getD j 0, S.heldAt cf j) else (S.T.getD j 0, S.heldAt cf j) := fun j hj => by
  rw [e4 j hj]
  show ((S.T ++ [n]).getD j 0, _) = _
  rw [e1 j hj]
  split <;> rfl
 refine List.ext_getElem? fun j => ?_
 rcases Nat.lt_trichotomy j S.T.length with hj | hj | hj
 ·rw [RP.all_at cf _ (by rw [hlen]; omega), key j hj, List.getElem?_append_left (by split <;> simp [RP.all_len, hj])]
  split
  ·rw [List.getElem?_map, RP.all_at cf S hj]; rfl
  ·rw [RP.all_at cf S hj]
 ·subst hj
  rw [RP.all_at cf _ (by rw [hlen]; omega), List.getElem?_append_right (by split <;> simp [RP.all_len]), e3]
  have x1 : (S.T ++ [n]).getD S.T.length 0 = n := by simp
  have x2 : S.T.length - (if S.kind = 15 then (S.all cf).map (holdK cf S.nt a) else S.all cf).length = 0 := by split <;> simp [RP.all_len]
  rw [x2]
  show some ((S.T ++ [n]).getD S.T.length 0, b) = _
  rw [x1]; rfl
 ·rw [List.getElem?_eq_none (by rw [RP.all_len, hlen]; omega), List.getElem?_eq_none (by split <;> simp [RP.all_len] <;> omega)]
theorem gone_later {i : Iv} {m n : Int} {x y : Int × Tb} (h : goneX i m x = true) (hmn : m <= n) (ht : y.1 = x.1) (hr : y.2.rows.length <= x.2.rows.length) : goneX i n y = true := by
 unfold goneX at h ⊢
 simp only [Bool.or_eq_true, Bool.and_eq_true, Bool.not_eq_true', decide_eq_true_eq, beq_iff_eq] at h ⊢
 rcases h with ⟨h1, h2⟩ | h
 ·exact .inl ⟨h1, by rw [ht]; omega⟩
 ·exact .inr (by omega)
theorem filter_map_gone {i : Iv} {m n : Int} {f : Int × Tb -> Int × Tb} : ∀ (l : List (Int × Tb)), (∀ x, x ∈ l -> (f x).1 = x.1 /\ (f x).2.rows.length <= x.2.rows.length) -> m <= n ->
  ((l.filter fun x => !goneX i m x).map f).filter (fun x => !goneX i n x) = (l.map f).filter fun x => !goneX i n x
 | [], _, _ => rfl
 | x :: l, h, hmn => by
  have ih := filter_map_gone (i := i) l (fun y hy => h y (by simp [hy])) hmn
  obtain ⟨h1, h2⟩ := h x (by simp)
  rw [List.filter_cons]
  cases hg : goneX i m x with
  | true =>
   have hg2 := gone_later hg hmn h1 h2
   simp only [Bool.not_true, Bool.false_eq_true, if_false, List.map_cons]
   rw [List.filter_cons, hg2]
   simpa using ih
  | false =>
   simp only [Bool.not_false, if_true, List.map_cons]
   rw [List.filter_cons, List.filter_cons, ih]
theorem sinceO_gone {cf : V -> V -> Int} (hO : OrdOk okW cf) {i : Iv} {n : Int} : ∀ (l : List (Int × Tb)) (e : Tb), Good cf e -> (∀ x, x ∈ l -> Good cf x.2 /\ x.2.vars = e.vars) -> sinceO cf i n e (l.filter fun x => !goneX i n x) = sinceO cf i n e l
 | [], _, _, _ => rfl
 | x :: l, e, he, h => by
  obtain ⟨h1, h2⟩ := h x (by simp)
  have hl : ∀ y, y ∈ l -> Good cf y.2 /\ y.2.vars = e.vars := fun y hy => h y (by simp [hy])
  rw [List.filter_cons]
  cases hg : goneX i n x with
  | true =>
   simp only [Bool.not_true, Bool.false_eq_true, if_false]
   rw [sinceO_gone hO l e he hl]
   unfold sinceO
   rw [List.foldl_cons]
   by_cases hin : inB (n - x.1) i = true
   ·rw [if_pos hin]
    have h0 : x.2.rows = [] := by
     unfold goneX at hg
     simp only [Bool.or_eq_true, Bool.and_eq_true, Bool.not_eq_true', decide_eq_true_eq, beq_iff_eq] at hg
     rcases hg with ⟨g1, g2⟩ | hg
     ·unfold inB at hin
      simp only [Bool.and_eq_true, Bool.or_eq_true, decide_eq_true_eq] at hin
      rcases hin.2 with hin | hin
      ·rw [g1] at hin; cases hin
      ·omega
     ·exact List.eq_nil_of_length_eq_zero hg
    obtain ⟨u1, u2, _, u4⟩ := union_small hO he h1 h2.symm
    have : (unionT cf e x.2).2 = e := good_ext hO u1 he (fun s => by rw [u2]) (fun r => by rw [u4, h0]; simp)
    rw [this]
   ·rw [if_neg hin]
  | false =>
   simp only [Bool.not_false, if_true]
   unfold sinceO
   rw [List.foldl_cons, List.foldl_cons]
   by_cases hin : inB (n - x.1) i = true
   ·rw [if_pos hin]
    obtain ⟨u1, u2, _, _⟩ := union_small hO he h1 h2.symm
    exact sinceO_gone hO l _ u1 (fun y hy => by rw [u2]; exact hl y hy)
   ·rw [if_neg hin]
    exact sinceO_gone hO l e he hl
noncomputable def RP.tell (cf : V -> V -> Int) (S : RP) (n : Int) : Tb :=
 if S.kind = 11 then (if 1 < S.T.length /\ inB (n - S.T.getD (S.T.length - 2) 0) S.i then S.R.getD (S.T.length - 2) ⟨[], []⟩ else ⟨S.right, []⟩) else sinceO cf S.i n ⟨S.right, []⟩ (S.all cf)
theorem RPOk.push {cf : V -> V -> Int} {S : RP} (h : RPOk cf S) {n : Int} {ts : List Tb} (hm : S.T.length + 1 <= 1000) (he : wrongP cf (S.X cf) n ts = 0) (hg : ∀ t, t ∈ ts -> Good cf t /\ t.rows.length <= 600) : RPOk cf (S.push n (firstT ts) (lastT ts)) := by
 have hp : S.parts = 1 ∨ S.parts = 2 := by unfold RP.parts; split <;> simp
 obtain ⟨h1, h2, h3, h4, h5, h6, h7⟩ := wrongE_zero (S := (S.X cf).ps) hp he
 simp only [PX.ps] at h3 h4 h6 h7
 have hpos : 0 < ts.length := by omega
 have e0 : firstT ts ∈ ts := by unfold firstT; rw [List.getD_eq_getElem?_getD, List.getElem?_eq_getElem hpos]; exact List.getElem_mem _
 have e1 : lastT ts ∈ ts := by unfold lastT; rw [List.getD_eq_getElem?_getD, List.getElem?_eq_getElem (by omega)]; exact List.getElem_mem _
 refine ⟨by simp [RP.push, h.ll], by simp [RP.push, h.lr], by simp [RP.push]; omega, h.kind, fun t ht => ?_, fun t ht => ?_, fun h15 t ht => ?_, h.sub, h.upl, h.up, h.le8⟩
 ·rcases List.mem_append.1 ht with ht | ht
  ·exact h.rng t ht
  ·simp at ht; subst ht; exact ⟨h1, h2⟩
 ·rcases List.mem_append.1 ht with ht | ht
  ·exact h.good t ht
  ·simp at ht; subst ht; exact ⟨(hg _ e1).1, h7, (hg _ e1).2⟩
 ·have h15' : S.kind = 15 := h15
  rcases List.mem_append.1 ht with ht | ht
  ·exact h.goodl h15' t ht
  ·simp at ht; subst ht; exact ⟨(hg _ e0).1, h6 (by unfold RP.parts; rw [if_pos h15']), (hg _ e0).2⟩
theorem RP.step {cf : V -> V -> Int} (hO : OrdOk okW cf) {S : RP} (h : RPOk cf S) {n : Int} {ts : List Tb} (hm : S.T.length + 1 <= 1000) (he : wrongP cf (S.X cf) n ts = 0) (hg : ∀ t, t ∈ ts -> Good cf t /\ t.rows.length <= 600) :
  stepP cf (S.X cf) n ts = (0, (S.push n (firstT ts) (lastT ts)).tell cf n, (S.push n (firstT ts) (lastT ts)).X cf) := by
 have hp : S.parts = 1 ∨ S.parts = 2 := by unfold RP.parts; split <;> simp
 obtain ⟨h1, h2, h3, h4, h5, h6, h7⟩ := wrongE_zero (S := (S.X cf).ps) hp he
 simp only [PX.ps] at h3 h4 h6 h7
 have hpos : 0 < ts.length := by omega
 have e0 : firstT ts ∈ ts := by unfold firstT; rw [List.getD_eq_getElem?_getD, List.getElem?_eq_getElem hpos]; exact List.getElem_mem _
 have hok := h.push hm he hg
 have hla : lastI (S.push n (firstT ts) (lastT ts)).T = n := lastI_push _ _
 have hpa := RP.push_all h n (firstT ts) (lastT ts)
 unfold stepP
 rw [if_pos he]
 have hlen : (S.push n (firstT ts) (lastT ts)).T.length = S.T.length + 1 := by simp [RP.push]
 by_cases h11 : S.kind = 11
 ·have hfn : S.fn = 59 := by unfold RP.fn; rw [if_pos h11]
  have h15 : S.kind ≠ 15 := by omega
  have hts1 : ts.length = 1 := by
   have : S.parts = 1 := by unfold RP.parts; rw [if_neg h15]
   omega
  have hfl : firstT ts = lastT ts := tb_len (by rw [hts1]; rfl)
  rw [if_neg h15] at hpa
  have hw : (S.push n (firstT ts) (lastT ts)).w cf = [(n, lastT ts)] := by
   unfold RP.w
   rw [if_pos (show (S.push n (firstT ts) (lastT ts)).kind = 11 from h11), hpa, hlen]
   rw [List.drop_append_of_le_length (by rw [RP.all_len]; omega), List.drop_eq_nil_of_le (by rw [RP.all_len]; omega)]
   rfl
  have hk : keepP cf (S.X cf) n ts = [(n, lastT ts)] := by
   unfold keepP
   rw [if_pos (show (S.X cf).fn = 59 from hfn), hfl]
  have ht : tellP cf (S.X cf) n ts = (S.push n (firstT ts) (lastT ts)).tell cf n := by
   unfold tellP RP.tell
   rw [if_pos (show (S.X cf).fn = 59 from hfn), if_pos (show (S.push n (firstT ts) (lastT ts)).kind = 11 from h11), hlen]
   show prevX S.i n ⟨S.right, []⟩ (S.w cf) = if 1 < S.T.length + 1 /\ inB (n - (S.T ++ [n]).getD (S.T.length + 1 - 2) 0) S.i = true then (S.R ++ [lastT ts]).getD (S.T.length + 1 - 2) ⟨[], []⟩ else ⟨S.right, []⟩
   have hw0 : S.w cf = (S.all cf).drop (S.T.length - 1) := by unfold RP.w; rw [if_pos h11]
   rw [hw0]
   by_cases hz : S.T.length = 0
   ·rw [if_neg (by omega), List.drop_eq_nil_of_le (by rw [RP.all_len]; omega)]
    rfl
   ·have hl : S.T.length - 1 < S.T.length := by omega
    have hx := RP.all_at cf S hl
    have hd : (S.all cf).drop (S.T.length - 1) = [(S.T.getD (S.T.length - 1) 0, S.heldAt cf (S.T.length - 1))] := by
     have hl2 : S.T.length - 1 < (S.all cf).length := by rw [RP.all_len]; exact hl
     rw [List.drop_eq_getElem_cons hl2, List.drop_eq_nil_of_le (by rw [RP.all_len]; omega)]
     rw [List.getElem?_eq_getElem hl2] at hx
     rw [Option.some.inj hx]
    have e1 : (S.T ++ [n]).getD (S.T.length + 1 - 2) 0 = S.T.getD (S.T.length - 1) 0 := by
     rw [show S.T.length + 1 - 2 = S.T.length - 1 by omega, List.getD_eq_getElem?_getD, List.getD_eq_getElem?_getD, List.getElem?_append_left hl]
    have e2 : (S.R ++ [lastT ts]).getD (S.T.length + 1 - 2) ⟨[], []⟩ = S.R.getD (S.T.length - 1) ⟨[], []⟩ := by
     rw [show S.T.length + 1 - 2 = S.T.length - 1 by omega, List.getD_eq_getElem?_getD, List.getD_eq_getElem?_getD, List.getElem?_append_left (by rw [h.lr]; exact hl)]
    have e3 : S.heldAt cf (S.T.length - 1) = S.R.getD (S.T.length - 1) ⟨[], []⟩ := by unfold RP.heldAt; rw [if_neg h15]
    rw [hd, e1, e2, e3]
    show (if inB (n - S.T.getD (S.T.length - 1) 0) S.i = true then S.R.getD (S.T.length - 1) ⟨[], []⟩ else ⟨S.right, []⟩) = _
    by_cases hin : inB (n - S.T.getD (S.T.length - 1) 0) S.i = true
    ·rw [if_pos hin, if_pos ⟨by omega, hin⟩]
    ·rw [if_neg hin, if_neg (fun hh => hin hh.2)]
  rw [ht, hk]
  show _ = (0, _, (⟨S.i, S.nt, S.left, S.right, lastI (S.push n (firstT ts) (lastT ts)).T, (S.push n (firstT ts) (lastT ts)).w cf, S.fn, S.parts⟩ : PX))
  rw [hla, hw]
 ·have hfn : S.fn = 65 := by unfold RP.fn; rw [if_neg h11]
  have hn59 : ¬ (S.X cf).fn = 59 := by show ¬ S.fn = 59; rw [hfn]; decide
  have hk : keepP cf (S.X cf) n ts = (S.push n (firstT ts) (lastT ts)).w cf := by
   unfold keepP RP.w
   rw [if_neg hn59, if_neg (show ¬ (S.push n (firstT ts) (lastT ts)).kind = 11 from h11), hpa, hla]
   show ((if S.parts = 1 then S.w cf else (S.w cf).map (holdK cf S.nt (firstT ts))) ++ [(n, lastT ts)]).filter (fun x => !goneX S.i n x) = _
   rw [List.filter_append]
   show _ = List.filter (fun x => !goneX S.i n x) _
   rw [List.filter_append]
   congr 1
   have hw0 : S.w cf = (S.all cf).filter fun x => !goneX S.i (lastI S.T) x := by unfold RP.w; rw [if_neg h11]
   rw [hw0]
   by_cases h15 : S.kind = 15
   ·have hp2 : ¬ S.parts = 1 := by unfold RP.parts; rw [if_pos h15]; decide
    rw [if_neg hp2, if_pos h15]
    refine filter_map_gone _ (fun x hx => ⟨rfl, ?_⟩) h3
    obtain ⟨g1, g2, _⟩ := h.all hO x hx
    have h6' := h6 (by unfold RP.parts; rw [if_pos h15])
    exact (hold_small hO (nt := S.nt) g1 (hg _ e0).1 (fun s hs => by rw [g2]; exact h.sub s (by rw [<- h6']; exact hs))).2.2
   ·have hp1 : S.parts = 1 := by unfold RP.parts; rw [if_neg h15]
    rw [if_pos hp1, if_neg h15]
    have := filter_map_gone (i := S.i) (f := id) (S.all cf) (fun x _ => ⟨rfl, Nat.le_refl _⟩) h3
    simpa using this
  have ht : tellP cf (S.X cf) n ts = (S.push n (firstT ts) (lastT ts)).tell cf n := by
   unfold tellP RP.tell
   rw [if_neg hn59, if_neg (show ¬ (S.push n (firstT ts) (lastT ts)).kind = 11 from h11), hk]
   unfold RP.w
   rw [if_neg (show ¬ (S.push n (firstT ts) (lastT ts)).kind = 11 from h11), hla]
   exact sinceO_gone hO _ _ ⟨h.le8.2, h.up, by simp, by simp, by simp⟩ (fun x hx => by
    obtain ⟨g1, g2, _⟩ := hok.all hO x hx
    exact ⟨g1, g2⟩)
  rw [ht, hk]
  show _ = (0, _, (⟨S.i, S.nt, S.left, S.right, lastI (S.push n (firstT ts) (lastT ts)).T, (S.push n (firstT ts) (lastT ts)).w cf, S.fn, S.parts⟩ : PX))
  rw [hla]
end Go.Proofs.YtbejmdlncnkaaaaGreat
