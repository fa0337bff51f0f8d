/-
  What tables tell of one another, plainly: a join is told by its rows cut to either's names; unions, differences, joins in whatever order. The walk of the statement TableChecks (live's contract as a hypothesis; joined later). The law's is: a table and an error are the document's. What fits and what does not are the whole; the rows of a union, a difference, a join: plainly. Package future: what an operator that looks ahead holds, as it lies.
-/
import Derived.Test.YtbejmdlncnkaaaaGreatRfZ
import Derived.Test.YtbejmdlncnkaaaaGreatRsr
import Derived.Test.YtbejmdlncnkaaaaGreatMad
import Derived.Test.YtbejmdlncnkaaaaGreatRvs
import Derived.Test.YtbejmdlncnkaaaaGreatRmB
import Derived.Test.YtbejmdlncnkaaaaGreatKys
import Derived.Test.YtbejmdlncnkaaaaGreatLow
import Derived.Test.YtbejmdlncnkaaaaGreatPaA
namespace Go.Proofs.YtbejmdlncnkaaaaGreat
section
open Go.RowKit
def val (l : List BA) (r : Row) (s : BA) : V := r.getD (idx l s).toNat default
theorem pick_val (l : List BA) (r : Row) (want : List BA) : pick l r want = want.map (val l r) := rfl
theorem val_at {l : List BA} (hn : l.Nodup) {r : Row} (i : Nat) (hi : i < l.length) : val l r l[i] = r.getD i default := by
 unfold val
 rw [idx_self hn i hi, Int.toNat_natCast]
theorem val_pick {l want : List BA} (hn : want.Nodup) {r : Row} {s : BA} (hs : s ∈ want) : val want (pick l r want) s = val l r s := by
 obtain ⟨i, hi, rfl⟩ := List.getElem_of_mem hs
 rw [val_at hn i hi, pick_val, List.getD_eq_getElem?_getD, List.getElem?_map, List.getElem?_eq_getElem hi]
 rfl
theorem pick_eq {l m want : List BA} {r q : Row} : pick l r want = pick m q want ↔ ∀ s, s ∈ want -> val l r s = val m q s := by
 rw [pick_val, pick_val]
 exact List.map_inj_left
theorem pick_pick {l m want : List BA} {r : Row} (hm : m.Nodup) (h : ∀ s, s ∈ want -> s ∈ m) : pick m (pick l r m) want = pick l r want :=
 pick_eq.2 fun s hs => val_pick hm (h s hs)
theorem row_ext {l : List BA} (hn : l.Nodup) {r q : Row} (hr : r.length = l.length) (hq : q.length = l.length) (h : ∀ s, s ∈ l -> val l r s = val l q s) : r = q := by
 rw [<- pick_all hn hr, <- pick_all hn hq]
 exact pick_eq.2 h
theorem val_left {a m : List BA} (hL : (a ++ m).Nodup) {x z : Row} (hx : x.length = a.length) {s : BA} (hs : s ∈ a) : val (a ++ m) (x ++ z) s = val a x s := by
 obtain ⟨i, hi, rfl⟩ := List.getElem_of_mem hs
 have hi2 : i < (a ++ m).length := by rw [List.length_append]; omega
 have h1 : (a ++ m)[i] = a[i] := List.getElem_append_left hi
 have h2 := val_at hL (r := x ++ z) i hi2
 rw [h1] at h2
 rw [h2, val_at (List.nodup_append.1 hL).1 i hi, List.getD_eq_getElem?_getD, List.getD_eq_getElem?_getD, List.getElem?_append_left (by omega)]
theorem val_right {a m : List BA} (hL : (a ++ m).Nodup) {x z : Row} (hx : x.length = a.length) {s : BA} (hs : s ∈ m) : val (a ++ m) (x ++ z) s = val m z s := by
 obtain ⟨i, hi, rfl⟩ := List.getElem_of_mem hs
 have hi2 : a.length + i < (a ++ m).length := by rw [List.length_append]; omega
 have h1 : (a ++ m)[a.length + i] = m[i] := by
  rw [List.getElem_append_right (by omega)]
  simp
 have h2 := val_at hL (r := x ++ z) (a.length + i) hi2
 rw [h1] at h2
 rw [h2, val_at (List.nodup_append.1 hL).2.1 i hi, List.getD_eq_getElem?_getD, List.getD_eq_getElem?_getD, List.getElem?_append_right (by omega), hx, Nat.add_sub_cancel_left]
abbrev okW (v : V) : Prop := V.wf v /\ vcheck v = 0
structure Good (cf : V -> V -> Int) (t : Tb) : Prop where
 len : t.vars.length <= 8
 up : t.vars.Pairwise fun a b => ltS a b = true
 row : ∀ r, r ∈ t.rows -> r.length = t.vars.length
 ok : ∀ r, r ∈ t.rows -> ∀ x, x ∈ r -> okW x
 rise : t.rows.Pairwise (rlt cf)
theorem Good.nd {cf : V -> V -> Int} {t : Tb} (h : Good cf t) : t.vars.Nodup := nodup_of_pair h.up
theorem vchecks_ok : ∀ r : Row, (∀ x, x ∈ r -> vcheck x = 0) -> vchecks r = 0
 | [], _ => rfl
 | a :: t, h => by
  unfold vchecks
  rw [if_pos (h a (by simp))]
  exact vchecks_ok t (fun x hx => h x (by simp [hx]))
theorem rowsCheck_ok {cf : V -> V -> Int} {n : Nat} : ∀ (rs : List Row) (p : Option Row), (∀ r, r ∈ rs -> rowCheck n r = 0) -> (∀ q r, p = some q -> rs.head? = some r -> rcmp cf q r < 0) -> rs.Pairwise (rlt cf) -> rowsCheck cf n p rs = 0
 | [], p, _, _, _ => by cases p <;> rfl
 | r :: rs, p, h1, h2, h3 => by
  rw [rowsCheck_fine rs ⟨h1 r (by simp), fun q hq => h2 q r hq rfl⟩]
  obtain ⟨p1, p2⟩ := List.pairwise_cons.1 h3
  refine rowsCheck_ok rs (some r) (fun x hx => h1 x (by simp [hx])) (fun q x hq hx => ?_) p2
  cases hq
  exact p1 x (by cases rs with | nil => simp at hx | cons a t => simp at hx; subst hx; simp)
theorem Good.check {cf : V -> V -> Int} {t : Tb} (h : Good cf t) : tcheck cf t = 0 := by
 unfold tcheck
 rw [if_neg (by have := h.len; omega), if_pos (risesB_true (rises_of_pair h.up))]
 refine rowsCheck_ok t.rows none (fun r hr => ?_) (fun q r hq => by cases hq) h.rise
 unfold rowCheck
 rw [if_pos (h.row r hr)]
 exact vchecks_ok r fun x hx => (h.ok r hr x hx).2
theorem Good.both {cf : V -> V -> Int} {a b : Tb} (ha : Good cf a) (hb : Good cf b) : bothE cf a b = 0 := by
 unfold bothE
 rw [if_pos ha.check, hb.check]
section
variable {cf : V -> V -> Int} (hO : OrdOk okW cf)
include hO
theorem good_of {t : Tb} (h : tcheck cf t = 0) (hw : ∀ r, r ∈ t.rows -> ∀ x, x ∈ r -> V.wf x) : Good cf t := by
 obtain ⟨k1, k2, k3, k4⟩ := tcheck_zero h
 have hok : ∀ r, r ∈ t.rows -> ∀ x, x ∈ r -> okW x := fun r hr x hx => ⟨hw r hr x hx, (k3 r hr).2 x hx⟩
 exact ⟨k1, k2, fun r hr => (k3 r hr).1, hok, pair_all hO _ hok k4⟩
theorem good_ext {a b : Tb} (ha : Good cf a) (hb : Good cf b) (hv : ∀ s, s ∈ a.vars ↔ s ∈ b.vars) (hr : ∀ r, r ∈ a.rows ↔ r ∈ b.rows) : a = b := by
 have e1 := names_one ha.up hb.up hv
 have e2 := rows_one hO ha.ok ha.rise hb.rise hr
 cases a; cases b
 simp only at e1 e2
 rw [e1, e2]
theorem made_rows {l : List BA} {rs : List Row} (hw : ∀ r, r ∈ rs -> r.length = l.length) (hok : ∀ r, r ∈ rs -> ∀ x, x ∈ r -> okW x) {r : Row} : r ∈ (madeT cf l rs).rows ↔ ∃ x, x ∈ rs /\ pick l x (sortS l) = r := by
 have h := canon_spec hO (rows := rs.map fun r => pick l r (sortS l)) (fun r hr x hx => by
  obtain ⟨q, hq, rfl⟩ := List.mem_map.1 hr
  exact hok q hq x (pick_mem (fun z hz => (sortS_perm l).mem_iff.1 hz) (hw q hq) hx))
 show r ∈ canon cf _ ↔ _
 rw [h.2 r, List.mem_map]
theorem made_good {l : List BA} {rs : List Row} (hn : l.Nodup) (h8 : l.length <= 8) (hw : ∀ r, r ∈ rs -> r.length = l.length) (hok : ∀ r, r ∈ rs -> ∀ x, x ∈ r -> okW x) : Good cf (madeT cf l rs) := by
 have hl : (sortS l).length = l.length := (sortS_perm l).length_eq
 have hmem : ∀ r, r ∈ (madeT cf l rs).rows -> ∃ x, x ∈ rs /\ pick l x (sortS l) = r := fun r hr => (made_rows hO hw hok).1 hr
 refine ⟨by show (sortS l).length <= 8; omega, sortS_pair hn, fun r hr => ?_, fun r hr x hx => ?_, ?_⟩
 ·obtain ⟨x, _, rfl⟩ := hmem r hr
  exact pick_len _ _ _
 ·obtain ⟨q, hq, rfl⟩ := hmem r hr
  exact hok q hq x (pick_mem (fun z hz => (sortS_perm l).mem_iff.1 hz) (hw q hq) hx)
 ·refine (canon_spec hO (rows := rs.map fun r => pick l r (sortS l)) (fun r hr x hx => ?_)).1
  obtain ⟨q, hq, rfl⟩ := List.mem_map.1 hr
  exact hok q hq x (pick_mem (fun z hz => (sortS_perm l).mem_iff.1 hz) (hw q hq) hx)
omit hO in
theorem made_vars {l : List BA} {rs : List Row} {s : BA} : s ∈ (madeT cf l rs).vars ↔ s ∈ l := (sortS_perm l).mem_iff
omit hO in
theorem made_vars_up {l : List BA} {rs : List Row} (hu : l.Pairwise fun a b => ltS a b = true) : (madeT cf l rs).vars = l := sortS_of_pair hu
theorem made_rows_up {l : List BA} {rs : List Row} (hu : l.Pairwise fun a b => ltS a b = true) (hw : ∀ r, r ∈ rs -> r.length = l.length) (hok : ∀ r, r ∈ rs -> ∀ x, x ∈ r -> okW x) {r : Row} : r ∈ (madeT cf l rs).rows ↔ r ∈ rs := by
 rw [made_rows hO hw hok, sortS_of_pair hu]
 constructor
 ·rintro ⟨x, hx, rfl⟩
  rw [pick_all (nodup_of_pair hu) (hw x hx)]; exact hx
 ·intro h
  exact ⟨r, h, pick_all (nodup_of_pair hu) (hw r h)⟩
end
noncomputable abbrev allN (a b : Tb) : List BA := a.vars ++ leftL b.vars a.vars
noncomputable def joinTab (cf : V -> V -> Int) (a b : Tb) : Tb := madeT cf (allN a b) (joinRows a b)
theorem allN_mem {a b : Tb} {s : BA} : s ∈ allN a b ↔ s ∈ a.vars ∨ s ∈ b.vars := by
 unfold allN
 rw [List.mem_append, leftL_mem]
 by_cases h : s ∈ a.vars <;> simp [h]
open Classical in
theorem joinRows_iff {a b : Tb} {r : Row} : r ∈ joinRows a b ↔ ∃ x y, x ∈ a.rows /\ y ∈ b.rows /\ (∀ s, s ∈ a.vars -> s ∈ b.vars -> val b.vars y s = val a.vars x s) /\ r = x ++ pick b.vars y (leftL b.vars a.vars) := by
 have hfit : ∀ {x y : Row}, y ∈ fitRows a b x ↔ y ∈ b.rows /\ ∀ s, s ∈ a.vars -> s ∈ b.vars -> val b.vars y s = val a.vars x s := fun {x y} => by
  unfold fitRows
  rw [List.mem_filter, decide_eq_true_iff, pick_eq]
  constructor
  ·rintro ⟨h1, h2⟩
   exact ⟨h1, fun s p q => h2 s (sharedL_mem.2 ⟨p, q⟩)⟩
  ·rintro ⟨h1, h2⟩
   exact ⟨h1, fun s hs => h2 s (sharedL_mem.1 hs).1 (sharedL_mem.1 hs).2⟩
 unfold joinRows
 rw [List.mem_flatMap]
 constructor
 ·rintro ⟨x, hx, h⟩
  obtain ⟨y, hy, rfl⟩ := List.mem_map.1 h
  exact ⟨x, y, hx, (hfit.1 hy).1, (hfit.1 hy).2, rfl⟩
 ·rintro ⟨x, y, hx, hy, hf, rfl⟩
  exact ⟨x, hx, List.mem_map.2 ⟨y, hfit.2 ⟨hy, hf⟩, rfl⟩⟩
section
variable {cf : V -> V -> Int} {a b : Tb} (ha : Good cf a) (hb : Good cf b)
include ha hb
theorem allN_nodup : (allN a b).Nodup := joinNames_nodup ha.nd hb.nd
theorem join_row {x y : Row} (hx : x ∈ a.rows) (hy : y ∈ b.rows) (hf : ∀ s, s ∈ a.vars -> s ∈ b.vars -> val b.vars y s = val a.vars x s) :
  pick (allN a b) (x ++ pick b.vars y (leftL b.vars a.vars)) a.vars = x /\ pick (allN a b) (x ++ pick b.vars y (leftL b.vars a.vars)) b.vars = y := by
 have hL := allN_nodup ha hb
 constructor
 ·conv => rhs; rw [<- pick_all ha.nd (ha.row x hx)]
  exact pick_eq.2 fun s hs => val_left hL (ha.row x hx) hs
 ·conv => rhs; rw [<- pick_all hb.nd (hb.row y hy)]
  refine pick_eq.2 fun s hs => ?_
  by_cases h : s ∈ a.vars
  ·rw [val_left hL (ha.row x hx) h, hf s h hs]
  ·have hl : s ∈ leftL b.vars a.vars := leftL_mem.2 ⟨hs, h⟩
   rw [val_right hL (ha.row x hx) hl, val_pick (List.nodup_append.1 hL).2.1 hl]
theorem joinRows_ok : ∀ r, r ∈ joinRows a b -> r.length = (allN a b).length /\ ∀ x, x ∈ r -> okW x := joinRows_fine (fun r hr => ⟨ha.row r hr, ha.ok r hr⟩) (fun r hr => ⟨hb.row r hr, hb.ok r hr⟩)
variable (hO : OrdOk okW cf)
include hO
theorem join_good (h8 : (allN a b).length <= 8) : Good cf (joinTab cf a b) := made_good hO (allN_nodup ha hb) h8 (fun r hr => (joinRows_ok ha hb r hr).1) (fun r hr => (joinRows_ok ha hb r hr).2)
theorem join_mem {r : Row} : r ∈ (joinTab cf a b).rows ↔ r.length = (joinTab cf a b).vars.length /\ pick (joinTab cf a b).vars r a.vars ∈ a.rows /\ pick (joinTab cf a b).vars r b.vars ∈ b.rows := by
 have hL := allN_nodup ha hb
 have hS : (joinTab cf a b).vars = sortS (allN a b) := rfl
 have hSn : (sortS (allN a b)).Nodup := (sortS_perm _).nodup_iff.2 hL
 have hSm : ∀ {s}, s ∈ sortS (allN a b) ↔ s ∈ a.vars ∨ s ∈ b.vars := fun {s} => (sortS_perm _).mem_iff.trans allN_mem
 rw [hS]
 unfold joinTab
 rw [made_rows hO (fun r hr => (joinRows_ok ha hb r hr).1) (fun r hr => (joinRows_ok ha hb r hr).2)]
 constructor
 ·rintro ⟨x', hx', rfl⟩
  obtain ⟨x, y, hx, hy, hf, rfl⟩ := joinRows_iff.1 hx'
  obtain ⟨e1, e2⟩ := join_row ha hb hx hy hf
  rw [pick_pick hSn (fun s hs => hSm.2 (.inl hs)), pick_pick hSn (fun s hs => hSm.2 (.inr hs)), e1, e2]
  exact ⟨pick_len _ _ _, hx, hy⟩
 ·rintro ⟨hl, hx, hy⟩
  refine ⟨_, joinRows_iff.2 ⟨_, _, hx, hy, fun s h1 h2 => by rw [val_pick hb.nd h2, val_pick ha.nd h1], rfl⟩, ?_⟩
  refine row_ext hSn (pick_len _ _ _) hl fun s hs => ?_
  rw [val_pick hSn hs]
  by_cases h : s ∈ a.vars
  ·rw [val_left hL (pick_len _ _ _) h, val_pick ha.nd h]
  ·have h2 : s ∈ b.vars := (hSm.1 hs).resolve_left h
   have hl : s ∈ leftL b.vars a.vars := leftL_mem.2 ⟨h2, h⟩
   rw [val_right hL (pick_len _ _ _) hl, val_pick (List.nodup_append.1 hL).2.1 hl, val_pick hb.nd h2]
omit hO in
theorem joinT_good : joinT cf a b = if 8 < (allN a b).length then (30, tNone) else (0, joinTab cf a b) := by
 unfold joinT
 rw [if_neg (by rw [ha.both hb]; simp)]
 rfl
end
theorem join_vars {cf : V -> V -> Int} {a b : Tb} {s : BA} : s ∈ (joinTab cf a b).vars ↔ s ∈ a.vars ∨ s ∈ b.vars := made_vars.trans allN_mem
theorem names_len {l m : List BA} (hl : l.Nodup) (hm : m.Nodup) (h : ∀ s, s ∈ l ↔ s ∈ m) : l.length = m.length :=
 Nat.le_antisymm (nodup_le l m hl fun x hx => (h x).1 hx) (nodup_le m l hm fun x hx => (h x).2 hx)
section
variable {cf : V -> V -> Int} (hO : OrdOk okW cf) {a b c : Tb} (ha : Good cf a) (hb : Good cf b) (hc : Good cf c)
include hO ha
include hb
theorem unionT_like (hv : a.vars = b.vars) : ∃ u, unionT cf a b = (0, u) /\ Good cf u /\ u.vars = a.vars /\ ∀ r, r ∈ u.rows ↔ r ∈ a.rows ∨ r ∈ b.rows := by
 have hw : ∀ r, r ∈ a.rows ++ b.rows -> r.length = a.vars.length := fun r hr => by
  rcases List.mem_append.1 hr with h | h
  ·exact ha.row r h
  ·rw [hv]; exact hb.row r h
 have hk : ∀ r, r ∈ a.rows ++ b.rows -> ∀ x, x ∈ r -> okW x := fun r hr => by
  rcases List.mem_append.1 hr with h | h
  ·exact ha.ok r h
  ·exact hb.ok r h
 refine ⟨madeT cf a.vars (a.rows ++ b.rows), ?_, made_good hO ha.nd ha.len hw hk, made_vars_up ha.up, fun r => by rw [made_rows_up hO ha.up hw hk, List.mem_append]⟩
 unfold unionT
 rw [if_neg (by rw [ha.both hb]; simp), if_neg (by simp [hv])]
include hc
end
end
section
open Go.RowKit
structure Fit14 (t : Tb) : Prop where
 vars : t.vars.length <= 8796093021952
 rows : t.rows.length <= 5864062014634
 row : ∀ r, r ∈ t.rows -> r.length <= 3518437208780
theorem Fit14.small {t : Tb} (h : Fit14 t) : Small t := ⟨by have := h.vars; omega, by have := h.rows; omega, fun r hr => by have := h.row r hr; omega⟩
end
section
open Go.RowKit
theorem OwnTab.on {w0 w w' : World} {v : Value} {t : Tb} (h : OwnTab w0 w v t) (hf : w.Fr w' []) : OwnTab w0 w' v t :=
 h.kept (L := []) hf (h.fr.trans hf (by simp)) (fun _ _ _ _ _ _ => ⟨fun k _ => by simp, fun k _ => by simp, fun i hv r _ _ _ k _ => by simp⟩)
end
section
open Go.RowKit
section
variable {cf : V -> V -> Int} (hO : OrdOk okW cf) {a b : Tb} (ha : Good cf a) (hb : Good cf b)
include hO ha
theorem sub_made {rs : List Row} (hs : ∀ r, r ∈ rs -> r ∈ a.rows) : Good cf (madeT cf a.vars rs) /\ (madeT cf a.vars rs).vars = a.vars /\ ∀ r, r ∈ (madeT cf a.vars rs).rows ↔ r ∈ rs :=
 ⟨made_good hO ha.nd ha.len (fun r hr => ha.row r (hs r hr)) (fun r hr => ha.ok r (hs r hr)), made_vars_up ha.up, fun _ => made_rows_up hO ha.up (fun r hr => ha.row r (hs r hr)) (fun r hr => ha.ok r (hs r hr))⟩
include hb
open Classical in
theorem antiT_good : ∃ n, antiT cf a b = (0, n) /\ Good cf n /\ n.vars = a.vars /\ ∀ r, r ∈ n.rows ↔ r ∈ a.rows /\ ∀ y, y ∈ b.rows -> ¬ ∀ s, s ∈ a.vars -> s ∈ b.vars -> val b.vars y s = val a.vars r s := by
 obtain ⟨g, v, m⟩ := sub_made hO ha (rs := antiRows a b) (fun r hr => (List.mem_filter.1 hr).1)
 refine ⟨_, ?_, g, v, fun r => ?_⟩
 ·unfold antiT
  rw [if_neg (by rw [ha.both hb]; simp)]
 ·rw [m]
  unfold antiRows
  rw [List.mem_filter, decide_eq_true_iff]
  constructor
  ·rintro ⟨h1, h2⟩
   refine ⟨h1, fun y hy hf => h2 y hy (pick_eq.2 fun s hs => hf s (sharedL_mem.1 hs).1 (sharedL_mem.1 hs).2)⟩
  ·rintro ⟨h1, h2⟩
   refine ⟨h1, fun y hy he => h2 y hy fun s p q => pick_eq.1 he s (sharedL_mem.2 ⟨p, q⟩)⟩
omit hb in
theorem rows_nodup : a.rows.Nodup := by
 refine List.Pairwise.imp_of_mem (fun {x y} hx _ hxy e => ?_) ha.rise
 subst e
 have := rcmp_self hO x (ha.ok x hx)
 unfold rlt at hxy
 omega
end
end
section
open Go.RowKit
structure Sn where
 time : Int
 la : Value
 lb : Value
 ra : Value
 rb : Value
 tl : Tb
 tr : Tb
abbrev Sn.cells (k : Sn) : List Value := [.int .i64 k.time, k.la, k.lb, k.ra, k.rb]
structure SeenAt (Q : Nat -> Prop) (w : World) (v : Value) (ks : List Sn) : Prop where
 sl : w.Sl 121 5 v ks.length (ks.flatMap Sn.cells)
 tab : ∀ k, k ∈ ks -> TabIn Q w (.agg #[k.la, k.lb]) k.tl /\ TabIn Q w (.agg #[k.ra, k.rb]) k.tr
structure FS where
 i : Iv
 nt : Bool
 left : List BA
 right : List BA
 pts : List Sn
 told : Int
 time : Int
 parts : Int
 nx : Bool
abbrev fcells (S : FS) (vl vr vp : Value) : Array Value := #[.int .i64 S.i.lo, .int .i64 S.i.hi, .bool S.i.op, .bool S.nt, vl, vr, vp, .int .i64 S.told, .int .i64 S.time, .int .i64 S.parts, .bool S.nx]
structure FutAt (Q : Nat -> Prop) (w : World) (p : Nat) (S : FS) (vl vr vp : Value) : Prop where
 box : w.heap[p]? = some (.cells (fcells S vl vr vp) 119 (0, 0))
 left : w.Sl 9 1 vl S.left.length (S.left.map Value.string)
 right : w.Sl 9 1 vr S.right.length (S.right.map Value.string)
 lw : ∀ s, s ∈ S.left -> s.size <= 9223372036854775807
 rw : ∀ s, s ∈ S.right -> s.size <= 9223372036854775807
 names : (∀ k, k ∈ vl.blk -> Q k) /\ ∀ k, k ∈ vr.blk -> Q k
 pts : SeenAt Q w vp S.pts
theorem SeenAt.fr {Q : Nat -> Prop} {w w' : World} {v : Value} {ks : List Sn} {M : List Nat} (h : SeenAt Q w v ks) (hf : w.Fr w' M) (hM : Odd w M) (hv : ∀ k, k ∈ v.blk -> k ∉ M) : SeenAt Q w' v ks :=
 ⟨h.sl.fr hf hv, fun k hk => ⟨(h.tab k hk).1.fr hf hM, (h.tab k hk).2.fr hf hM⟩⟩
theorem SeenAt.still {Q : Nat -> Prop} {w w' : World} {v : Value} {ks : List Sn} (h : SeenAt Q w v ks) (hf : w.Fr w' []) : SeenAt Q w' v ks := h.fr hf (fun k hk => by simp at hk) (by simp)
theorem FutAt.fr {Q : Nat -> Prop} {w w' : World} {p : Nat} {S : FS} {vl vr vp : Value} {M : List Nat} (h : FutAt Q w p S vl vr vp) (hf : w.Fr w' M) (hM : Odd w M) (hd : ∀ k, k ∈ p :: vp.blk -> k ∉ M) : FutAt Q w' p S vl vr vp :=
 ⟨hf.heap h.box (hd p (by simp)), h.left.fr hf (hM.off h.left (.inl rfl)), h.right.fr hf (hM.off h.right (.inl rfl)), h.lw, h.rw, h.names, h.pts.fr hf hM (fun k hk => hd k (by simp [hk]))⟩
theorem FutAt.still {Q : Nat -> Prop} {w w' : World} {p : Nat} {S : FS} {vl vr vp : Value} (h : FutAt Q w p S vl vr vp) (hf : w.Fr w' []) : FutAt Q w' p S vl vr vp := h.fr hf (fun k hk => by simp at hk) (by simp)
theorem FutAt.rdl {Q : Nat -> Prop} {w : World} {p : Nat} {S : FS} {vl vr vp : Value} (h : FutAt Q w p S vl vr vp) : RdStr w vl S.left := ⟨h.left.rd, h.lw⟩
theorem FutAt.rdr {Q : Nat -> Prop} {w : World} {p : Nat} {S : FS} {vl vr vp : Value} (h : FutAt Q w p S vl vr vp) : RdStr w vr S.right := ⟨h.right.rd, h.rw⟩
theorem FutAt.odd {Q : Nat -> Prop} {w : World} {p : Nat} {S : FS} {vl vr vp : Value} (h : FutAt Q w p S vl vr vp) : Odd w (p :: vp.blk) := by
 intro k hk
 rcases List.mem_cons.1 hk with rfl | hk
 ·exact ⟨_, _, h.box, by decide, by decide, by decide⟩
 ·rcases h.pts.sl.2 with ⟨rfl, _⟩ | ⟨g, off, cap, cur, rfl, hg, _⟩
  ·simp [Value.blk] at hk
  ·simp [Value.blk] at hk
   subst hk
   exact ⟨_, _, hg, by decide, by decide, by decide⟩
theorem flat5 {ks : List Sn} {j : Nat} {k : Sn} (h : ks[j]? = some k) (i : Nat) (hi : i < 5) : (ks.flatMap Sn.cells)[j * 5 + i]? = k.cells[i]? := by
 induction ks generalizing j with
 | nil => simp at h
 | cons a t ih =>
  cases j with
  | zero => simp at h; subst h; simp only [List.flatMap_cons, Nat.zero_mul, Nat.zero_add]; rw [List.getElem?_append_left (by simp [Sn.cells]; omega)]
  | succ j =>
   simp only [List.flatMap_cons]
   rw [List.getElem?_append_right (by simp [Sn.cells]; omega)]
   have := ih (j := j) (by simpa using h)
   rw [show (j + 1) * 5 + i - (Sn.cells a).length = j * 5 + i from by simp [Sn.cells]; omega]
   exact this
theorem SeenAt.at {Q : Nat -> Prop} {w : World} {v : Value} {ks : List Sn} (h : SeenAt Q w v ks) {j : Nat} {k : Sn} (hj : ks[j]? = some k) :
  ∃ g off c, v = .slice (some ⟨g, off, none⟩) ks.length c /\ ks.length <= c /\ g < w.heap.size /\ w.cell? ⟨g, off + j * 5, none⟩ = some (.int .i64 k.time) /\ w.cell? ⟨g, off + j * 5 + 1, none⟩ = some k.la /\ w.cell? ⟨g, off + j * 5 + 2, none⟩ = some k.lb /\ w.cell? ⟨g, off + j * 5 + 3, none⟩ = some k.ra /\ w.cell? ⟨g, off + j * 5 + 4, none⟩ = some k.rb /\ (∀ i, w.frozen? ⟨g, i, none⟩ = false) /\ TabIn Q w (.agg #[k.la, k.lb]) k.tl /\ TabIn Q w (.agg #[k.ra, k.rb]) k.tr := by
 have hjl := (List.getElem?_eq_some_iff.1 hj).1
 obtain ⟨g, off, c, he, hle, _, hg, hc, hf⟩ := h.sl.form (by omega)
 have key : ∀ i, i < 5 -> w.cell? ⟨g, off + j * 5 + i, none⟩ = k.cells[i]? := fun i hi => by
  have := hc (j * 5 + i) (by omega)
  rw [flat5 hj i hi] at this
  rw [Nat.add_assoc]
  exact this
 exact ⟨g, off, c, he, hle, hg, key 0 (by omega), key 1 (by omega), key 2 (by omega), key 3 (by omega), key 4 (by omega), hf, h.tab k (List.mem_of_getElem? hj)⟩
end
end Go.Proofs.YtbejmdlncnkaaaaGreat
