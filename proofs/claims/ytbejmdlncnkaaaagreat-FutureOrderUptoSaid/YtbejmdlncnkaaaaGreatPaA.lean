/-
  Package past: intervals (may, in); tables in a slice; what a point keeps. Package past: what an operator that looks back holds, as it lies; its empty table, its copies. Package past: copies of tables; how an operator begins. Package past: Prev, Once, Since begin. Package past: what is wrong with a step's arguments.
-/
import Derived.Test.YtbejmdlncnkaaaaGreatMad
import Derived.Test.YtbejmdlncnkaaaaGreatCol
namespace Go.Proofs.YtbejmdlncnkaaaaGreat
open Go.RowKit

/-- an interval -/
structure Iv where
  lo : Int
  hi : Int
  op : Bool
abbrev ivV (i : Iv) : Value := .agg #[.int .i64 i.lo, .int .i64 i.hi, .bool i.op]
def ivB (i : Iv) : Bool := if i.op then decide (0 ≤ i.lo) && decide (i.lo ≤ 1099511627776) && (i.hi == 0) else decide (0 ≤ i.lo) && decide (i.lo ≤ i.hi) && decide (i.hi ≤ 1099511627776)
def inB (n : Int) (i : Iv) : Bool := decide (i.lo ≤ n) && (i.op || decide (n ≤ i.hi))

theorem tri {w : World} {p : Nat} {t : TypeId} {a b c : Value} (hh : w.heap[p]? = some (.cells #[a, b, c] t (0, 0))) :
    w.cell? ⟨p, 0, none⟩ = some a ∧ w.cell? ⟨p, 1, none⟩ = some b ∧ w.cell? ⟨p, 2, none⟩ = some c ∧ ∀ j, w.frozen? ⟨p, j, none⟩ = false := by
  refine ⟨?_, ?_, ?_, fun j => frozen_of_row w p j _ _ hh⟩ <;> simp [World.cell?, hh]
theorem ten {w : World} {p : Nat} {t : TypeId} {a b c d e f g h i j : Value} (hh : w.heap[p]? = some (.cells #[a, b, c, d, e, f, g, h, i, j] t (0, 0))) :
    w.cell? ⟨p, 0, none⟩ = some a ∧ w.cell? ⟨p, 1, none⟩ = some b ∧ w.cell? ⟨p, 2, none⟩ = some c ∧ w.cell? ⟨p, 3, none⟩ = some d ∧ w.cell? ⟨p, 4, none⟩ = some e ∧ w.cell? ⟨p, 5, none⟩ = some f ∧ w.cell? ⟨p, 6, none⟩ = some g ∧ w.cell? ⟨p, 7, none⟩ = some h ∧ w.cell? ⟨p, 8, none⟩ = some i ∧ w.cell? ⟨p, 9, none⟩ = some j ∧ ∀ j, w.frozen? ⟨p, j, none⟩ = false := by
  refine ⟨?_, ?_, ?_, ?_, ?_, ?_, ?_, ?_, ?_, ?_, fun j => frozen_of_row w p j _ _ hh⟩ <;> simp [World.cell?, hh]

/-- tables in a slice -/
structure RdTabs (w : World) (v : Value) (ts : List Tb) : Prop where
  ex : ∃ xs : List (Value × Value), xs.length = ts.length ∧ w.Rd 2 v ts.length (xs.flatMap fun x => [x.1, x.2]) ∧ ∀ (j : Nat) (x : Value × Value) (t : Tb), xs[j]? = some x → ts[j]? = some t → RdTab w (.agg #[x.1, x.2]) t
theorem RdTabs.still {w w' : World} {v : Value} {ts : List Tb} (h : RdTabs w v ts) (hf : w.Fr w' []) : RdTabs w' v ts := by
  obtain ⟨xs, h1, h2, h3⟩ := h.ex
  exact ⟨xs, h1, h2.fr hf (by simp), fun j x t a b => (h3 j x t a b).still hf⟩
theorem RdTabs.shape {w : World} {v : Value} {ts : List Tb} (h : RdTabs w v ts) : ∃ a c, v = .slice a ts.length c := by
  obtain ⟨xs, h1, h2, h3⟩ := h.ex
  obtain ⟨a, c, e, _⟩ := h2.shape
  exact ⟨a, c, e⟩
theorem flat2 {xs : List (Value × Value)} {j : Nat} {x : Value × Value} (h : xs[j]? = some x) : (xs.flatMap fun x => [x.1, x.2])[j * 2]? = some x.1 ∧ (xs.flatMap fun x => [x.1, x.2])[j * 2 + 1]? = some x.2 := by
  induction xs generalizing j with
  | nil => simp at h
  | cons a t ih =>
    cases j with
    | zero => simp at h; subst h; simp
    | succ j =>
      have h' : t[j]? = some x := by simpa using h
      obtain ⟨i1, i2⟩ := ih h'
      simp only [List.flatMap_cons]
      rw [List.getElem?_append_right (by simp; omega), List.getElem?_append_right (by simp; omega)]
      have e1 : (j + 1) * 2 - [a.1, a.2].length = j * 2 := by simp; omega
      have e2 : (j + 1) * 2 + 1 - [a.1, a.2].length = j * 2 + 1 := by simp; omega
      rw [e1, e2]
      exact ⟨i1, i2⟩
/-- a table in a slice of them -/
theorem RdTabs.at {w : World} {v : Value} {ts : List Tb} (h : RdTabs w v ts) {j : Nat} {t : Tb} (hj : ts[j]? = some t) :
    ∃ g off c a1 a2 a3 a4, v = .slice (some ⟨g, off, none⟩) ts.length c ∧ g < w.heap.size ∧ w.cell? ⟨g, off + j * 2, none⟩ = some (.slice a1 t.vars.length a2) ∧ w.cell? ⟨g, off + j * 2 + 1, none⟩ = some (.slice a3 t.rows.length a4) ∧ RdTab w (.agg #[.slice a1 t.vars.length a2, .slice a3 t.rows.length a4]) t := by
  obtain ⟨xs, h1, h2, h3⟩ := h.ex
  have hjl := (List.getElem?_eq_some_iff.1 hj).1
  obtain ⟨x, hx⟩ : ∃ x, xs[j]? = some x := ⟨xs[j]'(by omega), List.getElem?_eq_getElem (by omega)⟩
  have hr := h3 j x t hx hj
  obtain ⟨g, off, c, he, _, _, hg, hc⟩ := h2.form (by omega)
  obtain ⟨f1, f2⟩ := flat2 hx
  have c1 := hc (j * 2) (by omega)
  have c2 := hc (j * 2 + 1) (by omega)
  rw [f1] at c1
  rw [f2] at c2
  obtain ⟨va, vb, hs, hxe, hv, hrr⟩ := hr.ex
  cases hxe
  obtain ⟨a1, a2, e1, _, _⟩ := hv.rd.shape
  obtain ⟨a3, a4, e2, _, _⟩ := hrr.rd.shape
  rw [hrr.len] at e2
  rw [e1] at c1
  rw [e2] at c2
  rw [e1, e2] at hr
  exact ⟨g, off, c, a1, a2, a3, a4, he, hg, c1, by rw [Nat.add_assoc]; exact c2, hr⟩
end Go.Proofs.YtbejmdlncnkaaaaGreat
namespace Go.Proofs.YtbejmdlncnkaaaaGreat
open Go.RowKit

/-- blocks that hold neither names nor rows nor values -/
def Odd (w : World) (M : List Nat) : Prop := ∀ k, k ∈ M → ∃ cs T, w.heap[k]? = some (.cells cs T (0, 0)) ∧ T ≠ 9 ∧ T ≠ 81 ∧ T ≠ 83
theorem Odd.off {w : World} {M : List Nat} (h : Odd w M) {e : TypeId} {s n : Nat} {v : Value} {xs : List Value} (hs : w.Sl e s v n xs) (he : e = 9 ∨ e = 81 ∨ e = 83) : ∀ k, k ∈ v.blk → k ∉ M := by
  intro k hk hm
  obtain ⟨cs, T, hc, h1, h2, h3⟩ := h k hm
  exact sl_box hs hc (by rcases he with rfl | rfl | rfl <;> (intro e; subst e; contradiction)) k hk rfl
/-- a table that lies in blocks of its kinds -/
structure SlTab (w : World) (v : Value) (t : Tb) : Prop where
  ex : ∃ a b hs, v = .agg #[a, b] ∧ w.Sl 9 1 a t.vars.length (t.vars.map Value.string) ∧ w.Sl 81 1 b hs.length hs ∧ hs.length = t.rows.length ∧ ∀ (i : Nat) (hv : Value) (r : Row), hs[i]? = some hv → t.rows[i]? = some r → w.Sl 83 4 hv r.length (r.flatMap V.enc)
  wf : (∀ s, s ∈ t.vars → s.size ≤ 9223372036854775807) ∧ ∀ r, r ∈ t.rows → ∀ v, v ∈ r → v.wf
theorem OwnTab.stay {w0 w w' : World} {v : Value} {t : Tb} (h : OwnTab w0 w v t) (hf : w.Fr w' []) : OwnTab w0 w' v t :=
  h.kept (L := []) hf (h.fr.trans hf (by simp)) (fun _ _ _ _ _ _ => ⟨fun k _ => by simp, fun k _ => by simp, fun i hv r _ _ _ k _ => by simp⟩)
theorem OwnTab.sl {w0 w : World} {v : Value} {t : Tb} (h : OwnTab w0 w v t) : SlTab w v t := by
  obtain ⟨a, b, hs, hv, h1, h2, h3, h4, h5, h6⟩ := h.ex
  exact ⟨⟨a, b, hs, hv, h1, h2, h3, fun i hv r e1 e2 => (h6 i hv r e1 e2).1⟩, h.wf⟩
theorem SlTab.fr {w w' : World} {v : Value} {t : Tb} {M : List Nat} (h : SlTab w v t) (hf : w.Fr w' M) (hM : Odd w M) : SlTab w' v t := by
  obtain ⟨a, b, hs, hv, h1, h2, h3, h4⟩ := h.ex
  exact ⟨⟨a, b, hs, hv, h1.fr hf (hM.off h1 (.inl rfl)), h2.fr hf (hM.off h2 (.inr (.inl rfl))), h3, fun i hv r e1 e2 => (h4 i hv r e1 e2).fr hf (hM.off (h4 i hv r e1 e2) (.inr (.inr rfl)))⟩, h.wf⟩
theorem SlTab.still {w w' : World} {v : Value} {t : Tb} (h : SlTab w v t) (hf : w.Fr w' []) : SlTab w' v t := h.fr hf (fun k hk => by simp at hk)
theorem SlTab.rd {w : World} {v : Value} {t : Tb} (h : SlTab w v t) : RdTab w v t := by
  obtain ⟨a, b, hs, hv, h1, h2, h3, h4⟩ := h.ex
  exact ⟨a, b, hs, hv, ⟨h1.rd, h.wf.1⟩, ⟨h2.rd, h3, fun i hv r ha hb => ⟨(h4 i hv r ha hb).rd, h.wf.2 r (List.mem_of_getElem? hb)⟩⟩⟩
theorem SlTab.shape {w : World} {a b : Value} {t : Tb} (h : SlTab w (.agg #[a, b]) t) : ∃ a1 a2 a3 a4, a = .slice a1 t.vars.length a2 ∧ b = .slice a3 t.rows.length a4 := by
  obtain ⟨x, y, hs, he, h1, h2, h3, _⟩ := h.ex
  cases he
  obtain ⟨a1, a2, e1, _⟩ := h1.shape
  obtain ⟨a3, a4, e2, _⟩ := h2.shape
  rw [h3] at e2
  exact ⟨a1, a2, a3, a4, e1, e2⟩

/-- what a point keeps: its time, its table as it lies -/
structure Kp where
  time : Int
  a : Value
  b : Value
  t : Tb
abbrev Kp.cells (k : Kp) : List Value := [.int .i64 k.time, k.a, k.b]
/-- the points kept, as they lie -/
structure KeptAt (w : World) (v : Value) (ks : List Kp) : Prop where
  sl : w.Sl 115 3 v ks.length (ks.flatMap Kp.cells)
  tab : ∀ k, k ∈ ks → SlTab w (.agg #[k.a, k.b]) k.t
/-- an operator's state -/
structure PS where
  i : Iv
  nt : Bool
  left : List BA
  right : List BA
  time : Int
  waits : List Kp
  fn : Nat
  parts : Int
abbrev pcells10 (S : PS) (vl vr vw : Value) : Array Value := #[.int .i64 S.i.lo, .int .i64 S.i.hi, .bool S.i.op, .bool S.nt, vl, vr, .int .i64 S.time, vw, .func (.func S.fn) #[] #[], .int .i64 S.parts]
structure PastAt (w : World) (p : Nat) (S : PS) (vl vr vw : Value) : Prop where
  box : w.heap[p]? = some (.cells (pcells10 S vl vr vw) 96 (0, 0))
  left : w.Sl 9 1 vl S.left.length (S.left.map Value.string)
  right : w.Sl 9 1 vr S.right.length (S.right.map Value.string)
  lw : ∀ s, s ∈ S.left → s.size ≤ 9223372036854775807
  rw : ∀ s, s ∈ S.right → s.size ≤ 9223372036854775807
  kept : KeptAt w vw S.waits
theorem KeptAt.fr {w w' : World} {v : Value} {ks : List Kp} {M : List Nat} (h : KeptAt w v ks) (hf : w.Fr w' M) (hM : Odd w M) (hv : ∀ k, k ∈ v.blk → k ∉ M) : KeptAt w' v ks :=
  ⟨h.sl.fr hf hv, fun k hk => (h.tab k hk).fr hf hM⟩
theorem KeptAt.still {w w' : World} {v : Value} {ks : List Kp} (h : KeptAt w v ks) (hf : w.Fr w' []) : KeptAt w' v ks := h.fr hf (fun k hk => by simp at hk) (by simp)
theorem PastAt.still {w w' : World} {p : Nat} {S : PS} {vl vr vw : Value} (h : PastAt w p S vl vr vw) (hf : w.Fr w' []) : PastAt w' p S vl vr vw :=
  ⟨hf.heap h.box (by simp), h.left.fr hf (by simp), h.right.fr hf (by simp), h.lw, h.rw, h.kept.still hf⟩
theorem PastAt.rdl {w : World} {p : Nat} {S : PS} {vl vr vw : Value} (h : PastAt w p S vl vr vw) : RdStr w vl S.left := ⟨h.left.rd, h.lw⟩
theorem PastAt.rdr {w : World} {p : Nat} {S : PS} {vl vr vw : Value} (h : PastAt w p S vl vr vw) : RdStr w vr S.right := ⟨h.right.rd, h.rw⟩
/-- the blocks that a step may write: none of them holds a table's parts -/
theorem PastAt.odd {w : World} {p : Nat} {S : PS} {vl vr vw : Value} (h : PastAt w p S vl vr vw) : Odd w (p :: vw.blk) := by
  intro k hk
  rcases List.mem_cons.1 hk with rfl | hk
  · exact ⟨_, _, h.box, by decide, by decide, by decide⟩
  · rcases h.kept.sl.2 with ⟨rfl, _⟩ | ⟨g, off, cap, cur, rfl, hg, _⟩
    · simp [Value.blk] at hk
    · simp [Value.blk] at hk
      subst hk
      exact ⟨_, _, hg, by decide, by decide, by decide⟩

/-- names that rise: the empty table of them -/
theorem ofT_none {cf : V → V → Int} {l : List BA} (hu : l.Pairwise fun a b => ltS a b = true) (h8 : l.length ≤ 8) : ofT cf l [] = (0, ⟨l, []⟩) := by
  unfold ofT
  rw [if_neg (fun h => h.elim (fun h => by omega) (fun h => h (nodup_of_pair hu)))]
  have h0 : rowsErr l.length [] = 0 := rfl
  rw [if_pos h0]
  have hc : canon cf [] = [] := by
    unfold canon
    split
    · rename_i hx
      obtain ⟨_, h2⟩ := Classical.choose_spec hx
      exact List.eq_nil_iff_forall_not_mem.2 fun r hr => by simpa using (h2 r).1 hr
    · rfl
  unfold madeT
  rw [sortS_of_pair hu, List.map_nil, hc]

end Go.Proofs.YtbejmdlncnkaaaaGreat
namespace Go.Proofs.YtbejmdlncnkaaaaGreat
open Go.RowKit

theorem pick_own {l : List BA} (hn : l.Nodup) {r : Row} (hr : r.length = l.length) : pick l r l = r := by
  apply List.ext_getElem?
  intro i
  unfold pick
  rw [List.getElem?_map]
  by_cases hi : i < l.length
  · rw [List.getElem?_eq_getElem hi, Option.map_some, idx_self hn i hi, Int.toNat_natCast, List.getD_eq_getElem?_getD, List.getElem?_eq_getElem (by omega)]
    rfl
  · rw [List.getElem?_eq_none (by omega), List.getElem?_eq_none (by omega)]
    rfl
theorem vchecks_nil : ∀ r : Row, (∀ x, x ∈ r → vcheck x = 0) → vchecks r = 0
  | [], _ => rfl
  | a :: t, h => by
    unfold vchecks
    rw [if_pos (h a (by simp))]
    exact vchecks_nil t (fun x hx => h x (by simp [hx]))
theorem rowsErr_nil {n : Nat} : ∀ rs : List Row, (∀ r, r ∈ rs → rowCheck n r = 0) → rowsErr n rs = 0
  | [], _ => rfl
  | a :: t, h => by
    unfold rowsErr
    rw [if_pos (h a (by simp))]
    exact rowsErr_nil t (fun x hx => h x (by simp [hx]))
/-- a table that may be is what Of tells of its own parts -/
theorem ofT_own {cf : V → V → Int} (hO : OrdOk (fun v => V.wf v ∧ vcheck v = 0) cf) {t : Tb} (h : tcheck cf t = 0) (hw : ∀ r, r ∈ t.rows → ∀ x, x ∈ r → V.wf x) : ofT cf t.vars t.rows = (0, t) := by
  obtain ⟨k1, k2, k3, k4⟩ := tcheck_zero h
  have hok : ∀ r, r ∈ t.rows → ∀ x, x ∈ r → V.wf x ∧ vcheck x = 0 := fun r hr x hx => ⟨hw r hr x hx, (k3 r hr).2 x hx⟩
  have hp := pair_all hO t.rows hok k4
  unfold ofT
  rw [if_neg (fun h => h.elim (fun h => by omega) (fun h => h (nodup_of_pair k2))), if_pos (rowsErr_nil _ fun r hr => by unfold rowCheck; rw [if_pos (k3 r hr).1]; exact vchecks_nil r (k3 r hr).2)]
  congr 1
  unfold madeT
  rw [sortS_of_pair k2]
  have hm : (t.rows.map fun r => pick t.vars r t.vars) = t.rows := by
    conv => rhs; rw [← List.map_id t.rows]
    exact List.map_congr_left fun r hr => pick_own (nodup_of_pair k2) (k3 r hr).1
  rw [hm, canon_eq hO hok hp (fun _ => Iff.rfl)]
theorem ofT_nil {cf : V → V → Int} {l : List BA} : ofT cf l [] = if 8 < l.length ∨ ¬ l.Nodup then (30, ⟨[], []⟩) else (0, ⟨sortS l, []⟩) := by
  unfold ofT
  by_cases h : 8 < l.length ∨ ¬ l.Nodup
  · rw [if_pos h, if_pos h]
  · rw [if_neg h, if_neg h]
    have h0 : rowsErr l.length [] = 0 := rfl
    rw [if_pos h0]
    congr 1
    have hc : canon cf [] = [] := by
      unfold canon
      split
      · rename_i hx
        obtain ⟨_, h2⟩ := Classical.choose_spec hx
        exact List.eq_nil_iff_forall_not_mem.2 fun r hr => by simpa using (h2 r).1 hr
      · rfl
    unfold madeT
    rw [List.map_nil, hc]

/-- names that may be a table's -/
def NamesOk (l : List BA) : Prop := l.length ≤ 8 ∧ l.Nodup
open Classical in
/-- what is told of an operator that is to begin -/
noncomputable def beginE (i : Iv) (l r : List BA) : Int := if ivB i = false then 1 else if ¬ NamesOk l ∨ ¬ NamesOk r then 30 else if ∀ s, s ∈ l → s ∈ r then 0 else 30
abbrev beginS (i : Iv) (nt : Bool) (l r : List BA) (fn : Nat) (parts : Int) : PS := ⟨i, nt, sortS l, sortS r, -1, [], fn, parts⟩
theorem ofT_ok {cf : V → V → Int} {l : List BA} (h : NamesOk l) : ofT cf l [] = (0, ⟨sortS l, []⟩) := by
  rw [ofT_nil, if_neg (fun h' => h'.elim (fun h1 => by have := h.1; omega) (fun h1 => h1 h.2))]
theorem ofT_bad {cf : V → V → Int} {l : List BA} (h : ¬ NamesOk l) : ofT cf l [] = (30, ⟨[], []⟩) := by
  rw [ofT_nil, if_pos]
  by_cases h8 : 8 < l.length
  · exact .inl h8
  · exact .inr fun hn => h ⟨by omega, hn⟩
theorem sortS_up {l : List BA} (h : NamesOk l) : ((sortS l).Pairwise fun a b => ltS a b = true) ∧ (sortS l).length ≤ 8 := ⟨sortS_pair h.2, by have := (sortS_perm l).length_eq; have := h.1; omega⟩
end Go.Proofs.YtbejmdlncnkaaaaGreat
namespace Go.Proofs.YtbejmdlncnkaaaaGreat
open Go.RowKit
theorem RdStr.none (w : World) : RdStr w (.slice none 0 0) [] := ⟨rdNil w 1, by simp⟩

end Go.Proofs.YtbejmdlncnkaaaaGreat
namespace Go.Proofs.YtbejmdlncnkaaaaGreat
open Go.RowKit

theorem eqq106 {w : World} {v1 v2 : Value} {r s : List BA} (h1 : RdStr w v1 r) (h2 : RdStr w v2 s) (hl : r.length ≤ 9223372036854775807) (hm : s.length ≤ 9223372036854775807) :
    Calls Tryz.prog 106 #[v1, v2] w fun e w' => e = .returned (.bool (eqB r s)) ∧ ∃ q, w' = w.drewN q := by
  obtain ⟨a1, c1, rfl, _, _⟩ := h1.rd.shape
  obtain ⟨a2, c2, rfl, _, _⟩ := h2.rd.shape
  by_cases hn : r.length = s.length
  · by_cases h0 : r.length = 0
    · have hr : r = [] := List.length_eq_zero_iff.1 h0
      have hs : s = [] := List.length_eq_zero_iff.1 (hn.symm.trans h0)
      subst hr hs
      refine (Tryz.slices_Equal_string_empty a1 a2 c1 0 c2 w (by omega)).mono ?_
      rintro e w' ⟨rfl, rfl⟩
      exact ⟨by rw [eqB_true rfl]; rfl, 0, rfl⟩
    · obtain ⟨g1, o1, d1, e1, _, _, _, k1⟩ := h1.rd.form (by omega)
      obtain ⟨g2, o2, d2, e2, _, _, _, k2⟩ := h2.rd.form (by omega)
      cases e1; cases e2
      refine (Tryz.slices_Equal_string g1 o1 r.length c1 g2 o2 s.length c2 r s w (Nat.le_refl _) (Nat.le_refl _) hl hm ?_ ?_).mono ?_
      · intro j hj
        rw [k1 j (by omega), List.getElem?_map, List.getElem?_eq_getElem hj, List.getD_eq_getElem?_getD, List.getElem?_eq_getElem hj]
        rfl
      · intro j hj
        rw [k2 j (by omega), List.getElem?_map, List.getElem?_eq_getElem hj, List.getD_eq_getElem?_getD, List.getElem?_eq_getElem hj]
        rfl
      · rintro e w' ⟨rfl, q⟩
        exact ⟨by rw [List.take_length, List.take_length]; simp [eqB], q⟩
  · refine (Tryz.slices_Equal_string_lens a1 a2 r.length c1 s.length c2 w hn).mono ?_
    rintro e w' ⟨rfl, rfl⟩
    exact ⟨by rw [eqB_false (fun h => hn (by rw [h]))], 0, rfl⟩

/-- the first trouble of tables -/
noncomputable def firstBad (cf : V → V → Int) : List Tb → Int
  | [] => 0
  | t :: ts => if tcheck cf t = 0 then firstBad cf ts else tcheck cf t
theorem firstBad_append {cf : V → V → Int} (a b : List Tb) : firstBad cf (a ++ b) = if firstBad cf a = 0 then firstBad cf b else firstBad cf a := by
  induction a with
  | nil => simp [firstBad]
  | cons x t ih =>
    simp only [List.cons_append, firstBad]
    by_cases h : tcheck cf x = 0
    · simp only [if_pos h]; exact ih
    · simp only [if_neg h]
theorem firstBad_step {cf : V → V → Int} {ts : List Tb} {j : Nat} {t : Tb} (hj : ts[j]? = some t) (h0 : firstBad cf (ts.take j) = 0) : firstBad cf (ts.take (j + 1)) = tcheck cf t := by
  have hlt := (List.getElem?_eq_some_iff.1 hj).1
  rw [List.take_succ_eq_append_getElem hlt, (List.getElem?_eq_some_iff.1 hj).2, firstBad_append, if_pos h0]
  unfold firstBad
  by_cases h : tcheck cf t = 0
  · rw [if_pos h, h]; rfl
  · rw [if_neg h]
theorem firstBad_found {cf : V → V → Int} {ts : List Tb} {j : Nat} {t : Tb} (hj : ts[j]? = some t) (h0 : firstBad cf (ts.take j) = 0) (h : tcheck cf t ≠ 0) : firstBad cf ts = tcheck cf t := by
  conv => lhs; rw [← List.take_append_drop (j + 1) ts]
  rw [firstBad_append, firstBad_step hj h0, if_neg h]
theorem firstBad_zero {cf : V → V → Int} {ts : List Tb} (h : firstBad cf ts = 0) : ∀ t, t ∈ ts → tcheck cf t = 0 := by
  induction ts with
  | nil => simp
  | cons x t ih =>
    unfold firstBad at h
    by_cases hx : tcheck cf x = 0
    · rw [if_pos hx] at h
      intro y hy
      rcases List.mem_cons.1 hy with rfl | hy
      · exact hx
      · exact ih h y hy
    · rw [if_neg hx] at h
      exact absurd h hx
open Classical in
/-- what is wrong with a step -/
noncomputable def wrongE (cf : V → V → Int) (S : PS) (n : Int) (ts : List Tb) : Int :=
  if n < 0 ∨ 1099511627776 < n ∨ n < S.time then 80
  else if (ts.length : Int) ≠ S.parts then 1
  else if firstBad cf ts ≠ 0 then firstBad cf ts
  else if (S.parts = 2 ∧ ∃ t, ts[0]? = some t ∧ t.vars ≠ S.left) ∨ (∃ t, ts[ts.length - 1]? = some t ∧ t.vars ≠ S.right) then 30 else 0

end Go.Proofs.YtbejmdlncnkaaaaGreat
