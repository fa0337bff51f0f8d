/-
  Package past: intervals (may, in); tables in a slice; what a point keeps. Package past: what an operator that looks back holds, as it lies; its empty table, its copies. The walks of slices.Index, Contains of numbers, table.columns. The walk of table.Project. Package past: copies of tables; how an operator begins. Package past: Prev, Once, Since begin. Package past: what is wrong with a step's arguments. The walk of table.Drop.
-/
import Derived.Test.YtbejmdlncnkaaaaGreatMad
namespace Go.Proofs.YtbejmdlncnkaaaaGreat
section
open Go.RowKit
structure Iv where
 lo : Int
 hi : Int
 op : Bool
abbrev ivV (i : Iv) : Value := .agg #[.int .i64 i.lo, .int .i64 i.hi, .bool i.op]
def ivB (i : Iv) : Bool := if i.op then decide (0 <= i.lo) && decide (i.lo <= 1099511627776) && (i.hi == 0) else decide (0 <= i.lo) && decide (i.lo <= i.hi) && decide (i.hi <= 1099511627776)
def inB (n : Int) (i : Iv) : Bool := decide (i.lo <= n) && (i.op || decide (n <= i.hi))
theorem tri {w : World} {p : Nat} {t : TypeId} {a b c : Value} (hh : w.heap[p]? = some (.cells #[a, b, c] t (0, 0))) :
  w.cell? ⟨p, 0, none⟩ = some a /\ w.cell? ⟨p, 1, none⟩ = some b /\ w.cell? ⟨p, 2, none⟩ = some c /\ ∀ j, w.frozen? ⟨p, j, none⟩ = false := by
 refine ⟨?_, ?_, ?_, fun j => frozen_of_row w p j _ _ hh⟩ <;> simp [World.cell?, hh]
theorem ten {w : World} {p : Nat} {t : TypeId} {a b c d e f g h i j : Value} (hh : w.heap[p]? = some (.cells #[a, b, c, d, e, f, g, h, i, j] t (0, 0))) :
  w.cell? ⟨p, 0, none⟩ = some a /\ w.cell? ⟨p, 1, none⟩ = some b /\ w.cell? ⟨p, 2, none⟩ = some c /\ w.cell? ⟨p, 3, none⟩ = some d /\ w.cell? ⟨p, 4, none⟩ = some e /\ w.cell? ⟨p, 5, none⟩ = some f /\ w.cell? ⟨p, 6, none⟩ = some g /\ w.cell? ⟨p, 7, none⟩ = some h /\ w.cell? ⟨p, 8, none⟩ = some i /\ w.cell? ⟨p, 9, none⟩ = some j /\ ∀ j, w.frozen? ⟨p, j, none⟩ = false := by
 refine ⟨?_, ?_, ?_, ?_, ?_, ?_, ?_, ?_, ?_, ?_, fun j => frozen_of_row w p j _ _ hh⟩ <;> simp [World.cell?, hh]
structure RdTabs (w : World) (v : Value) (ts : List Tb) : Prop where
 ex : ∃ xs : List (Value × Value), xs.length = ts.length /\ w.Rd 2 v ts.length (xs.flatMap fun x => [x.1, x.2]) /\ ∀ (j : Nat) (x : Value × Value) (t : Tb), xs[j]? = some x -> ts[j]? = some t -> RdTab w (.agg #[x.1, x.2]) t
theorem RdTabs.still {w w' : World} {v : Value} {ts : List Tb} (h : RdTabs w v ts) (hf : w.Fr w' []) : RdTabs w' v ts := by
 obtain ⟨xs, h1, h2, h3⟩ := h.ex
 exact ⟨xs, h1, h2.fr hf (by simp), fun j x t a b => (h3 j x t a b).still hf⟩
theorem RdTabs.shape {w : World} {v : Value} {ts : List Tb} (h : RdTabs w v ts) : ∃ a c, v = .slice a ts.length c := by
 obtain ⟨xs, h1, h2, h3⟩ := h.ex
 obtain ⟨a, c, e, _⟩ := h2.shape
 exact ⟨a, c, e⟩
theorem flat2 {xs : List (Value × Value)} {j : Nat} {x : Value × Value} (h : xs[j]? = some x) : (xs.flatMap fun x => [x.1, x.2])[j * 2]? = some x.1 /\ (xs.flatMap fun x => [x.1, x.2])[j * 2 + 1]? = some x.2 := by
 induction xs generalizing j with
 | nil => simp at h
 | cons a t ih =>
  cases j with
  | zero => simp at h; subst h; simp
  | succ j =>
   have h' : t[j]? = some x := by simpa using h
   obtain ⟨i1, i2⟩ := ih h'
   simp only [List.flatMap_cons]
   rw [List.getElem?_append_right (by simp; omega), List.getElem?_append_right (by simp; omega)]
   have e1 : (j + 1) * 2 - [a.1, a.2].length = j * 2 := by simp; omega
   have e2 : (j + 1) * 2 + 1 - [a.1, a.2].length = j * 2 + 1 := by simp; omega
   rw [e1, e2]
   exact ⟨i1, i2⟩
theorem RdTabs.at {w : World} {v : Value} {ts : List Tb} (h : RdTabs w v ts) {j : Nat} {t : Tb} (hj : ts[j]? = some t) :
  ∃ g off c a1 a2 a3 a4, v = .slice (some ⟨g, off, none⟩) ts.length c /\ g < w.heap.size /\ w.cell? ⟨g, off + j * 2, none⟩ = some (.slice a1 t.vars.length a2) /\ w.cell? ⟨g, off + j * 2 + 1, none⟩ = some (.slice a3 t.rows.length a4) /\ RdTab w (.agg #[.slice a1 t.vars.length a2, .slice a3 t.rows.length a4]) t := by
 obtain ⟨xs, h1, h2, h3⟩ := h.ex
 have hjl := (List.getElem?_eq_some_iff.1 hj).1
 obtain ⟨x, hx⟩ : ∃ x, xs[j]? = some x := ⟨xs[j]'(by omega), List.getElem?_eq_getElem (by omega)⟩
 have hr := h3 j x t hx hj
 obtain ⟨g, off, c, he, _, _, hg, hc⟩ := h2.form (by omega)
 obtain ⟨f1, f2⟩ := flat2 hx
 have c1 := hc (j * 2) (by omega)
 have c2 := hc (j * 2 + 1) (by omega)
 rw [f1] at c1
 rw [f2] at c2
 obtain ⟨va, vb, hs, hxe, hv, hrr⟩ := hr.ex
 cases hxe
 obtain ⟨a1, a2, e1, _, _⟩ := hv.rd.shape
 obtain ⟨a3, a4, e2, _, _⟩ := hrr.rd.shape
 rw [hrr.len] at e2
 rw [e1] at c1
 rw [e2] at c2
 rw [e1, e2] at hr
 exact ⟨g, off, c, a1, a2, a3, a4, he, hg, c1, by rw [Nat.add_assoc]; exact c2, hr⟩
end
section
open Go.RowKit
def Odd (w : World) (M : List Nat) : Prop := ∀ k, k ∈ M -> ∃ cs T, w.heap[k]? = some (.cells cs T (0, 0)) /\ T ≠ 9 /\ T ≠ 81 /\ T ≠ 83
theorem Odd.off {w : World} {M : List Nat} (h : Odd w M) {e : TypeId} {s n : Nat} {v : Value} {xs : List Value} (hs : w.Sl e s v n xs) (he : e = 9 ∨ e = 81 ∨ e = 83) : ∀ k, k ∈ v.blk -> k ∉ M := by
 intro k hk hm
 obtain ⟨cs, T, hc, h1, h2, h3⟩ := h k hm
 exact sl_box hs hc (by rcases he with rfl | rfl | rfl <;> (intro e; subst e; contradiction)) k hk rfl
structure SlTab (w : World) (v : Value) (t : Tb) : Prop where
 ex : ∃ a b hs, v = .agg #[a, b] /\ w.Sl 9 1 a t.vars.length (t.vars.map Value.string) /\ w.Sl 81 1 b hs.length hs /\ hs.length = t.rows.length /\ ∀ (i : Nat) (hv : Value) (r : Row), hs[i]? = some hv -> t.rows[i]? = some r -> w.Sl 83 4 hv r.length (r.flatMap V.enc)
 wf : (∀ s, s ∈ t.vars -> s.size <= 9223372036854775807) /\ ∀ r, r ∈ t.rows -> ∀ v, v ∈ r -> v.wf
theorem OwnTab.stay {w0 w w' : World} {v : Value} {t : Tb} (h : OwnTab w0 w v t) (hf : w.Fr w' []) : OwnTab w0 w' v t :=
 h.kept (L := []) hf (h.fr.trans hf (by simp)) (fun _ _ _ _ _ _ => ⟨fun k _ => by simp, fun k _ => by simp, fun i hv r _ _ _ k _ => by simp⟩)
theorem OwnTab.sl {w0 w : World} {v : Value} {t : Tb} (h : OwnTab w0 w v t) : SlTab w v t := by
 obtain ⟨a, b, hs, hv, h1, h2, h3, h4, h5, h6⟩ := h.ex
 exact ⟨⟨a, b, hs, hv, h1, h2, h3, fun i hv r e1 e2 => (h6 i hv r e1 e2).1⟩, h.wf⟩
theorem SlTab.fr {w w' : World} {v : Value} {t : Tb} {M : List Nat} (h : SlTab w v t) (hf : w.Fr w' M) (hM : Odd w M) : SlTab w' v t := by
 obtain ⟨a, b, hs, hv, h1, h2, h3, h4⟩ := h.ex
 exact ⟨⟨a, b, hs, hv, h1.fr hf (hM.off h1 (.inl rfl)), h2.fr hf (hM.off h2 (.inr (.inl rfl))), h3, fun i hv r e1 e2 => (h4 i hv r e1 e2).fr hf (hM.off (h4 i hv r e1 e2) (.inr (.inr rfl)))⟩, h.wf⟩
theorem SlTab.still {w w' : World} {v : Value} {t : Tb} (h : SlTab w v t) (hf : w.Fr w' []) : SlTab w' v t := h.fr hf (fun k hk => by simp at hk)
theorem SlTab.rd {w : World} {v : Value} {t : Tb} (h : SlTab w v t) : RdTab w v t := by
 obtain ⟨a, b, hs, hv, h1, h2, h3, h4⟩ := h.ex
 exact ⟨a, b, hs, hv, ⟨h1.rd, h.wf.1⟩, ⟨h2.rd, h3, fun i hv r ha hb => ⟨(h4 i hv r ha hb).rd, h.wf.2 r (List.mem_of_getElem? hb)⟩⟩⟩
theorem SlTab.shape {w : World} {a b : Value} {t : Tb} (h : SlTab w (.agg #[a, b]) t) : ∃ a1 a2 a3 a4, a = .slice a1 t.vars.length a2 /\ b = .slice a3 t.rows.length a4 := by
 obtain ⟨x, y, hs, he, h1, h2, h3, _⟩ := h.ex
 cases he
 obtain ⟨a1, a2, e1, _⟩ := h1.shape
 obtain ⟨a3, a4, e2, _⟩ := h2.shape
 rw [h3] at e2
 exact ⟨a1, a2, a3, a4, e1, e2⟩
structure Kp where
 time : Int
 a : Value
 b : Value
 t : Tb
abbrev Kp.cells (k : Kp) : List Value := [.int .i64 k.time, k.a, k.b]
structure KeptAt (w : World) (v : Value) (ks : List Kp) : Prop where
 sl : w.Sl 115 3 v ks.length (ks.flatMap Kp.cells)
 tab : ∀ k, k ∈ ks -> SlTab w (.agg #[k.a, k.b]) k.t
structure PS where
 i : Iv
 nt : Bool
 left : List BA
 right : List BA
 time : Int
 waits : List Kp
 fn : Nat
 parts : Int
abbrev pcells10 (S : PS) (vl vr vw : Value) : Array Value := #[.int .i64 S.i.lo, .int .i64 S.i.hi, .bool S.i.op, .bool S.nt, vl, vr, .int .i64 S.time, vw, .func (.func S.fn) #[] #[], .int .i64 S.parts]
structure PastAt (w : World) (p : Nat) (S : PS) (vl vr vw : Value) : Prop where
 box : w.heap[p]? = some (.cells (pcells10 S vl vr vw) 96 (0, 0))
 left : w.Sl 9 1 vl S.left.length (S.left.map Value.string)
 right : w.Sl 9 1 vr S.right.length (S.right.map Value.string)
 lw : ∀ s, s ∈ S.left -> s.size <= 9223372036854775807
 rw : ∀ s, s ∈ S.right -> s.size <= 9223372036854775807
 kept : KeptAt w vw S.waits
theorem KeptAt.fr {w w' : World} {v : Value} {ks : List Kp} {M : List Nat} (h : KeptAt w v ks) (hf : w.Fr w' M) (hM : Odd w M) (hv : ∀ k, k ∈ v.blk -> k ∉ M) : KeptAt w' v ks :=
 ⟨h.sl.fr hf hv, fun k hk => (h.tab k hk).fr hf hM⟩
theorem KeptAt.still {w w' : World} {v : Value} {ks : List Kp} (h : KeptAt w v ks) (hf : w.Fr w' []) : KeptAt w' v ks := h.fr hf (fun k hk => by simp at hk) (by simp)
theorem PastAt.still {w w' : World} {p : Nat} {S : PS} {vl vr vw : Value} (h : PastAt w p S vl vr vw) (hf : w.Fr w' []) : PastAt w' p S vl vr vw :=
 ⟨hf.heap h.box (by simp), h.left.fr hf (by simp), h.right.fr hf (by simp), h.lw, h.rw, h.kept.still hf⟩
theorem PastAt.rdl {w : World} {p : Nat} {S : PS} {vl vr vw : Value} (h : PastAt w p S vl vr vw) : RdStr w vl S.left := ⟨h.left.rd, h.lw⟩
theorem PastAt.rdr {w : World} {p : Nat} {S : PS} {vl vr vw : Value} (h : PastAt w p S vl vr vw) : RdStr w vr S.right := ⟨h.right.rd, h.rw⟩
theorem PastAt.odd {w : World} {p : Nat} {S : PS} {vl vr vw : Value} (h : PastAt w p S vl vr vw) : Odd w (p :: vw.blk) := by
 intro k hk
 rcases List.mem_cons.1 hk with rfl | hk
 ·exact ⟨_, _, h.box, by decide, by decide, by decide⟩
 ·rcases h.kept.sl.2 with ⟨rfl, _⟩ | ⟨g, off, cap, cur, rfl, hg, _⟩
  ·simp [Value.blk] at hk
  ·simp [Value.blk] at hk
   subst hk
   exact ⟨_, _, hg, by decide, by decide, by decide⟩
theorem ofT_none {cf : V -> V -> Int} {l : List BA} (hu : l.Pairwise fun a b => ltS a b = true) (h8 : l.length <= 8) : ofT cf l [] = (0, ⟨l, []⟩) := by
 unfold ofT
 rw [if_neg (fun h => h.elim (fun h => by omega) (fun h => h (nodup_of_pair hu)))]
 have h0 : rowsErr l.length [] = 0 := rfl
 rw [if_pos h0]
 have hc : canon cf [] = [] := by
  unfold canon
  split
  ·rename_i hx
   obtain ⟨_, h2⟩ := Classical.choose_spec hx
   exact List.eq_nil_iff_forall_not_mem.2 fun r hr => by simpa using (h2 r).1 hr
  ·rfl
 unfold madeT
 rw [sortS_of_pair hu, List.map_nil, hc]
end
section
open Go.RowKit
abbrev icells (l : List Int) : List Value := l.map (Value.int .i64)
structure RowsR (W w : World) (vb : Value) (hs : List Value) (rows : List Row) : Prop where
 sl : w.Sl 81 1 vb hs.length hs
 len : hs.length = rows.length
 new : ∀ k, k ∈ vb.blk -> W.heap.size <= k
 row : ∀ (i : Nat) (hv : Value) (r : Row), hs[i]? = some hv -> rows[i]? = some r -> RdRow w hv r /\ ∀ k, k ∈ hv.rblk -> k ∉ vb.blk
 fr : W.Fr w []
theorem RowsR.nil (w : World) : RowsR w w (.slice none 0 0) [] [] := ⟨World.Sl.nil _ _ _, rfl, by simp [Value.blk], by simp, World.Fr.refl _ _⟩
theorem RowsR.still {W w w1 : World} {vb : Value} {hs : List Value} {rows : List Row} (h : RowsR W w vb hs rows) (hf : w.Fr w1 []) : RowsR W w1 vb hs rows :=
 ⟨h.sl.fr hf (by simp), h.len, h.new, fun i hv r a b => ⟨(h.row i hv r a b).1.fr hf (by simp), (h.row i hv r a b).2⟩, h.fr.trans hf (by simp)⟩
theorem RowsR.push {W w w1 w2 : World} {vb v : Value} {g off c : Nat} {hs : List Value} {rows : List Row} {r : Row} (h : RowsR W w vb hs rows) (hf0 : w.Fr w1 []) (hr : RdRow w1 v r) (hoff : ∀ k, k ∈ v.rblk -> k ∉ vb.blk)
  (hs2 : w2.Sl 81 1 (.slice (some ⟨g, off, none⟩) (hs.length + 1) c) (hs.length + 1) (hs ++ [v])) (hf : w1.Fr w2 vb.blk) (hg : g ∈ vb.blk ∨ w1.heap.size <= g) :
  RowsR W w2 (.slice (some ⟨g, off, none⟩) (hs.length + 1) c) (hs ++ [v]) (rows ++ [r]) := by
 have key : ∀ (hv : Value) (x : Row), RdRow w1 hv x -> (∀ k, k ∈ hv.rblk -> k ∉ vb.blk) -> RdRow w2 hv x /\ ∀ k, k ∈ hv.rblk -> k ∉ (Value.slice (some ⟨g, off, none⟩) (hs.length + 1) c).blk := fun hv x h1 h2 => by
  refine ⟨h1.fr hf h2, fun k hk hk2 => ?_⟩
  simp [Value.blk] at hk2
  subst hk2
  rcases hg with h3 | h3
  ·exact h2 k hk h3
  ·have := h1.rd.lt k hk; omega
 refine ⟨by simpa using hs2, by simp [h.len], fun k hk => ?_, fun i hv x h1 h2 => ?_, (h.fr.trans hf0 (by simp)).trans hf (fun k hk => .inr (h.new k hk))⟩
 ·simp [Value.blk] at hk
  subst hk
  rcases hg with h1 | h1
  ·exact h.new _ h1
  ·have := h.fr.size; have := hf0.size; omega
 ·rcases Nat.lt_or_ge i hs.length with hi | hi
  ·rw [List.getElem?_append_left hi] at h1
   rw [List.getElem?_append_left (by rw [<- h.len]; exact hi)] at h2
   obtain ⟨b1, b2⟩ := h.row i hv x h1 h2
   exact key hv x (b1.fr hf0 (by simp)) b2
  ·rw [List.getElem?_append_right hi] at h1
   rw [List.getElem?_append_right (by rw [<- h.len]; exact hi)] at h2
   have hi0 : i - hs.length = 0 := by
    have := (List.getElem?_eq_some_iff.1 h1).1
    simp at this; omega
   rw [hi0] at h1
   rw [<- h.len, hi0] at h2
   simp at h1 h2
   subst h1 h2
   exact key _ _ hr hoff
theorem RowsR.rd {W w : World} {vb : Value} {hs : List Value} {rows : List Row} (h : RowsR W w vb hs rows) : RdRows w vb rows hs := ⟨h.sl.rd, h.len, fun i hv r a b => (h.row i hv r a b).1⟩
theorem OwnRow.rd {w w' : World} {v : Value} {r : Row} (h : OwnRow w w' v r) (hw : ∀ x, x ∈ r -> x.wf) : RdRow w' v r := ⟨h.sl.rd, hw⟩
end
section
open Go.RowKit
theorem rowsCheck_zero {cf : V -> V -> Int} {n : Nat} : ∀ (rs : List Row) (p : Option Row), rowsCheck cf n p rs = 0 -> (∀ r, r ∈ rs -> rowCheck n r = 0) /\ (∀ q r, p = some q -> rs.head? = some r -> rcmp cf q r < 0) /\ ∀ (i : Nat) (a b : Row), rs[i]? = some a -> rs[i + 1]? = some b -> rcmp cf a b < 0
 | [], _, _ => by simp
 | r :: rs, p, h => by
  have h0 : rowCheck n r = 0 := by
   by_cases hr : rowCheck n r = 0
   ·exact hr
   ·simp only [rowsCheck, hr, if_false] at h
  simp only [rowsCheck, h0, if_true] at h
  have hup : (∀ q, p = some q -> rcmp cf q r < 0) /\ rowsCheck cf n (some r) rs = 0 := by
   cases p with
   | none => simp only [Bool.false_eq_true, if_false] at h; exact ⟨by simp, h⟩
   | some q =>
    by_cases hq : 0 <= rcmp cf q r
    ·simp [hq] at h
    ·simp [hq] at h
     exact ⟨fun q' e => by cases e; omega, h⟩
  obtain ⟨a1, a2, a3⟩ := rowsCheck_zero rs (some r) hup.2
  refine ⟨fun x hx => ?_, fun q x hq hx => ?_, fun i a b ha hb => ?_⟩
  ·rcases List.mem_cons.1 hx with rfl | hx
   ·exact h0
   ·exact a1 x hx
  ·subst hq
   simp at hx
   subst hx
   exact hup.1 q rfl
  ·cases i with
   | zero =>
    simp at ha
    subst ha
    exact a2 r b rfl (by rw [List.head?_eq_getElem?]; simpa using hb)
   | succ i => exact a3 i a b (by simpa using ha) (by simpa using hb)
theorem tcheck_zero {cf : V -> V -> Int} {t : Tb} (h : tcheck cf t = 0) : t.vars.length <= 8 /\ (t.vars.Pairwise fun a b => ltS a b = true) /\ (∀ r, r ∈ t.rows -> r.length = t.vars.length /\ ∀ x, x ∈ r -> vcheck x = 0) /\ ∀ (i : Nat) (a b : Row), t.rows[i]? = some a -> t.rows[i + 1]? = some b -> rcmp cf a b < 0 := by
 unfold tcheck at h
 split at h
 ·cases h
 ·rename_i h8
  split at h
  ·rename_i hr
   obtain ⟨a1, _, a3⟩ := rowsCheck_zero _ _ h
   refine ⟨by omega, pair_of_rises _ (by unfold risesB at hr; simpa using hr), fun r hr => rowCheck_zero (a1 r hr), a3⟩
  ·cases h
theorem nodup_le' {α : Type} [DecidableEq α] : ∀ (l m : List α), l.Nodup -> (∀ x, x ∈ l -> x ∈ m) -> l.length <= m.length
 | [], _, _, _ => Nat.zero_le _
 | a :: t, m, hn, hs => by
  obtain ⟨h1, h2⟩ := List.nodup_cons.1 hn
  have ha := hs a (by simp)
  have ih := nodup_le' t (m.erase a) h2 (fun x hx => (List.mem_erase_of_ne (fun e => h1 (by rw [<- e]; exact hx))).2 (hs x (by simp [hx])))
  have := List.length_erase_of_mem ha
  have := List.length_pos_of_mem ha
  simp only [List.length_cons]
  omega
theorem nodup_le (l m : List BA) (h1 : l.Nodup) (h2 : ∀ x, x ∈ l -> x ∈ m) : l.length <= m.length := by classical exact nodup_le' l m h1 h2
theorem pair_all {okv : V -> Prop} {cf : V -> V -> Int} (hO : OrdOk okv cf) : ∀ (rs : List Row), (∀ r, r ∈ rs -> ∀ x, x ∈ r -> okv x) -> (∀ (i : Nat) (a b : Row), rs[i]? = some a -> rs[i + 1]? = some b -> rcmp cf a b < 0) -> rs.Pairwise (rlt cf)
 | [], _, _ => List.Pairwise.nil
 | [a], _, _ => by simp
 | a :: b :: t, ho, h => by
  have ih := pair_all hO (b :: t) (fun r hr => ho r (by simp only [List.mem_cons] at hr ⊢; exact .inr hr)) (fun i x y hx hy => h (i + 1) x y (by simpa using hx) (by simpa using hy))
  have h0 := h 0 a b rfl rfl
  refine List.pairwise_cons.2 ⟨fun c hc => ?_, ih⟩
  rcases List.mem_cons.1 hc with rfl | hc
  ·exact h0
  ·exact rcmp_trans hO a b c (ho a (by simp)) (ho b (by simp)) (ho c (by simp [hc])) h0 ((List.pairwise_cons.1 ih).1 c hc)
abbrev tNone : Tb := ⟨[], []⟩
structure Fits (okc : V -> Prop) (t : Tb) : Prop where
 small : Small t
 rows : t.rows.length <= 5864062014634
 ok : TabOf okc t
end
section
open Go.RowKit
theorem pick_own {l : List BA} (hn : l.Nodup) {r : Row} (hr : r.length = l.length) : pick l r l = r := by
 apply List.ext_getElem?
 intro i
 unfold pick
 rw [List.getElem?_map]
 by_cases hi : i < l.length
 ·rw [List.getElem?_eq_getElem hi, Option.map_some, idx_self hn i hi, Int.toNat_natCast, List.getD_eq_getElem?_getD, List.getElem?_eq_getElem (by omega)]
  rfl
 ·rw [List.getElem?_eq_none (by omega), List.getElem?_eq_none (by omega)]
  rfl
theorem vchecks_nil : ∀ r : Row, (∀ x, x ∈ r -> vcheck x = 0) -> vchecks r = 0
 | [], _ => rfl
 | a :: t, h => by
  unfold vchecks
  rw [if_pos (h a (by simp))]
  exact vchecks_nil t (fun x hx => h x (by simp [hx]))
theorem rowsErr_nil {n : Nat} : ∀ rs : List Row, (∀ r, r ∈ rs -> rowCheck n r = 0) -> rowsErr n rs = 0
 | [], _ => rfl
 | a :: t, h => by
  unfold rowsErr
  rw [if_pos (h a (by simp))]
  exact rowsErr_nil t (fun x hx => h x (by simp [hx]))
theorem ofT_own {cf : V -> V -> Int} (hO : OrdOk (fun v => V.wf v /\ vcheck v = 0) cf) {t : Tb} (h : tcheck cf t = 0) (hw : ∀ r, r ∈ t.rows -> ∀ x, x ∈ r -> V.wf x) : ofT cf t.vars t.rows = (0, t) := by
 obtain ⟨k1, k2, k3, k4⟩ := tcheck_zero h
 have hok : ∀ r, r ∈ t.rows -> ∀ x, x ∈ r -> V.wf x /\ vcheck x = 0 := fun r hr x hx => ⟨hw r hr x hx, (k3 r hr).2 x hx⟩
 have hp := pair_all hO t.rows hok k4
 unfold ofT
 rw [if_neg (fun h => h.elim (fun h => by omega) (fun h => h (nodup_of_pair k2))), if_pos (rowsErr_nil _ fun r hr => by unfold rowCheck; rw [if_pos (k3 r hr).1]; exact vchecks_nil r (k3 r hr).2)]
 congr 1
 unfold madeT
 rw [sortS_of_pair k2]
 have hm : (t.rows.map fun r => pick t.vars r t.vars) = t.rows := by
  conv => rhs; rw [<- List.map_id t.rows]
  exact List.map_congr_left fun r hr => pick_own (nodup_of_pair k2) (k3 r hr).1
 rw [hm, canon_eq hO hok hp (fun _ => Iff.rfl)]
theorem ofT_nil {cf : V -> V -> Int} {l : List BA} : ofT cf l [] = if 8 < l.length ∨ ¬ l.Nodup then (30, ⟨[], []⟩) else (0, ⟨sortS l, []⟩) := by
 unfold ofT
 by_cases h : 8 < l.length ∨ ¬ l.Nodup
 ·rw [if_pos h, if_pos h]
 ·rw [if_neg h, if_neg h]
  have h0 : rowsErr l.length [] = 0 := rfl
  rw [if_pos h0]
  congr 1
  have hc : canon cf [] = [] := by
   unfold canon
   split
   ·rename_i hx
    obtain ⟨_, h2⟩ := Classical.choose_spec hx
    exact List.eq_nil_iff_forall_not_mem.2 fun r hr => by simpa using (h2 r).1 hr
   ·rfl
  unfold madeT
  rw [List.map_nil, hc]
def NamesOk (l : List BA) : Prop := l.length <= 8 /\ l.Nodup
open Classical in
noncomputable def beginE (i : Iv) (l r : List BA) : Int := if ivB i = false then 1 else if ¬ NamesOk l ∨ ¬ NamesOk r then 30 else if ∀ s, s ∈ l -> s ∈ r then 0 else 30
abbrev beginS (i : Iv) (nt : Bool) (l r : List BA) (fn : Nat) (parts : Int) : PS := ⟨i, nt, sortS l, sortS r, -1, [], fn, parts⟩
theorem ofT_ok {cf : V -> V -> Int} {l : List BA} (h : NamesOk l) : ofT cf l [] = (0, ⟨sortS l, []⟩) := by
 rw [ofT_nil, if_neg (fun h' => h'.elim (fun h1 => by have := h.1; omega) (fun h1 => h1 h.2))]
theorem ofT_bad {cf : V -> V -> Int} {l : List BA} (h : ¬ NamesOk l) : ofT cf l [] = (30, ⟨[], []⟩) := by
 rw [ofT_nil, if_pos]
 by_cases h8 : 8 < l.length
 ·exact .inl h8
 ·exact .inr fun hn => h ⟨by omega, hn⟩
theorem sortS_up {l : List BA} (h : NamesOk l) : ((sortS l).Pairwise fun a b => ltS a b = true) /\ (sortS l).length <= 8 := ⟨sortS_pair h.2, by have := (sortS_perm l).length_eq; have := h.1; omega⟩
end
section
open Go.RowKit
theorem RdStr.none (w : World) : RdStr w (.slice none 0 0) [] := ⟨rdNil w 1, by simp⟩
end
section
open Go.RowKit
theorem eqq106 {w : World} {v1 v2 : Value} {r s : List BA} (h1 : RdStr w v1 r) (h2 : RdStr w v2 s) (hl : r.length <= 9223372036854775807) (hm : s.length <= 9223372036854775807) :
  Calls Tryz.prog 106 #[v1, v2] w fun e w' => e = .returned (.bool (eqB r s)) /\ ∃ q, w' = w.drewN q := by
 obtain ⟨a1, c1, rfl, _, _⟩ := h1.rd.shape
 obtain ⟨a2, c2, rfl, _, _⟩ := h2.rd.shape
 by_cases hn : r.length = s.length
 ·by_cases h0 : r.length = 0
  ·have hr : r = [] := List.length_eq_zero_iff.1 h0
   have hs : s = [] := List.length_eq_zero_iff.1 (hn.symm.trans h0)
   subst hr hs
   refine (Tryz.slices_Equal_string_empty a1 a2 c1 0 c2 w (by omega)).mono ?_
   rintro e w' ⟨rfl, rfl⟩
   exact ⟨by rw [eqB_true rfl]; rfl, 0, rfl⟩
  ·obtain ⟨g1, o1, d1, e1, _, _, _, k1⟩ := h1.rd.form (by omega)
   obtain ⟨g2, o2, d2, e2, _, _, _, k2⟩ := h2.rd.form (by omega)
   cases e1; cases e2
   refine (Tryz.slices_Equal_string g1 o1 r.length c1 g2 o2 s.length c2 r s w (Nat.le_refl _) (Nat.le_refl _) hl hm ?_ ?_).mono ?_
   ·intro j hj
    rw [k1 j (by omega), List.getElem?_map, List.getElem?_eq_getElem hj, List.getD_eq_getElem?_getD, List.getElem?_eq_getElem hj]
    rfl
   ·intro j hj
    rw [k2 j (by omega), List.getElem?_map, List.getElem?_eq_getElem hj, List.getD_eq_getElem?_getD, List.getElem?_eq_getElem hj]
    rfl
   ·rintro e w' ⟨rfl, q⟩
    exact ⟨by rw [List.take_length, List.take_length]; simp [eqB], q⟩
 ·refine (Tryz.slices_Equal_string_lens a1 a2 r.length c1 s.length c2 w hn).mono ?_
  rintro e w' ⟨rfl, rfl⟩
  exact ⟨by rw [eqB_false (fun h => hn (by rw [h]))], 0, rfl⟩
noncomputable def firstBad (cf : V -> V -> Int) : List Tb -> Int
 | [] => 0
 | t :: ts => if tcheck cf t = 0 then firstBad cf ts else tcheck cf t
theorem firstBad_append {cf : V -> V -> Int} (a b : List Tb) : firstBad cf (a ++ b) = if firstBad cf a = 0 then firstBad cf b else firstBad cf a := by
 induction a with
 | nil => simp [firstBad]
 | cons x t ih =>
  simp only [List.cons_append, firstBad]
  by_cases h : tcheck cf x = 0
  ·simp only [if_pos h]; exact ih
  ·simp only [if_neg h]
theorem firstBad_step {cf : V -> V -> Int} {ts : List Tb} {j : Nat} {t : Tb} (hj : ts[j]? = some t) (h0 : firstBad cf (ts.take j) = 0) : firstBad cf (ts.take (j + 1)) = tcheck cf t := by
 have hlt := (List.getElem?_eq_some_iff.1 hj).1
 rw [List.take_succ_eq_append_getElem hlt, (List.getElem?_eq_some_iff.1 hj).2, firstBad_append, if_pos h0]
 unfold firstBad
 by_cases h : tcheck cf t = 0
 ·rw [if_pos h, h]; rfl
 ·rw [if_neg h]
theorem firstBad_found {cf : V -> V -> Int} {ts : List Tb} {j : Nat} {t : Tb} (hj : ts[j]? = some t) (h0 : firstBad cf (ts.take j) = 0) (h : tcheck cf t ≠ 0) : firstBad cf ts = tcheck cf t := by
 conv => lhs; rw [<- List.take_append_drop (j + 1) ts]
 rw [firstBad_append, firstBad_step hj h0, if_neg h]
theorem firstBad_zero {cf : V -> V -> Int} {ts : List Tb} (h : firstBad cf ts = 0) : ∀ t, t ∈ ts -> tcheck cf t = 0 := by
 induction ts with
 | nil => simp
 | cons x t ih =>
  unfold firstBad at h
  by_cases hx : tcheck cf x = 0
  ·rw [if_pos hx] at h
   intro y hy
   rcases List.mem_cons.1 hy with rfl | hy
   ·exact hx
   ·exact ih h y hy
  ·rw [if_neg hx] at h
   exact absurd h hx
open Classical in
noncomputable def wrongE (cf : V -> V -> Int) (S : PS) (n : Int) (ts : List Tb) : Int :=
 if n < 0 ∨ 1099511627776 < n ∨ n < S.time then 80
 else if (ts.length : Int) ≠ S.parts then 1
 else if firstBad cf ts ≠ 0 then firstBad cf ts
 else if (S.parts = 2 /\ ∃ t, ts[0]? = some t /\ t.vars ≠ S.left) ∨ (∃ t, ts[ts.length - 1]? = some t /\ t.vars ≠ S.right) then 30 else 0
end
section
open Go.RowKit
noncomputable def leftL (a b : List BA) : List BA := a.filter fun x => !hasS b x
theorem leftL_mem {a b : List BA} {x : BA} : x ∈ leftL a b ↔ x ∈ a /\ x ∉ b := by unfold leftL hasS; simp
end
end Go.Proofs.YtbejmdlncnkaaaaGreat
