/-
  Package past: intervals (may, in); tables in a slice; what a point keeps. Package past: what an operator that looks back holds, as it lies; its empty table, its copies. Package past: copies of tables; how an operator begins. Package past: begin, Prev, Once, Since. Package past: Prev, Once, Since begin. Package past: what is wrong with a step's arguments.
-/
import Derived.Test.YtbejmdlncnkaaaaGreatMad
import Derived.Test.YtbejmdlncnkaaaaGreatKys
set_option maxRecDepth 100000
set_option maxHeartbeats 16000000
set_option linter.unusedSimpArgs false
namespace Go.Proofs.YtbejmdlncnkaaaaGreat
section
open Go.RowKit
structure Iv where
 lo : Int
 hi : Int
 op : Bool
abbrev ivV (i : Iv) : Value := .agg #[.int .i64 i.lo, .int .i64 i.hi, .bool i.op]
def ivB (i : Iv) : Bool := if i.op then decide (0 <= i.lo) && decide (i.lo <= 1099511627776) && (i.hi == 0) else decide (0 <= i.lo) && decide (i.lo <= i.hi) && decide (i.hi <= 1099511627776)
def inB (n : Int) (i : Iv) : Bool := decide (i.lo <= n) && (i.op || decide (n <= i.hi))
theorem tri {w : World} {p : Nat} {t : TypeId} {a b c : Value} (hh : w.heap[p]? = some (.cells #[a, b, c] t (0, 0))) :
  w.cell? ⟨p, 0, none⟩ = some a /\ w.cell? ⟨p, 1, none⟩ = some b /\ w.cell? ⟨p, 2, none⟩ = some c /\ ∀ j, w.frozen? ⟨p, j, none⟩ = false := by
 refine ⟨?_, ?_, ?_, fun j => frozen_of_row w p j _ _ hh⟩ <;> simp [World.cell?, hh]
theorem ten {w : World} {p : Nat} {t : TypeId} {a b c d e f g h i j : Value} (hh : w.heap[p]? = some (.cells #[a, b, c, d, e, f, g, h, i, j] t (0, 0))) :
  w.cell? ⟨p, 0, none⟩ = some a /\ w.cell? ⟨p, 1, none⟩ = some b /\ w.cell? ⟨p, 2, none⟩ = some c /\ w.cell? ⟨p, 3, none⟩ = some d /\ w.cell? ⟨p, 4, none⟩ = some e /\ w.cell? ⟨p, 5, none⟩ = some f /\ w.cell? ⟨p, 6, none⟩ = some g /\ w.cell? ⟨p, 7, none⟩ = some h /\ w.cell? ⟨p, 8, none⟩ = some i /\ w.cell? ⟨p, 9, none⟩ = some j /\ ∀ j, w.frozen? ⟨p, j, none⟩ = false := by
 refine ⟨?_, ?_, ?_, ?_, ?_, ?_, ?_, ?_, ?_, ?_, fun j => frozen_of_row w p j _ _ hh⟩ <;> simp [World.cell?, hh]
theorem may122 (i : Iv) (w : World) : Calls Tryz.prog 122 #[ivV i] w fun e w' => e = .returned (.bool (ivB i)) /\ w.Fr w' [] := by
 obtain ⟨lo, hi, op⟩ := i
 obtain ⟨R, hR⟩ : ∃ R, ivB ⟨lo, hi, op⟩ = R := ⟨_, rfl⟩
 rw [hR]
 unfold ivB at hR
 simp only at hR
 have hf := (World.Fr.refl w []).alloc (.cells #[.int .i64 lo, .int .i64 hi, .bool op] 23)
 have q := heap_alloc_at w (.cells #[.int .i64 lo, .int .i64 hi, .bool op] 23) _ rfl
 have HF := Hz hf
 obtain ⟨c0, c1, c2, cf⟩ := tri q
 clear hf q
 go_enter Tryz.func122, Tryz.ntmps122
 go_upto_region 1 with (fail)
 generalize hW : World.alloc w _ = W at *
 clear hW
 cases op with
 | true =>
  simp only [if_true] at hR
  cases h1 : decide (0 <= lo) with
  | false =>
   rw [h1] at hR
   simp only [Bool.false_and] at hR
   subst hR
   go_wp2
   go_ret
   exact ⟨rfl, HF.out⟩
  | true =>
   cases h2 : decide (lo <= 1099511627776) with
   | false =>
    rw [h1, h2] at hR
    simp only [Bool.true_and, Bool.false_and] at hR
    subst hR
    go_wp2
    go_ret
    exact ⟨rfl, HF.out⟩
   | true =>
    rw [h1, h2] at hR
    simp only [Bool.true_and] at hR
    subst hR
    go_wp2
    go_ret
    exact ⟨rfl, HF.out⟩
 | false =>
  simp only [Bool.false_eq_true, if_false] at hR
  cases h1 : decide (0 <= lo) with
  | false =>
   rw [h1] at hR
   simp only [Bool.false_and] at hR
   subst hR
   go_wp2
   go_ret
   exact ⟨rfl, HF.out⟩
  | true =>
   cases h2 : decide (lo <= hi) with
   | false =>
    rw [h1, h2] at hR
    simp only [Bool.true_and, Bool.false_and] at hR
    subst hR
    go_wp2
    go_ret
    exact ⟨rfl, HF.out⟩
   | true =>
    rw [h1, h2] at hR
    simp only [Bool.true_and] at hR
    subst hR
    go_wp2
    go_ret
    exact ⟨rfl, HF.out⟩
theorem in125 (n : Int) (i : Iv) (w : World) : Calls Tryz.prog 125 #[.int .i64 n, ivV i] w fun e w' => e = .returned (.bool (inB n i)) /\ w.Fr w' [] := by
 obtain ⟨lo, hi, op⟩ := i
 obtain ⟨R, hR⟩ : ∃ R, inB n ⟨lo, hi, op⟩ = R := ⟨_, rfl⟩
 rw [hR]
 unfold inB at hR
 simp only at hR
 have hf := (World.Fr.refl w []).alloc (.cells #[.int .i64 lo, .int .i64 hi, .bool op] 23)
 have q := heap_alloc_at w (.cells #[.int .i64 lo, .int .i64 hi, .bool op] 23) _ rfl
 have HF := Hz hf
 obtain ⟨c0, c1, c2, cf⟩ := tri q
 clear hf q
 go_enter Tryz.func125, Tryz.ntmps125
 go_upto_region 1 with (fail)
 generalize hW : World.alloc w _ = W at *
 clear hW
 cases h1 : decide (lo <= n) with
 | false =>
  rw [h1] at hR
  simp only [Bool.false_and] at hR
  subst hR
  go_wp2
  go_ret
  exact ⟨rfl, HF.out⟩
 | true =>
  rw [h1] at hR
  simp only [Bool.true_and] at hR
  cases op with
  | true =>
   simp only [Bool.true_or] at hR
   subst hR
   go_wp2
   go_ret
   exact ⟨rfl, HF.out⟩
  | false =>
   simp only [Bool.false_or] at hR
   subst hR
   go_wp2
   go_ret
   exact ⟨rfl, HF.out⟩
structure RdTabs (w : World) (v : Value) (ts : List Tb) : Prop where
 ex : ∃ xs : List (Value × Value), xs.length = ts.length /\ w.Rd 2 v ts.length (xs.flatMap fun x => [x.1, x.2]) /\ ∀ (j : Nat) (x : Value × Value) (t : Tb), xs[j]? = some x -> ts[j]? = some t -> RdTab w (.agg #[x.1, x.2]) t
theorem RdTabs.still {w w' : World} {v : Value} {ts : List Tb} (h : RdTabs w v ts) (hf : w.Fr w' []) : RdTabs w' v ts := by
 obtain ⟨xs, h1, h2, h3⟩ := h.ex
 exact ⟨xs, h1, h2.fr hf (by simp), fun j x t a b => (h3 j x t a b).still hf⟩
theorem RdTabs.shape {w : World} {v : Value} {ts : List Tb} (h : RdTabs w v ts) : ∃ a c, v = .slice a ts.length c := by
 obtain ⟨xs, h1, h2, h3⟩ := h.ex
 obtain ⟨a, c, e, _⟩ := h2.shape
 exact ⟨a, c, e⟩
theorem flat2 {xs : List (Value × Value)} {j : Nat} {x : Value × Value} (h : xs[j]? = some x) : (xs.flatMap fun x => [x.1, x.2])[j * 2]? = some x.1 /\ (xs.flatMap fun x => [x.1, x.2])[j * 2 + 1]? = some x.2 := by
 induction xs generalizing j with
 | nil => simp at h
 | cons a t ih =>
  cases j with
  | zero => simp at h; subst h; simp
  | succ j =>
   have h' : t[j]? = some x := by simpa using h
   obtain ⟨i1, i2⟩ := ih h'
   simp only [List.flatMap_cons]
   rw [List.getElem?_append_right (by simp; omega), List.getElem?_append_right (by simp; omega)]
   have e1 : (j + 1) * 2 - [a.1, a.2].length = j * 2 := by simp; omega
   have e2 : (j + 1) * 2 + 1 - [a.1, a.2].length = j * 2 + 1 := by simp; omega
   rw [e1, e2]
   exact ⟨i1, i2⟩
theorem RdTabs.at {w : World} {v : Value} {ts : List Tb} (h : RdTabs w v ts) {j : Nat} {t : Tb} (hj : ts[j]? = some t) :
  ∃ g off c a1 a2 a3 a4, v = .slice (some ⟨g, off, none⟩) ts.length c /\ g < w.heap.size /\ w.cell? ⟨g, off + j * 2, none⟩ = some (.slice a1 t.vars.length a2) /\ w.cell? ⟨g, off + j * 2 + 1, none⟩ = some (.slice a3 t.rows.length a4) /\ RdTab w (.agg #[.slice a1 t.vars.length a2, .slice a3 t.rows.length a4]) t := by
 obtain ⟨xs, h1, h2, h3⟩ := h.ex
 have hjl := (List.getElem?_eq_some_iff.1 hj).1
 obtain ⟨x, hx⟩ : ∃ x, xs[j]? = some x := ⟨xs[j]'(by omega), List.getElem?_eq_getElem (by omega)⟩
 have hr := h3 j x t hx hj
 obtain ⟨g, off, c, he, _, _, hg, hc⟩ := h2.form (by omega)
 obtain ⟨f1, f2⟩ := flat2 hx
 have c1 := hc (j * 2) (by omega)
 have c2 := hc (j * 2 + 1) (by omega)
 rw [f1] at c1
 rw [f2] at c2
 obtain ⟨va, vb, hs, hxe, hv, hrr⟩ := hr.ex
 cases hxe
 obtain ⟨a1, a2, e1, _, _⟩ := hv.rd.shape
 obtain ⟨a3, a4, e2, _, _⟩ := hrr.rd.shape
 rw [hrr.len] at e2
 rw [e1] at c1
 rw [e2] at c2
 rw [e1, e2] at hr
 exact ⟨g, off, c, a1, a2, a3, a4, he, hg, c1, by rw [Nat.add_assoc]; exact c2, hr⟩
end
section
open Go.RowKit
def Odd (w : World) (M : List Nat) : Prop := ∀ k, k ∈ M -> ∃ cs T, w.heap[k]? = some (.cells cs T (0, 0)) /\ T ≠ 9 /\ T ≠ 81 /\ T ≠ 83
theorem Odd.off {w : World} {M : List Nat} (h : Odd w M) {e : TypeId} {s n : Nat} {v : Value} {xs : List Value} (hs : w.Sl e s v n xs) (he : e = 9 ∨ e = 81 ∨ e = 83) : ∀ k, k ∈ v.blk -> k ∉ M := by
 intro k hk hm
 obtain ⟨cs, T, hc, h1, h2, h3⟩ := h k hm
 exact sl_box hs hc (by rcases he with rfl | rfl | rfl <;> (intro e; subst e; contradiction)) k hk rfl
theorem OwnTab.stay {w0 w w' : World} {v : Value} {t : Tb} (h : OwnTab w0 w v t) (hf : w.Fr w' []) : OwnTab w0 w' v t :=
 h.kept (L := []) hf (h.fr.trans hf (by simp)) (fun _ _ _ _ _ _ => ⟨fun k _ => by simp, fun k _ => by simp, fun i hv r _ _ _ k _ => by simp⟩)
abbrev anyB : Nat -> Prop := fun _ => True
structure TabIn (Q : Nat -> Prop) (w : World) (v : Value) (t : Tb) : Prop where
 ex : ∃ a b hs, v = .agg #[a, b] /\ w.Sl 9 1 a t.vars.length (t.vars.map Value.string) /\ w.Sl 81 1 b hs.length hs /\ hs.length = t.rows.length /\ (∀ k, k ∈ a.blk -> Q k) /\ (∀ k, k ∈ b.blk -> Q k) /\
  ∀ (i : Nat) (hv : Value) (r : Row), hs[i]? = some hv -> t.rows[i]? = some r -> w.Sl 83 4 hv r.length (r.flatMap V.enc) /\ ∀ k, k ∈ hv.blk -> Q k
 wf : (∀ s, s ∈ t.vars -> s.size <= 9223372036854775807) /\ ∀ r, r ∈ t.rows -> ∀ v, v ∈ r -> v.wf
theorem OwnTab.inn {Q : Nat -> Prop} {w0 w : World} {v : Value} {t : Tb} (h : OwnTab w0 w v t) (hQ : ∀ k, w0.heap.size <= k -> k < w.heap.size -> Q k) : TabIn Q w v t := by
 obtain ⟨a, b, hs, hv, h1, h2, h3, h4, h5, h6⟩ := h.ex
 exact ⟨⟨a, b, hs, hv, h1, h2, h3, fun k hk => hQ k (h4 k hk) (h1.lt k hk), fun k hk => hQ k (h5 k hk) (h2.lt k hk), fun i hv r e1 e2 => ⟨(h6 i hv r e1 e2).1, fun k hk => hQ k ((h6 i hv r e1 e2).2 k hk) ((h6 i hv r e1 e2).1.lt k hk)⟩⟩, h.wf⟩
theorem TabIn.rd {Q : Nat -> Prop} {w : World} {v : Value} {t : Tb} (h : TabIn Q w v t) : RdTab w v t := by
 obtain ⟨a, b, hs, hv, h1, h2, h3, h4, h5, h6⟩ := h.ex
 exact ⟨a, b, hs, hv, ⟨h1.rd, h.wf.1⟩, ⟨h2.rd, h3, fun i hv r ha hb => ⟨(h6 i hv r ha hb).1.rd, h.wf.2 r (List.mem_of_getElem? hb)⟩⟩⟩
theorem TabIn.imp {Q R : Nat -> Prop} {w : World} {v : Value} {t : Tb} (h : TabIn Q w v t) (hq : ∀ k, k < w.heap.size -> Q k -> R k) : TabIn R w v t := by
 obtain ⟨a, b, hs, hv, h1, h2, h3, h4, h5, h6⟩ := h.ex
 exact ⟨⟨a, b, hs, hv, h1, h2, h3, fun k hk => hq k (h1.lt k hk) (h4 k hk), fun k hk => hq k (h2.lt k hk) (h5 k hk), fun i hv r e1 e2 => ⟨(h6 i hv r e1 e2).1, fun k hk => hq k ((h6 i hv r e1 e2).1.lt k hk) ((h6 i hv r e1 e2).2 k hk)⟩⟩, h.wf⟩
theorem TabIn.fr {Q : Nat -> Prop} {w w' : World} {v : Value} {t : Tb} {M : List Nat} (h : TabIn Q w v t) (hf : w.Fr w' M) (hM : Odd w M) : TabIn Q w' v t := by
 obtain ⟨a, b, hs, hv, h1, h2, h3, h4, h5, h6⟩ := h.ex
 exact ⟨⟨a, b, hs, hv, h1.fr hf (hM.off h1 (.inl rfl)), h2.fr hf (hM.off h2 (.inr (.inl rfl))), h3, h4, h5, fun i hv r e1 e2 => ⟨(h6 i hv r e1 e2).1.fr hf (hM.off (h6 i hv r e1 e2).1 (.inr (.inr rfl))), (h6 i hv r e1 e2).2⟩⟩, h.wf⟩
theorem TabIn.off {Q : Nat -> Prop} {w w' : World} {v : Value} {t : Tb} {M : List Nat} (h : TabIn Q w v t) (hf : w.Fr w' M) (hM : ∀ k, k ∈ M -> ¬ Q k) : TabIn Q w' v t := by
 obtain ⟨a, b, hs, hv, h1, h2, h3, h4, h5, h6⟩ := h.ex
 exact ⟨⟨a, b, hs, hv, h1.fr hf (fun k hk hm => hM k hm (h4 k hk)), h2.fr hf (fun k hk hm => hM k hm (h5 k hk)), h3, h4, h5, fun i hv r e1 e2 => ⟨(h6 i hv r e1 e2).1.fr hf (fun k hk hm => hM k hm ((h6 i hv r e1 e2).2 k hk)), (h6 i hv r e1 e2).2⟩⟩, h.wf⟩
theorem TabIn.still {Q : Nat -> Prop} {w w' : World} {v : Value} {t : Tb} (h : TabIn Q w v t) (hf : w.Fr w' []) : TabIn Q w' v t := h.fr hf (fun k hk => by simp at hk)
theorem TabIn.shape {Q : Nat -> Prop} {w : World} {a b : Value} {t : Tb} (h : TabIn Q w (.agg #[a, b]) t) : ∃ a1 a2 a3 a4, a = .slice a1 t.vars.length a2 /\ b = .slice a3 t.rows.length a4 := by
 obtain ⟨x, y, hs, he, h1, h2, h3, _⟩ := h.ex
 cases he
 obtain ⟨a1, a2, e1, _⟩ := h1.shape
 obtain ⟨a3, a4, e2, _⟩ := h2.shape
 rw [h3] at e2
 exact ⟨a1, a2, a3, a4, e1, e2⟩
def QFrom (Q : Nat -> Prop) (w : World) : Prop := ∀ k, w.heap.size <= k -> Q k
theorem QFrom.fr {Q : Nat -> Prop} {w w' : World} {M : List Nat} (h : QFrom Q w) (hf : w.Fr w' M) : QFrom Q w' := fun k hk => h k (Nat.le_trans hf.size hk)
theorem QFrom.any (w : World) : QFrom anyB w := fun _ _ => trivial
theorem OwnTab.inq {Q : Nat -> Prop} {w0 w : World} {v : Value} {t : Tb} (h : OwnTab w0 w v t) (hq : QFrom Q w0) : TabIn Q w v t := h.inn fun k hk _ => hq k hk
structure Kp where
 time : Int
 a : Value
 b : Value
 t : Tb
abbrev Kp.cells (k : Kp) : List Value := [.int .i64 k.time, k.a, k.b]
structure KeptAt (Q : Nat -> Prop) (w : World) (v : Value) (ks : List Kp) : Prop where
 sl : w.Sl 115 3 v ks.length (ks.flatMap Kp.cells)
 tab : ∀ k, k ∈ ks -> TabIn Q w (.agg #[k.a, k.b]) k.t
structure PS where
 i : Iv
 nt : Bool
 left : List BA
 right : List BA
 time : Int
 waits : List Kp
 fn : Nat
 parts : Int
abbrev pcells10 (S : PS) (vl vr vw : Value) : Array Value := #[.int .i64 S.i.lo, .int .i64 S.i.hi, .bool S.i.op, .bool S.nt, vl, vr, .int .i64 S.time, vw, .func (.func S.fn) #[] #[], .int .i64 S.parts]
structure PastAt (Q : Nat -> Prop) (w : World) (p : Nat) (S : PS) (vl vr vw : Value) : Prop where
 box : w.heap[p]? = some (.cells (pcells10 S vl vr vw) 96 (0, 0))
 left : w.Sl 9 1 vl S.left.length (S.left.map Value.string)
 right : w.Sl 9 1 vr S.right.length (S.right.map Value.string)
 lw : ∀ s, s ∈ S.left -> s.size <= 9223372036854775807
 rw : ∀ s, s ∈ S.right -> s.size <= 9223372036854775807
 names : (∀ k, k ∈ vl.blk -> Q k) /\ ∀ k, k ∈ vr.blk -> Q k
 kept : KeptAt Q w vw S.waits
variable {Q : Nat -> Prop}
theorem KeptAt.fr {w w' : World} {v : Value} {ks : List Kp} {M : List Nat} (h : KeptAt Q w v ks) (hf : w.Fr w' M) (hM : Odd w M) (hv : ∀ k, k ∈ v.blk -> k ∉ M) : KeptAt Q w' v ks :=
 ⟨h.sl.fr hf hv, fun k hk => (h.tab k hk).fr hf hM⟩
theorem KeptAt.still {w w' : World} {v : Value} {ks : List Kp} (h : KeptAt Q w v ks) (hf : w.Fr w' []) : KeptAt Q w' v ks := h.fr hf (fun k hk => by simp at hk) (by simp)
theorem PastAt.still {w w' : World} {p : Nat} {S : PS} {vl vr vw : Value} (h : PastAt Q w p S vl vr vw) (hf : w.Fr w' []) : PastAt Q w' p S vl vr vw :=
 ⟨hf.heap h.box (by simp), h.left.fr hf (by simp), h.right.fr hf (by simp), h.lw, h.rw, h.names, h.kept.still hf⟩
theorem KeptAt.imp {R : Nat -> Prop} {w : World} {v : Value} {ks : List Kp} (h : KeptAt Q w v ks) (hq : ∀ k, k < w.heap.size -> Q k -> R k) : KeptAt R w v ks := ⟨h.sl, fun k hk => (h.tab k hk).imp hq⟩
theorem PastAt.imp {R : Nat -> Prop} {w : World} {p : Nat} {S : PS} {vl vr vw : Value} (h : PastAt Q w p S vl vr vw) (hq : ∀ k, k < w.heap.size -> Q k -> R k) : PastAt R w p S vl vr vw :=
 ⟨h.box, h.left, h.right, h.lw, h.rw, ⟨fun k hk => hq k (h.left.lt k hk) (h.names.1 k hk), fun k hk => hq k (h.right.lt k hk) (h.names.2 k hk)⟩, h.kept.imp hq⟩
theorem PastAt.rdl {w : World} {p : Nat} {S : PS} {vl vr vw : Value} (h : PastAt Q w p S vl vr vw) : RdStr w vl S.left := ⟨h.left.rd, h.lw⟩
theorem PastAt.rdr {w : World} {p : Nat} {S : PS} {vl vr vw : Value} (h : PastAt Q w p S vl vr vw) : RdStr w vr S.right := ⟨h.right.rd, h.rw⟩
theorem PastAt.odd {w : World} {p : Nat} {S : PS} {vl vr vw : Value} (h : PastAt Q w p S vl vr vw) : Odd w (p :: vw.blk) := by
 intro k hk
 rcases List.mem_cons.1 hk with rfl | hk
 ·exact ⟨_, _, h.box, by decide, by decide, by decide⟩
 ·rcases h.kept.sl.2 with ⟨rfl, _⟩ | ⟨g, off, cap, cur, rfl, hg, _⟩
  ·simp [Value.blk] at hk
  ·simp [Value.blk] at hk
   subst hk
   exact ⟨_, _, hg, by decide, by decide, by decide⟩
theorem ofT_none {cf : V -> V -> Int} {l : List BA} (hu : l.Pairwise fun a b => ltS a b = true) (h8 : l.length <= 8) : ofT cf l [] = (0, ⟨l, []⟩) := by
 unfold ofT
 rw [if_neg (fun h => h.elim (fun h => by omega) (fun h => h (nodup_of_pair hu)))]
 have h0 : rowsErr l.length [] = 0 := rfl
 rw [if_pos h0]
 have hc : canon cf [] = [] := by
  unfold canon
  split
  ·rename_i hx
   obtain ⟨_, h2⟩ := Classical.choose_spec hx
   exact List.eq_nil_iff_forall_not_mem.2 fun r hr => by simpa using (h2 r).1 hr
  ·rfl
 unfold madeT
 rw [sortS_of_pair hu, List.map_nil, hc]
theorem empty124 {okc : V -> Prop} {cf : V -> V -> Int} (hK : Ctx okc cf) {w : World} {p : Nat} {S : PS} {vl vr vw : Value} (h : PastAt Q w p S vl vr vw) (hu : S.right.Pairwise fun a b => ltS a b = true) (h8 : S.right.length <= 8) :
  Calls Tryz.prog 124 #[.pointer (some ⟨p, 0, none⟩)] w fun e w' => ∃ v, e = .returned v /\ OwnTab w w' v ⟨S.right, []⟩ := by
 have hq := h.box
 obtain ⟨a1, a2, rfl, _, _⟩ := h.right.shape
 have hr := h.rdr
 clear h
 have q2 := heap_alloc_at w (.cells #[.slice none 0 0, .slice none 0 0] 34) _ rfl
 have q1 := heap_alloc_some hq (.cells #[.slice none 0 0, .slice none 0 0] 34)
 have hf := (World.Fr.refl w []).alloc (.cells #[.slice none 0 0, .slice none 0 0] 34)
 have hc := empty31 hK (hr.fr hf (by simp)) (by omega)
 rw [ofT_none hu h8] at hc
 obtain ⟨b0, b1, b2, b3, b4, b5, b6, b7, b8, b9, bf⟩ := ten q1
 have hp := lt_of_heap q1
 have Hc := Hz hc; have Q2 := Hz q2; have HF := Hz hf
 clear hc q1 q2 hf hq hr h8 hu
 go_enter Tryz.func124, Tryz.ntmps124
 go_upto_region 1 with (fail)
 generalize hW : World.alloc w _ = W at *
 clear hW
 go_wp2_with fail
 (with_reducible refine Hc.out.mono ?_)
 rintro e w1 ⟨v, rfl, ho⟩
 obtain ⟨t1, t2, t3, t4, rfl⟩ := ho.shape
 simp only at ho ⊢
 have hb := heap_alloc_some (ho.fr.heap Q2.out (by simp)) (.cells #[.slice t1 S.right.length t2, .slice t3 0 t4] 34)
 have hb3 := heap_alloc_at w1 (.cells #[.slice t1 S.right.length t2, .slice t3 0 t4] 34) _ rfl
 have ho2 := (ho.stay ((World.Fr.refl w1 []).alloc (.cells #[.slice t1 S.right.length t2, .slice t3 0 t4] 34)))
 have ho3 := (ho2.since HF.out).put hb (Nat.le_refl _)
 obtain ⟨f0, f1, _⟩ := two ho3.2
 obtain ⟨m0, m1, mf⟩ := two hb3
 obtain ⟨n0, n1, nf⟩ := two hb
 have hz := lt_of_heap hb
 have hz3 := lt_of_heap hb3
 have Hfin := Hz ho3.1
 clear ho ho2 ho3 hb hb3 b0 b1 b2 b3 b4 b5 b6 b7 b8 b9 bf hp Hc Q2 HF
 simp only [List.length_nil] at *
 go_wp2
 refine bodyPost_ret (v := .agg #[.slice t1 _ t2, .slice t3 _ t4]) (by simp [results, Tryz.results124, go_sem, f0, f1]) rfl ⟨_, rfl, Hfin.out⟩
end
section
open Go.RowKit
theorem pick_own {l : List BA} (hn : l.Nodup) {r : Row} (hr : r.length = l.length) : pick l r l = r := by
 apply List.ext_getElem?
 intro i
 unfold pick
 rw [List.getElem?_map]
 by_cases hi : i < l.length
 ·rw [List.getElem?_eq_getElem hi, Option.map_some, idx_self hn i hi, Int.toNat_natCast, List.getD_eq_getElem?_getD, List.getElem?_eq_getElem (by omega)]
  rfl
 ·rw [List.getElem?_eq_none (by omega), List.getElem?_eq_none (by omega)]
  rfl
theorem vchecks_nil : ∀ r : Row, (∀ x, x ∈ r -> vcheck x = 0) -> vchecks r = 0
 | [], _ => rfl
 | a :: t, h => by
  unfold vchecks
  rw [if_pos (h a (by simp))]
  exact vchecks_nil t (fun x hx => h x (by simp [hx]))
theorem rowsErr_nil {n : Nat} : ∀ rs : List Row, (∀ r, r ∈ rs -> rowCheck n r = 0) -> rowsErr n rs = 0
 | [], _ => rfl
 | a :: t, h => by
  unfold rowsErr
  rw [if_pos (h a (by simp))]
  exact rowsErr_nil t (fun x hx => h x (by simp [hx]))
theorem ofT_own {cf : V -> V -> Int} (hO : OrdOk (fun v => V.wf v /\ vcheck v = 0) cf) {t : Tb} (h : tcheck cf t = 0) (hw : ∀ r, r ∈ t.rows -> ∀ x, x ∈ r -> V.wf x) : ofT cf t.vars t.rows = (0, t) := by
 obtain ⟨k1, k2, k3, k4⟩ := tcheck_zero h
 have hok : ∀ r, r ∈ t.rows -> ∀ x, x ∈ r -> V.wf x /\ vcheck x = 0 := fun r hr x hx => ⟨hw r hr x hx, (k3 r hr).2 x hx⟩
 have hp := pair_all hO t.rows hok k4
 unfold ofT
 rw [if_neg (fun h => h.elim (fun h => by omega) (fun h => h (nodup_of_pair k2))), if_pos (rowsErr_nil _ fun r hr => by unfold rowCheck; rw [if_pos (k3 r hr).1]; exact vchecks_nil r (k3 r hr).2)]
 congr 1
 unfold madeT
 rw [sortS_of_pair k2]
 have hm : (t.rows.map fun r => pick t.vars r t.vars) = t.rows := by
  conv => rhs; rw [<- List.map_id t.rows]
  exact List.map_congr_left fun r hr => pick_own (nodup_of_pair k2) (k3 r hr).1
 rw [hm, canon_eq hO hok hp (fun _ => Iff.rfl)]
theorem ofT_nil {cf : V -> V -> Int} {l : List BA} : ofT cf l [] = if 8 < l.length ∨ ¬ l.Nodup then (30, ⟨[], []⟩) else (0, ⟨sortS l, []⟩) := by
 unfold ofT
 by_cases h : 8 < l.length ∨ ¬ l.Nodup
 ·rw [if_pos h, if_pos h]
 ·rw [if_neg h, if_neg h]
  have h0 : rowsErr l.length [] = 0 := rfl
  rw [if_pos h0]
  congr 1
  have hc : canon cf [] = [] := by
   unfold canon
   split
   ·rename_i hx
    obtain ⟨_, h2⟩ := Classical.choose_spec hx
    exact List.eq_nil_iff_forall_not_mem.2 fun r hr => by simpa using (h2 r).1 hr
   ·rfl
  unfold madeT
  rw [List.map_nil, hc]
theorem copied62 {cf : V -> V -> Int} (hK : Ctx V.wf cf) {w : World} {v : Value} {t : Tb} (h : RdTab w v t) (hf : Fits V.wf t) (h0 : tcheck cf t = 0) :
  Calls Tryz.prog 62 #[v] w fun e w' => ∃ u, e = .returned u /\ OwnTab w w' u t := by
 obtain ⟨va, vb, hs, rfl, hv, hr⟩ := h.ex
 obtain ⟨a1, a2, rfl, _, _⟩ := hv.rd.shape
 obtain ⟨a3, a4, rfl, _, _⟩ := hr.rd.shape
 have hlen := hr.len
 rw [hlen] at hr ⊢
 have q1 := heap_alloc_some (heap_alloc_at w (.cells #[.slice a1 t.vars.length a2, .slice a3 t.rows.length a4] 34) _ rfl) (.cells #[.slice none 0 0, .slice none 0 0] 34)
 have q2 : ((w.alloc (.cells #[.slice a1 t.vars.length a2, .slice a3 t.rows.length a4] 34)).alloc (.cells #[.slice none 0 0, .slice none 0 0] 34)).heap[w.heap.size + 1]? = some (.cells #[.slice none 0 0, .slice none 0 0] 34 (0, 0)) := heap_alloc_at _ _ _ (by simp)
 have q3 := ((World.Fr.refl w []).alloc (.cells #[.slice a1 t.vars.length a2, .slice a3 t.rows.length a4] 34)).alloc (.cells #[.slice none 0 0, .slice none 0 0] 34)
 have hc := of32 hK (hv.fr q3 (by simp)) (hr.still q3) (by have := (tcheck_zero h0).1; omega) hf.rows hf.small.row hf.ok
 rw [ofT_own hK.ord h0 hf.ok] at hc
 have Hc := Hz hc; have Q2 := Hz q2; have HF := Hz q3
 clear hc h hf h0 hv hr hlen q3
 go_enter Tryz.func62, Tryz.ntmps62
 go_upto_region 1 with (fail)
 generalize hW : World.alloc (World.alloc w _) _ = W at *
 clear hW
 obtain ⟨m0, m1, mf⟩ := two q1
 have hp := lt_of_heap q1
 clear q1 q2
 go_wp2_with fail
 (with_reducible refine Hc.out.mono ?_)
 rintro e w1 ⟨u, rfl, ho⟩
 obtain ⟨t1, t2, t3, t4, rfl⟩ := ho.shape
 have hb := heap_alloc_some (ho.fr.heap Q2.out (by simp)) (.cells #[.slice t1 t.vars.length t2, .slice t3 t.rows.length t4] 34)
 have hb3 := heap_alloc_at w1 (.cells #[.slice t1 t.vars.length t2, .slice t3 t.rows.length t4] 34) _ rfl
 have ho2 := ho.stay ((World.Fr.refl w1 []).alloc (.cells #[.slice t1 t.vars.length t2, .slice t3 t.rows.length t4] 34))
 have ho3 := (ho2.since HF.out).put hb (by omega)
 obtain ⟨f0, f1, _⟩ := two ho3.2
 obtain ⟨z0, z1, zf⟩ := two hb3
 obtain ⟨n0, n1, nf⟩ := two hb
 have hz := lt_of_heap hb
 have hz3 := lt_of_heap hb3
 have Hfin := Hz ho3.1
 clear ho ho2 ho3 hb hb3 m0 m1 mf hp Hc Q2 HF
 go_wp2
 refine bodyPost_ret (v := .agg #[.slice t1 _ t2, .slice t3 _ t4]) (by simp [results, Tryz.results62, go_sem, f0, f1]) rfl ⟨_, rfl, Hfin.out⟩
def NamesOk (l : List BA) : Prop := l.length <= 8 /\ l.Nodup
open Classical in
noncomputable def beginE (i : Iv) (l r : List BA) : Int := if ivB i = false then 1 else if ¬ NamesOk l ∨ ¬ NamesOk r then 30 else if ∀ s, s ∈ l -> s ∈ r then 0 else 30
abbrev beginS (i : Iv) (nt : Bool) (l r : List BA) (fn : Nat) (parts : Int) : PS := ⟨i, nt, sortS l, sortS r, -1, [], fn, parts⟩
theorem ofT_ok {cf : V -> V -> Int} {l : List BA} (h : NamesOk l) : ofT cf l [] = (0, ⟨sortS l, []⟩) := by
 rw [ofT_nil, if_neg (fun h' => h'.elim (fun h1 => by have := h.1; omega) (fun h1 => h1 h.2))]
theorem ofT_bad {cf : V -> V -> Int} {l : List BA} (h : ¬ NamesOk l) : ofT cf l [] = (30, ⟨[], []⟩) := by
 rw [ofT_nil, if_pos]
 by_cases h8 : 8 < l.length
 ·exact .inl h8
 ·exact .inr fun hn => h ⟨by omega, hn⟩
theorem sortS_up {l : List BA} (h : NamesOk l) : ((sortS l).Pairwise fun a b => ltS a b = true) /\ (sortS l).length <= 8 := ⟨sortS_pair h.2, by have := (sortS_perm l).length_eq; have := h.1; omega⟩
end
section
open Go.RowKit
variable {Q : Nat -> Prop}
open Classical in
theorem begin58 {okc : V -> Prop} {cf : V -> V -> Int} (hK : Ctx okc cf) {w : World} (hQ : QFrom Q w) {i : Iv} {nt : Bool} {v1 v2 : Value} {l r : List BA} {parts : Int} {fn : Nat} (h1 : RdStr w v1 l) (h2 : RdStr w v2 r) (hl : l.length <= 8796093021952) (hr : r.length <= 8796093021952) :
  Calls Tryz.prog 58 #[ivV i, .bool nt, v1, v2, .int .i64 parts, .func (.func fn) #[] #[]] w fun e w' => (∃ p, e = .returned (.tuple #[p, .int .i64 (beginE i l r)]) /\ (beginE i l r ≠ 0 /\ p = .pointer none ∨ beginE i l r = 0 /\ ∃ k vl vr, p = .pointer (some ⟨k, 0, none⟩) /\ w.heap.size <= k /\ PastAt Q w' k (beginS i nt l r fn parts) vl vr (.slice none 0 0))) /\ w.Fr w' [] := by
 obtain ⟨lo, hi, op⟩ := i
 obtain ⟨a1, a2, rfl, _, _⟩ := h1.rd.shape
 obtain ⟨b1, b2, rfl, _, _⟩ := h2.rd.shape
 obtain ⟨R, hR⟩ : ∃ R, beginE ⟨lo, hi, op⟩ l r = R := ⟨_, rfl⟩
 rw [hR]
 generalize hn1 : l.length = n1 at *
 generalize hn2 : r.length = n2 at *
 rw [<- hn1] at hl
 rw [<- hn2] at hr
 have q1 := heap_alloc_at w (.cells #[.int .i64 lo, .int .i64 hi, .bool op] 23) _ rfl
 have f1 := (World.Fr.refl w []).alloc (.cells #[.int .i64 lo, .int .i64 hi, .bool op] 23)
 have H1 := Hz h1; have H2 := Hz h2; have HK := Hz hK; have HQf := Hz hQ; have HR := Hz hR; have Hl := Hz hl; have Hr := Hz hr
 clear hQ h1 h2 hK hR hl hr hn1 hn2
 go_enter Tryz.func58, Tryz.ntmps58
 go_upto_region 1 with (fail)
 generalize hW : World.alloc w _ = W at *
 clear hW
 generalize w.heap.size = p6 at *
 obtain ⟨c0, c1, c2, cf0⟩ := tri q1
 have hz := lt_of_heap q1
 have k := Hz (may122 ⟨lo, hi, op⟩ W)
 have Q1 := Hz q1; have F := Hz f1
 clear q1 f1
 go_wp2_with fail
 (with_reducible refine k.out.mono ?_)
 rintro e w1 ⟨rfl, fx⟩
 have Q1 := Hz (fx.heap Q1.out (by simp)); have F := Hz (F.out.trans fx (by simp))
 clear k fx c0 c1 c2 cf0 hz
 cases hB : ivB ⟨lo, hi, op⟩ with
 | false =>
  have hres : R = 1 := by rw [<- HR.out]; unfold beginE; rw [if_pos hB]
  subst hres
  clear HR hB
  go_wp2
  refine bodyPost_ret (v := .tuple #[.pointer none, _]) (by simp [results, Tryz.results58, go_sem]) rfl ⟨⟨.pointer none, rfl, .inl ⟨by decide, rfl⟩⟩, F.out⟩
 | true =>
  have hres : R = if ¬ NamesOk l ∨ ¬ NamesOk r then 30 else if ∀ s, s ∈ l -> s ∈ r then 0 else 30 := by rw [<- HR.out]; unfold beginE; rw [if_neg (by rw [hB]; simp)]
  have HR2 := Hz hres
  clear HR hB hres
  have k := Hz (empty31 HK.out (H1.out.fr F.out (by simp)) Hl.out)
  by_cases ho : NamesOk l
  ·rw [ofT_ok ho] at k
   have Ho := Hz ho
   clear ho
   go_wp2_with fail
   (with_reducible refine k.out.mono ?_)
   rintro e w2 ⟨u, rfl, ho⟩
   obtain ⟨s1, s2, s3, s4, rfl⟩ := ho.shape
   simp only [List.length_nil] at ho ⊢
   have HQw := HQf.out.fr F.out
   have Q1 := Hz (heap_alloc_some (ho.fr.heap Q1.out (by simp)) (.cells #[.slice s1 (sortS l).length s2, .slice s3 0 s4] 34))
   have Q14 := Hz (heap_alloc_at w2 (.cells #[.slice s1 (sortS l).length s2, .slice s3 0 s4] 34) _ rfl)
   have F := Hz (F.out.trans (ho.fr.alloc (.cells #[.slice s1 (sortS l).length s2, .slice s3 0 s4] 34)) (by simp))
   have O1 := Hz ((ho.stay ((World.Fr.refl w2 []).alloc (.cells #[.slice s1 (sortS l).length s2, .slice s3 0 s4] 34))).inq HQw)
   clear ho k HQw
   go_upto_region 4 with (fail)
   generalize hW : World.alloc w2 _ = w3 at *
   clear hW
   generalize w2.heap.size = p14 at *
   have k := Hz (empty31 HK.out (H2.out.fr F.out (by simp)) Hr.out)
   by_cases ho : NamesOk r
   ·rw [ofT_ok ho] at k
    have Ho2 := Hz ho
    clear ho
    go_wp2_with fail
    (with_reducible refine k.out.mono ?_)
    rintro e w4 ⟨u, rfl, ho⟩
    obtain ⟨t1, t2, t3, t4, rfl⟩ := ho.shape
    simp only [List.length_nil] at ho ⊢
    have HQw := HQf.out.fr F.out
    have Q1 := Hz (heap_alloc_some (ho.fr.heap Q1.out (by simp)) (.cells #[.slice t1 (sortS r).length t2, .slice t3 0 t4] 34))
    have Q14 := Hz (heap_alloc_some (ho.fr.heap Q14.out (by simp)) (.cells #[.slice t1 (sortS r).length t2, .slice t3 0 t4] 34))
    have Q16 := Hz (heap_alloc_at w4 (.cells #[.slice t1 (sortS r).length t2, .slice t3 0 t4] 34) _ rfl)
    have F := Hz (F.out.trans (ho.fr.alloc (.cells #[.slice t1 (sortS r).length t2, .slice t3 0 t4] 34)) (by simp))
    have O1 := Hz (O1.out.still (ho.fr.alloc (.cells #[.slice t1 (sortS r).length t2, .slice t3 0 t4] 34)))
    have O2 := Hz ((ho.stay ((World.Fr.refl w4 []).alloc (.cells #[.slice t1 (sortS r).length t2, .slice t3 0 t4] 34))).inq HQw)
    clear ho k HQw
    go_upto_region 7 with (fail)
    generalize hW : World.alloc w4 _ = w5 at *
    clear hW
    generalize w4.heap.size = p16 at *
    have hres : R = if ∀ s, s ∈ l -> s ∈ r then 0 else 30 := by rw [HR2.out, if_neg (fun h => h.elim (fun h => h Ho.out) (fun h => h Ho2.out))]
    have HR3 := Hz hres
    have hu1 := sortS_up Ho.out
    have hm1 : ∀ s, s ∈ sortS l ↔ s ∈ l := fun s => (sortS_perm l).mem_iff
    have hm2 : ∀ s, s ∈ sortS r ↔ s ∈ r := fun s => (sortS_perm r).mem_iff
    have hu2 := sortS_up Ho2.out
    obtain ⟨_, _, hs1, he, A1, _, _, N1, _⟩ := O1.out.ex
    cases he
    obtain ⟨_, _, hs2, he, A2, _, _, N2, _⟩ := O2.out.ex
    cases he
    have W1 := Hz O1.out.wf.1; have W2 := Hz O2.out.wf.1
    have Hm1 := Hz hm1; have Hm2 := Hz hm2; have Hu1 := Hz hu1; have Hu2 := Hz hu2; have HA1 := Hz A1; have HA2 := Hz A2; have HN1 := Hz N1; have HN2 := Hz N2
    clear hres HR2 hm1 hm2 hu1 hu2 A1 A2 N1 N2 O1 O2
    have hd1 := Hz (show RdStr w5 (.slice s1 (sortS l).length s2) (sortS l) from ⟨HA1.out.rd, W1.out⟩)
    have hd2 := Hz (show RdStr w5 (.slice t1 (sortS r).length t2) (sortS r) from ⟨HA2.out.rd, W2.out⟩)
    simp only at W1 W2 HA1 HA2
    have HBS := Hz (show beginS ⟨lo, hi, op⟩ nt l r fn parts = ⟨⟨lo, hi, op⟩, nt, sortS l, sortS r, -1, [], fn, parts⟩ from rfl)
    generalize sortS l = L at *
    generalize sortS r = M at *
    obtain ⟨c0, c1, c2, cf0⟩ := tri Q1.out
    obtain ⟨m0, m1, mf⟩ := two Q14.out
    obtain ⟨n0, n1, nf⟩ := two Q16.out
    have hz6 := lt_of_heap Q1.out
    have hz14 := lt_of_heap Q14.out
    have hz16 := lt_of_heap Q16.out
    have HI0 : Hid (∀ s, s ∈ L.take 0 -> s ∈ M) := Hz (by simp)
    go_wp2
    go_loopw [41] (fun i wr => ∃ j : Nat, i = .int .i64 j /\ j <= L.length /\ Hid (∀ s, s ∈ L.take j -> s ∈ M) /\ wr = w5) (fun i _ => (L.length - intOf i).toNat)
    case atStart => exact ⟨0, rfl, Nat.zero_le _, HI0, rfl⟩
    case round =>
     obtain ⟨j, rfl, hj, HI, rfl⟩ := hrel
     clear HI0
     by_cases hlt : j < L.length
     ·obtain ⟨s, hs⟩ : ∃ s, L[j]? = some s := ⟨L[j], List.getElem?_eq_getElem hlt⟩
      obtain ⟨g, off, c, hv, hg, kx⟩ := hd1.out.at hs
      cases hv
      have hjI : (j : Int) < (L.length : Int) := by omega
      have hw1 : IntKind.i64.wrap ((j : Int) + 1) = (j : Int) + 1 := IntWalk.i64_in _ (by have := Hu1.out.2; omega)
      have hnn : (0 : Int) <= (j : Int) := by omega
      have hk := contains67 s hd2.out (by have := Hu2.out.2; omega)
      have hsn : L.take (j + 1) = L.take j ++ [s] := by
       rw [List.take_succ_eq_append_getElem hlt, (List.getElem?_eq_some_iff.1 hs).2]
      have Hs := Hz (List.mem_of_getElem? hs)
      have Hk := Hz hk; have Hsn := Hz hsn
      clear hk hsn hs
      go_wp2_with fail
      (with_reducible refine Hk.out.mono ?_)
      rintro e w9 ⟨rfl, rfl⟩
      clear Hk
      by_cases hin : s ∈ M
      ·have hh : hasS M s = true := by unfold hasS; simp [hin]
       rw [hh]
       have HI2 : Hid (∀ s, s ∈ L.take (j + 1) -> s ∈ M) := Hz fun z hz => by
        rw [Hsn.out] at hz
        rcases List.mem_append.1 hz with h | h
        ·exact HI.out z h
        ·simp at h; subst h; exact hin
       clear hh hin
       go_wp2
       go_roundw
       case rel => exact ⟨j + 1, by go_num, by omega, HI2, trivial⟩
       case measure => simp [intOf]; omega
      ·have hh : hasS M s = false := by unfold hasS; simp [hin]
       rw [hh]
       have hres : R = 30 := by rw [HR3.out, if_neg (fun h => hin ((Hm2.out s).2 (h s ((Hm1.out s).1 Hs.out))))]
       subst hres
       clear hh hin HR3
       go_wp2
       refine bodyPost_ret (v := .tuple #[.pointer none, _]) (by simp [results, Tryz.results58, go_sem]) rfl ⟨⟨.pointer none, rfl, .inl ⟨by decide, rfl⟩⟩, F.out⟩
     ·have hd : decide ((j : Int) < (L.length : Int)) = false := decide_eq_false (by omega)
      have hd2' : decide (j < L.length) = false := decide_eq_false hlt
      obtain rfl : j = L.length := by omega
      have hI := HI.out
      rw [List.take_of_length_le (Nat.le_refl _)] at hI
      have hres : R = 0 := by rw [HR3.out, if_pos (fun s hs => (Hm2.out s).1 (hI s ((Hm1.out s).2 hs)))]
      subst hres
      clear HI hI HR3 hlt hj
      go_wp2
      have hb := heap_alloc_at wr (.cells (pcells10 ⟨⟨lo, hi, op⟩, nt, L, M, -1, [], fn, parts⟩ (.slice s1 L.length s2) (.slice t1 M.length t2) (.slice none 0 0)) 96) _ rfl
      have hf := (World.Fr.refl wr []).alloc (.cells (pcells10 ⟨⟨lo, hi, op⟩, nt, L, M, -1, [], fn, parts⟩ (.slice s1 L.length s2) (.slice t1 M.length t2) (.slice none 0 0)) 96)
      refine bodyPost_ret (v := .tuple #[.pointer (some ⟨wr.heap.size, 0, none⟩), _]) (by simp [results, Tryz.results58, go_sem]) rfl ⟨⟨.pointer (some ⟨wr.heap.size, 0, none⟩), rfl, ⟨wr.heap.size, rfl, F.out.size, .slice s1 L.length s2, .slice t1 M.length t2, by rw [HBS.out]; exact ⟨hb, HA1.out.fr hf (by simp), HA2.out.fr hf (by simp), W1.out, W2.out, ⟨HN1.out, HN2.out⟩, ⟨World.Sl.nil _ _ _, fun k hk => by simp at hk⟩⟩⟩⟩, F.out.trans hf (by simp)⟩
   ·rw [ofT_bad ho] at k
    have hres : R = 30 := by rw [HR2.out, if_pos (.inr ho)]
    subst hres
    clear ho HR2
    go_wp2_with fail
    (with_reducible refine k.out.mono ?_)
    rintro e w4 ⟨u, rfl, ho⟩
    obtain ⟨t1, t2, t3, t4, rfl⟩ := ho.shape
    simp only [List.length_nil] at ho ⊢
    have F := Hz (F.out.trans (ho.fr.alloc (.cells #[.slice t1 0 t2, .slice t3 0 t4] 34)) (by simp))
    clear ho k
    go_upto_region 7 with (fail)
    generalize hW : World.alloc w4 _ = w5 at *
    clear hW
    generalize w4.heap.size = p16 at *
    go_wp2
    refine bodyPost_ret (v := .tuple #[.pointer none, _]) (by simp [results, Tryz.results58, go_sem]) rfl ⟨⟨.pointer none, rfl, .inl ⟨by decide, rfl⟩⟩, F.out⟩
  ·rw [ofT_bad ho] at k
   have hres : R = 30 := by rw [HR2.out, if_pos (.inl ho)]
   subst hres
   clear ho HR2
   go_wp2_with fail
   (with_reducible refine k.out.mono ?_)
   rintro e w2 ⟨u, rfl, ho⟩
   obtain ⟨s1, s2, s3, s4, rfl⟩ := ho.shape
   simp only [List.length_nil] at ho ⊢
   have F := Hz (F.out.trans (ho.fr.alloc (.cells #[.slice s1 0 s2, .slice s3 0 s4] 34)) (by simp))
   clear ho k
   go_upto_region 4 with (fail)
   generalize hW : World.alloc w2 _ = w3 at *
   clear hW
   generalize w2.heap.size = p14 at *
   go_wp2
   refine bodyPost_ret (v := .tuple #[.pointer none, _]) (by simp [results, Tryz.results58, go_sem]) rfl ⟨⟨.pointer none, rfl, .inl ⟨by decide, rfl⟩⟩, F.out⟩
end
section
open Go.RowKit
variable {Q : Nat -> Prop}
theorem RdStr.none (w : World) : RdStr w (.slice none 0 0) [] := ⟨rdNil w 1, by simp⟩
theorem prev16 {okc : V -> Prop} {cf : V -> V -> Int} (hK : Ctx okc cf) {w : World} (hQ : QFrom Q w) {i : Iv} {v2 : Value} {r : List BA} (h2 : RdStr w v2 r) (hr : r.length <= 8796093021952) :
  Calls Tryz.prog 16 #[ivV i, v2] w fun e w' => (∃ p, e = .returned (.tuple #[p, .int .i64 (beginE i [] r)]) /\ (beginE i [] r ≠ 0 /\ p = .pointer none ∨ beginE i [] r = 0 /\ ∃ k vl vr, p = .pointer (some ⟨k, 0, none⟩) /\ w.heap.size <= k /\ PastAt Q w' k (beginS i false [] r 59 1) vl vr (.slice none 0 0))) /\ w.Fr w' [] := by
 obtain ⟨lo, hi, op⟩ := i
 have q1 := heap_alloc_at w (.cells #[.int .i64 lo, .int .i64 hi, .bool op] 23) _ rfl
 have f1 := (World.Fr.refl w []).alloc (.cells #[.int .i64 lo, .int .i64 hi, .bool op] 23)
 have hc := begin58 hK (hQ.fr f1) (i := ⟨lo, hi, op⟩) (nt := false) (parts := 1) (fn := 59) (RdStr.none _) (h2.fr f1 (by simp)) (by simp) hr
 obtain ⟨c0, c1, c2, cf0⟩ := tri q1
 have hz := lt_of_heap q1
 have Hc := Hz hc; have F := Hz f1; have F0 := Hz f1.size
 clear hc f1 q1 h2  hK hr
 obtain ⟨SS, hSS⟩ : ∃ SS, beginS ⟨lo, hi, op⟩ false [] r 59 1 = SS := ⟨_, rfl⟩
 obtain ⟨R, hR⟩ : ∃ R, beginE ⟨lo, hi, op⟩ [] r = R := ⟨_, rfl⟩
 rw [hSS, hR] at Hc
 rw [hSS, hR]
 clear hSS hR
 go_enter Tryz.func16, Tryz.ntmps16
 go_upto_region 1 with (fail)
 generalize hW : World.alloc w _ = W at *
 clear hW
 go_wp2_with fail
 (with_reducible refine Hc.out.mono ?_)
 rintro e w1 ⟨⟨p, rfl, hp⟩, fx⟩
 have F := Hz (F.out.trans fx (by simp))
 have hsz : w.heap.size <= W.heap.size := F0.out
 have Hp := Hz hp
 clear hp fx c0 c1 c2 cf0 hz
 go_wp2
 refine bodyPost_ret (v := .tuple #[p, .int .i64 R]) (by simp [results, Tryz.results16, go_sem]) rfl ⟨⟨p, rfl, ?_⟩, F.out⟩
 rcases Hp.out with h | ⟨h, k, vl, vr, h1, h2, h3⟩
 ·exact .inl h
 ·exact .inr ⟨h, k, vl, vr, h1, by omega, h3⟩
theorem once20 {okc : V -> Prop} {cf : V -> V -> Int} (hK : Ctx okc cf) {w : World} (hQ : QFrom Q w) {i : Iv} {v2 : Value} {r : List BA} (h2 : RdStr w v2 r) (hr : r.length <= 8796093021952) :
  Calls Tryz.prog 20 #[ivV i, v2] w fun e w' => (∃ p, e = .returned (.tuple #[p, .int .i64 (beginE i [] r)]) /\ (beginE i [] r ≠ 0 /\ p = .pointer none ∨ beginE i [] r = 0 /\ ∃ k vl vr, p = .pointer (some ⟨k, 0, none⟩) /\ w.heap.size <= k /\ PastAt Q w' k (beginS i false [] r 65 1) vl vr (.slice none 0 0))) /\ w.Fr w' [] := by
 obtain ⟨lo, hi, op⟩ := i
 have q1 := heap_alloc_at w (.cells #[.int .i64 lo, .int .i64 hi, .bool op] 23) _ rfl
 have f1 := (World.Fr.refl w []).alloc (.cells #[.int .i64 lo, .int .i64 hi, .bool op] 23)
 have hc := begin58 hK (hQ.fr f1) (i := ⟨lo, hi, op⟩) (nt := false) (parts := 1) (fn := 65) (RdStr.none _) (h2.fr f1 (by simp)) (by simp) hr
 obtain ⟨c0, c1, c2, cf0⟩ := tri q1
 have hz := lt_of_heap q1
 have Hc := Hz hc; have F := Hz f1; have F0 := Hz f1.size
 clear hc f1 q1 h2  hK hr
 obtain ⟨SS, hSS⟩ : ∃ SS, beginS ⟨lo, hi, op⟩ false [] r 65 1 = SS := ⟨_, rfl⟩
 obtain ⟨R, hR⟩ : ∃ R, beginE ⟨lo, hi, op⟩ [] r = R := ⟨_, rfl⟩
 rw [hSS, hR] at Hc
 rw [hSS, hR]
 clear hSS hR
 go_enter Tryz.func20, Tryz.ntmps20
 go_upto_region 1 with (fail)
 generalize hW : World.alloc w _ = W at *
 clear hW
 go_wp2_with fail
 (with_reducible refine Hc.out.mono ?_)
 rintro e w1 ⟨⟨p, rfl, hp⟩, fx⟩
 have F := Hz (F.out.trans fx (by simp))
 have hsz : w.heap.size <= W.heap.size := F0.out
 have Hp := Hz hp
 clear hp fx c0 c1 c2 cf0 hz
 go_wp2
 refine bodyPost_ret (v := .tuple #[p, .int .i64 R]) (by simp [results, Tryz.results20, go_sem]) rfl ⟨⟨p, rfl, ?_⟩, F.out⟩
 rcases Hp.out with h | ⟨h, k, vl, vr, h1, h2, h3⟩
 ·exact .inl h
 ·exact .inr ⟨h, k, vl, vr, h1, by omega, h3⟩
theorem since21 {okc : V -> Prop} {cf : V -> V -> Int} (hK : Ctx okc cf) {w : World} (hQ : QFrom Q w) {i : Iv} {nt : Bool} {v1 v2 : Value} {l r : List BA} (h1 : RdStr w v1 l) (h2 : RdStr w v2 r) (hl : l.length <= 8796093021952) (hr : r.length <= 8796093021952) :
  Calls Tryz.prog 21 #[ivV i, .bool nt, v1, v2] w fun e w' => (∃ p, e = .returned (.tuple #[p, .int .i64 (beginE i l r)]) /\ (beginE i l r ≠ 0 /\ p = .pointer none ∨ beginE i l r = 0 /\ ∃ k vl vr, p = .pointer (some ⟨k, 0, none⟩) /\ w.heap.size <= k /\ PastAt Q w' k (beginS i nt l r 65 2) vl vr (.slice none 0 0))) /\ w.Fr w' [] := by
 obtain ⟨lo, hi, op⟩ := i
 have q1 := heap_alloc_at w (.cells #[.int .i64 lo, .int .i64 hi, .bool op] 23) _ rfl
 have f1 := (World.Fr.refl w []).alloc (.cells #[.int .i64 lo, .int .i64 hi, .bool op] 23)
 have hc := begin58 hK (hQ.fr f1) (i := ⟨lo, hi, op⟩) (nt := nt) (parts := 2) (fn := 65) (h1.fr f1 (by simp)) (h2.fr f1 (by simp)) hl hr
 obtain ⟨c0, c1, c2, cf0⟩ := tri q1
 have hz := lt_of_heap q1
 have Hc := Hz hc; have F := Hz f1; have F0 := Hz f1.size
 clear hc f1 q1 h2 h1 hl hK hr
 obtain ⟨SS, hSS⟩ : ∃ SS, beginS ⟨lo, hi, op⟩ nt l r 65 2 = SS := ⟨_, rfl⟩
 obtain ⟨R, hR⟩ : ∃ R, beginE ⟨lo, hi, op⟩ l r = R := ⟨_, rfl⟩
 rw [hSS, hR] at Hc
 rw [hSS, hR]
 clear hSS hR
 go_enter Tryz.func21, Tryz.ntmps21
 go_upto_region 1 with (fail)
 generalize hW : World.alloc w _ = W at *
 clear hW
 go_wp2_with fail
 (with_reducible refine Hc.out.mono ?_)
 rintro e w1 ⟨⟨p, rfl, hp⟩, fx⟩
 have F := Hz (F.out.trans fx (by simp))
 have hsz : w.heap.size <= W.heap.size := F0.out
 have Hp := Hz hp
 clear hp fx c0 c1 c2 cf0 hz
 go_wp2
 refine bodyPost_ret (v := .tuple #[p, .int .i64 R]) (by simp [results, Tryz.results21, go_sem]) rfl ⟨⟨p, rfl, ?_⟩, F.out⟩
 rcases Hp.out with h | ⟨h, k, vl, vr, h1, h2, h3⟩
 ·exact .inl h
 ·exact .inr ⟨h, k, vl, vr, h1, by omega, h3⟩
end
section
open Go.RowKit
variable {Q : Nat -> Prop}
theorem eqq106 {w : World} {v1 v2 : Value} {r s : List BA} (h1 : RdStr w v1 r) (h2 : RdStr w v2 s) (hl : r.length <= 9223372036854775807) (hm : s.length <= 9223372036854775807) :
  Calls Tryz.prog 106 #[v1, v2] w fun e w' => e = .returned (.bool (eqB r s)) /\ ∃ q, w' = w.drewN q := by
 obtain ⟨a1, c1, rfl, _, _⟩ := h1.rd.shape
 obtain ⟨a2, c2, rfl, _, _⟩ := h2.rd.shape
 by_cases hn : r.length = s.length
 ·by_cases h0 : r.length = 0
  ·have hr : r = [] := List.length_eq_zero_iff.1 h0
   have hs : s = [] := List.length_eq_zero_iff.1 (hn.symm.trans h0)
   subst hr hs
   refine (Tryz.slices_Equal_string_empty a1 a2 c1 0 c2 w (by omega)).mono ?_
   rintro e w' ⟨rfl, rfl⟩
   exact ⟨by rw [eqB_true rfl]; rfl, 0, rfl⟩
  ·obtain ⟨g1, o1, d1, e1, _, _, _, k1⟩ := h1.rd.form (by omega)
   obtain ⟨g2, o2, d2, e2, _, _, _, k2⟩ := h2.rd.form (by omega)
   cases e1; cases e2
   refine (Tryz.slices_Equal_string g1 o1 r.length c1 g2 o2 s.length c2 r s w (Nat.le_refl _) (Nat.le_refl _) hl hm ?_ ?_).mono ?_
   ·intro j hj
    rw [k1 j (by omega), List.getElem?_map, List.getElem?_eq_getElem hj, List.getD_eq_getElem?_getD, List.getElem?_eq_getElem hj]
    rfl
   ·intro j hj
    rw [k2 j (by omega), List.getElem?_map, List.getElem?_eq_getElem hj, List.getD_eq_getElem?_getD, List.getElem?_eq_getElem hj]
    rfl
   ·rintro e w' ⟨rfl, q⟩
    exact ⟨by rw [List.take_length, List.take_length]; simp [eqB], q⟩
 ·refine (Tryz.slices_Equal_string_lens a1 a2 r.length c1 s.length c2 w hn).mono ?_
  rintro e w' ⟨rfl, rfl⟩
  exact ⟨by rw [eqB_false (fun h => hn (by rw [h]))], 0, rfl⟩
noncomputable def firstBad (cf : V -> V -> Int) : List Tb -> Int
 | [] => 0
 | t :: ts => if tcheck cf t = 0 then firstBad cf ts else tcheck cf t
theorem firstBad_append {cf : V -> V -> Int} (a b : List Tb) : firstBad cf (a ++ b) = if firstBad cf a = 0 then firstBad cf b else firstBad cf a := by
 induction a with
 | nil => simp [firstBad]
 | cons x t ih =>
  simp only [List.cons_append, firstBad]
  by_cases h : tcheck cf x = 0
  ·simp only [if_pos h]; exact ih
  ·simp only [if_neg h]
theorem firstBad_step {cf : V -> V -> Int} {ts : List Tb} {j : Nat} {t : Tb} (hj : ts[j]? = some t) (h0 : firstBad cf (ts.take j) = 0) : firstBad cf (ts.take (j + 1)) = tcheck cf t := by
 have hlt := (List.getElem?_eq_some_iff.1 hj).1
 rw [List.take_succ_eq_append_getElem hlt, (List.getElem?_eq_some_iff.1 hj).2, firstBad_append, if_pos h0]
 unfold firstBad
 by_cases h : tcheck cf t = 0
 ·rw [if_pos h, h]; rfl
 ·rw [if_neg h]
theorem firstBad_found {cf : V -> V -> Int} {ts : List Tb} {j : Nat} {t : Tb} (hj : ts[j]? = some t) (h0 : firstBad cf (ts.take j) = 0) (h : tcheck cf t ≠ 0) : firstBad cf ts = tcheck cf t := by
 conv => lhs; rw [<- List.take_append_drop (j + 1) ts]
 rw [firstBad_append, firstBad_step hj h0, if_neg h]
theorem firstBad_zero {cf : V -> V -> Int} {ts : List Tb} (h : firstBad cf ts = 0) : ∀ t, t ∈ ts -> tcheck cf t = 0 := by
 induction ts with
 | nil => simp
 | cons x t ih =>
  unfold firstBad at h
  by_cases hx : tcheck cf x = 0
  ·rw [if_pos hx] at h
   intro y hy
   rcases List.mem_cons.1 hy with rfl | hy
   ·exact hx
   ·exact ih h y hy
  ·rw [if_neg hx] at h
   exact absurd h hx
open Classical in
noncomputable def wrongE (cf : V -> V -> Int) (S : PS) (n : Int) (ts : List Tb) : Int :=
 if n < 0 ∨ 1099511627776 < n ∨ n < S.time then 80
 else if (ts.length : Int) ≠ S.parts then 1
 else if firstBad cf ts ≠ 0 then firstBad cf ts
 else if (S.parts = 2 /\ ∃ t, ts[0]? = some t /\ t.vars ≠ S.left) ∨ (∃ t, ts[ts.length - 1]? = some t /\ t.vars ≠ S.right) then 30 else 0
theorem wrong61 {okc : V -> Prop} {cf : V -> V -> Int} (hK : Ctx okc cf) {w : World} {p : Nat} {S : PS} {vl vr vw v : Value} {ts : List Tb} {n : Int} (h : PastAt Q w p S vl vr vw) (ht : RdTabs w v ts) (hS : S.left.length <= 8 /\ S.right.length <= 8) (hp : S.parts = 1 ∨ S.parts = 2) (hts : ts.length <= 8796093021952) (hf : ∀ t, t ∈ ts -> Fits okc t) :
  Calls Tryz.prog 61 #[.pointer (some ⟨p, 0, none⟩), .int .i64 n, v] w fun e w' => e = .returned (.int .i64 (wrongE cf S n ts)) /\ w.Fr w' [] := by
 obtain ⟨v1, v2, rfl⟩ := ht.shape
 obtain ⟨a1, a2, rfl, _, _⟩ := h.left.shape
 obtain ⟨b1, b2, rfl, _, _⟩ := h.right.shape
 obtain ⟨R, hR⟩ : ∃ R, wrongE cf S n ts = R := ⟨_, rfl⟩
 rw [hR]
 unfold wrongE at hR
 have hq := h.box
 have hl := h.rdl; have hr := h.rdr
 have H := Hz h; have HT := Hz ht; have HK := Hz hK; have HF := Hz hf; have HR := Hz hR; have HS := Hz hS; have Hts := Hz hts
 have Q := Hz hq; have HL := Hz hl; have HRR := Hz hr; have HP := Hz hp
 obtain ⟨e0, e1, e2, e3, e4, e5, e6, e7, e8, e9, ef⟩ := ten hq
 have hz := lt_of_heap hq
 clear h ht hK hf hR hS hts hq hl hr hp
 go_enter Tryz.func61, Tryz.ntmps61
 cases h1 : decide (n < 0) with
 | true =>
  have hres : R = 80 := by rw [<- HR.out, if_pos (.inl (of_decide_eq_true h1))]
  subst hres
  clear HR
  go_wp2
  go_ret
  exact ⟨rfl, World.Fr.refl w []⟩
 | false =>
 cases h2 : decide (1099511627776 < n) with
 | true =>
  have hres : R = 80 := by rw [<- HR.out, if_pos (.inr (.inl (of_decide_eq_true h2)))]
  subst hres
  clear HR
  go_wp2
  go_ret
  exact ⟨rfl, World.Fr.refl w []⟩
 | false =>
 cases h3 : decide (n < S.time) with
 | true =>
  have hres : R = 80 := by rw [<- HR.out, if_pos (.inr (.inr (of_decide_eq_true h3)))]
  subst hres
  clear HR
  go_wp2
  go_ret
  exact ⟨rfl, World.Fr.refl w []⟩
 | false =>
 have hR := HR.out
 rw [if_neg (fun h => h.elim (fun h => of_decide_eq_false h1 h) (fun h => h.elim (fun h => of_decide_eq_false h2 h) (fun h => of_decide_eq_false h3 h)))] at hR
 clear HR
 by_cases h4 : (ts.length : Int) = S.parts
 ·rw [if_neg (fun h => h h4)] at hR
  have h5 : ((ts.length : Int) != S.parts) = false := by simp [h4]
  have HR := Hz hR
  have H4 := Hz h4
  clear hR h4
  have HB0 : Hid (firstBad cf (ts.take 0) = 0) := Hz rfl
  go_wp2
  have HFr := Hz (World.Fr.refl w [])
  go_loopw [33] (fun i wr => ∃ j : Nat, i = .int .i64 j /\ j <= ts.length /\ Hid (firstBad cf (ts.take j) = 0) /\ Hid (w.Fr wr [])) (fun i _ => (ts.length - intOf i).toNat)
  case atStart => exact ⟨0, rfl, Nat.zero_le _, HB0, HFr⟩
  case round =>
   obtain ⟨j, rfl, hj, HB, HW⟩ := hrel
   clear HB0 HFr e0 e1 e2 e3 e4 e5 e6 e7 e8 e9 ef
   by_cases hlt : j < ts.length
   ·obtain ⟨t, ht⟩ : ∃ t, ts[j]? = some t := ⟨ts[j], List.getElem?_eq_getElem hlt⟩
    obtain ⟨g, off, c, x1, x2, x3, x4, hv, hg, k1, k2, hrd⟩ := (HT.out.still HW.out).at ht
    cases hv
    have hjI : (j : Int) < (ts.length : Int) := by omega
    have hw1 : IntKind.i64.wrap ((j : Int) + 1) = (j : Int) + 1 := IntWalk.i64_in _ (by have := Hts.out; omega)
    have hnn : (0 : Int) <= (j : Int) := by omega
    have hfit := HF.out t (List.mem_of_getElem? ht)
    have hc := check15' HK.out.known (hrd.still ((World.Fr.refl wr []).alloc (.cells #[.slice x1 t.vars.length x2, .slice x3 t.rows.length x4] 34))) hfit.ok hfit.small
    have q8 := heap_alloc_at wr (.cells #[.slice x1 t.vars.length x2, .slice x3 t.rows.length x4] 34) _ rfl
    have HW := Hz (HW.out.trans ((World.Fr.refl wr []).alloc (.cells #[.slice x1 t.vars.length x2, .slice x3 t.rows.length x4] 34)) (by simp))
    have Hc := Hz hc; have Ht := Hz ht
    clear hc ht hrd hfit
    go_upto_region 8 with (fail)
    generalize hWW : World.alloc wr _ = w8 at *
    clear hWW
    generalize wr.heap.size = p8 at *
    obtain ⟨m0, m1, mf⟩ := two q8
    have hz8 := lt_of_heap q8
    clear q8 k1 k2 hg
    go_wp2_with fail
    (with_reducible refine Hc.out.mono ?_)
    rintro e w9 ⟨rfl, fx⟩
    have HW := Hz (HW.out.trans fx (by simp))
    clear fx m0 m1 mf hz8 Hc
    by_cases h0 : tcheck cf t = 0
    ·have h0b : (tcheck cf t != 0) = false := by simp [h0]
     have HB2 := Hz ((firstBad_step Ht.out HB.out).trans h0)
     clear h0
     go_wp2
     go_roundw
     case rel => exact ⟨j + 1, by go_num, by omega, HB2, HW⟩
     case measure => simp [intOf]; omega
    ·have h0b : (tcheck cf t != 0) = true := by simp [h0]
     have hb := firstBad_found Ht.out HB.out h0
     have hres : R = tcheck cf t := by rw [<- HR.out, if_pos (by rw [hb]; exact h0), hb]
     subst hres
     clear HR h0 hb
     go_wp2
     go_ret
     exact ⟨rfl, HW.out⟩
   ·have hd : decide ((j : Int) < (ts.length : Int)) = false := decide_eq_false (by omega)
    have hd2 : decide (j < ts.length) = false := decide_eq_false hlt
    obtain rfl : j = ts.length := by omega
    have hb := HB.out
    rw [List.take_of_length_le (Nat.le_refl _)] at hb
    have hR := HR.out
    rw [if_neg (fun h => h hb)] at hR
    clear HB HR hb hj hlt hd hd2
    have q := HW.out.heap Q.out (by simp)
    obtain ⟨e0, e1, e2, e3, e4, e5, e6, e7, e8, e9, ef⟩ := ten q
    have hzr := lt_of_heap q
    have hls := HS.out
    have hrr := HRR.out.fr HW.out (by simp)
    have hll := HL.out.fr HW.out (by simp)
    clear q
    rcases HP.out with hp | hp
    ·rw [hp] at e9 hR
     have h4 := H4.out
     rw [hp] at h4
     have h1 : ts.length = 1 := by omega
     obtain ⟨t, ht⟩ : ∃ t, ts[0]? = some t := ⟨ts[0], List.getElem?_eq_getElem (by omega)⟩
     obtain ⟨g, off, c, x1, x2, x3, x4, hv, hg, k1, k2, hrd⟩ := (HT.out.still HW.out).at ht
     cases hv
     simp only [Nat.zero_mul, Nat.add_zero] at k1 k2
     have hvr : RdStr wr (.slice x1 t.vars.length x2) t.vars := by
      obtain ⟨va, vb, hs, he, hv, _⟩ := hrd.ex
      cases he
      exact hv
     have hfit := HF.out t (List.mem_of_getElem? ht)
     have hq1 : ∀ m, Calls Tryz.prog 106 #[.slice x1 t.vars.length x2, .slice b1 S.right.length b2] (wr.drewN m) fun e w' => e = .returned (.bool (eqB t.vars S.right)) /\ ∃ q, w' = (wr.drewN m).drewN q := fun m => eqq106 (hvr.fr ((World.Fr.refl wr []).of_drewN m) (by simp)) (hrr.fr ((World.Fr.refl wr []).of_drewN m) (by simp)) (by have := hfit.small.vars; omega) (by omega)
     by_cases he : t.vars = S.right
     ·have hres : R = 0 := by
       rw [<- hR, if_neg]
       rintro (⟨h, _⟩ | ⟨t', g1, g2⟩)
       ·omega
       ·rw [h1] at g1; simp only [Nat.sub_self] at g1; rw [ht] at g1; cases g1; exact g2 he
      subst hres
      rw [eqB_true he] at hq1
      clear hR he
      simp only [h1] at *
      go_wp2
      go_quiet (first | (go_at_call 106; with_reducible exact Calls.quiet_of (hq1 _)))
      go_wp2
      go_ret
      exact ⟨rfl, HW.out.of_drewN _⟩
     ·have hres : R = 30 := by
       rw [<- hR, if_pos (.inr ⟨t, by rw [h1]; exact ht, he⟩)]
      subst hres
      rw [eqB_false he] at hq1
      clear hR he
      simp only [h1] at *
      go_wp2
      go_quiet (first | (go_at_call 106; with_reducible exact Calls.quiet_of (hq1 _)))
      go_wp2
      go_ret
      exact ⟨rfl, HW.out.of_drewN _⟩
    ·rw [hp] at e9 hR
     have h4 := H4.out
     rw [hp] at h4
     have h1 : ts.length = 2 := by omega
     obtain ⟨t, ht⟩ : ∃ t, ts[0]? = some t := ⟨ts[0], List.getElem?_eq_getElem (by omega)⟩
     obtain ⟨t', ht'⟩ : ∃ t, ts[1]? = some t := ⟨ts[1], List.getElem?_eq_getElem (by omega)⟩
     obtain ⟨g, off, c, x1, x2, x3, x4, hv, hg, k1, k2, hrd⟩ := (HT.out.still HW.out).at ht
     obtain ⟨g', off', c', y1, y2, y3, y4, hv', hg', k3, k4, hrd'⟩ := (HT.out.still HW.out).at ht'
     cases hv
     cases hv'
     simp only [Nat.zero_mul, Nat.add_zero, Nat.one_mul] at k1 k2 k3 k4
     have hvr : RdStr wr (.slice x1 t.vars.length x2) t.vars := by
      obtain ⟨va, vb, hs, he, hv, _⟩ := hrd.ex
      cases he
      exact hv
     have hvr' : RdStr wr (.slice y1 t'.vars.length y2) t'.vars := by
      obtain ⟨va, vb, hs, he, hv, _⟩ := hrd'.ex
      cases he
      exact hv
     have hfit := HF.out t (List.mem_of_getElem? ht)
     have hfit' := HF.out t' (List.mem_of_getElem? ht')
     have hq0 : ∀ m, Calls Tryz.prog 106 #[.slice x1 t.vars.length x2, .slice a1 S.left.length a2] (wr.drewN m) fun e w' => e = .returned (.bool (eqB t.vars S.left)) /\ ∃ q, w' = (wr.drewN m).drewN q := fun m => eqq106 (hvr.fr ((World.Fr.refl wr []).of_drewN m) (by simp)) (hll.fr ((World.Fr.refl wr []).of_drewN m) (by simp)) (by have := hfit.small.vars; omega) (by omega)
     have hq1 : ∀ m, Calls Tryz.prog 106 #[.slice y1 t'.vars.length y2, .slice b1 S.right.length b2] (wr.drewN m) fun e w' => e = .returned (.bool (eqB t'.vars S.right)) /\ ∃ q, w' = (wr.drewN m).drewN q := fun m => eqq106 (hvr'.fr ((World.Fr.refl wr []).of_drewN m) (by simp)) (hrr.fr ((World.Fr.refl wr []).of_drewN m) (by simp)) (by have := hfit'.small.vars; omega) (by omega)
     by_cases hel : t.vars = S.left
     ·rw [eqB_true hel] at hq0
      by_cases he : t'.vars = S.right
      ·have hres : R = 0 := by
        rw [<- hR, if_neg]
        rintro (⟨_, t'', g1, g2⟩ | ⟨t'', g1, g2⟩)
        ·rw [ht] at g1; cases g1; exact g2 hel
        ·rw [h1] at g1; rw [ht'] at g1; cases g1; exact g2 he
       subst hres
       rw [eqB_true he] at hq1
       clear hR he hel
       simp only [h1] at *
       go_wp2
       go_quiet (first | (go_at_call 106; with_reducible exact Calls.quiet_of (hq0 _)) | (go_at_call 106; with_reducible exact Calls.quiet_of (hq1 _)))
       go_wp2
       go_ret
       exact ⟨rfl, HW.out.of_drewN _⟩
      ·have hres : R = 30 := by
        rw [<- hR, if_pos (.inr ⟨t', by rw [h1]; exact ht', he⟩)]
       subst hres
       rw [eqB_false he] at hq1
       clear hR he hel
       simp only [h1] at *
       go_wp2
       go_quiet (first | (go_at_call 106; with_reducible exact Calls.quiet_of (hq0 _)) | (go_at_call 106; with_reducible exact Calls.quiet_of (hq1 _)))
       go_wp2
       go_ret
       exact ⟨rfl, HW.out.of_drewN _⟩
     ·have hres : R = 30 := by
       rw [<- hR, if_pos (.inl ⟨rfl, t, ht, hel⟩)]
      subst hres
      rw [eqB_false hel] at hq0
      clear hR hel
      simp only [h1] at *
      go_wp2
      go_quiet (first | (go_at_call 106; with_reducible exact Calls.quiet_of (hq0 _)))
      go_wp2
      go_ret
      exact ⟨rfl, HW.out.of_drewN _⟩
 ·rw [if_pos h4] at hR
  have h5 : ((ts.length : Int) != S.parts) = true := by simp [h4]
  subst hR
  clear h4
  go_wp2
  go_ret
  exact ⟨rfl, World.Fr.refl w []⟩
end
end Go.Proofs.YtbejmdlncnkaaaaGreat
