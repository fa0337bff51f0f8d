/-
  Package past: what prev tells. Package past: which of the points kept are let go: since's closure; slices.IndexFunc with it. Package past: slices.DeleteFunc at points kept: stores and clear at elements of three cells. Package past: slices.DeleteFunc at points kept. Package past: what since tells. Package past, plainly: the tables that Once and Since keep and tell may be, and are small.
-/
import Derived.Test.YtbejmdlncnkaaaaGreatPaA
import Derived.Test.YtbejmdlncnkaaaaGreatAlgA
import Derived.Test.YtbejmdlncnkaaaaGreatTbZ
import Derived.Test.YtbejmdlncnkaaaaGreatTbY
namespace Go.Proofs.YtbejmdlncnkaaaaGreat
section
open Go.RowKit
theorem flat3 {ks : List Kp} {j : Nat} {k : Kp} (h : ks[j]? = some k) : (ks.flatMap Kp.cells)[j * 3]? = some (.int .i64 k.time) /\ (ks.flatMap Kp.cells)[j * 3 + 1]? = some k.a /\ (ks.flatMap Kp.cells)[j * 3 + 2]? = some k.b := by
 induction ks generalizing j with
 | nil => simp at h
 | cons a t ih =>
  cases j with
  | zero => simp at h; subst h; simp [Kp.cells]
  | succ j =>
   have h' : t[j]? = some k := by simpa using h
   obtain ⟨i1, i2, i3⟩ := ih h'
   simp only [List.flatMap_cons]
   rw [List.getElem?_append_right (by simp [Kp.cells]; omega), List.getElem?_append_right (by simp [Kp.cells]; omega), List.getElem?_append_right (by simp [Kp.cells]; omega)]
   have e1 : (j + 1) * 3 - a.cells.length = j * 3 := by simp [Kp.cells]; omega
   have e2 : (j + 1) * 3 + 1 - a.cells.length = j * 3 + 1 := by simp [Kp.cells]; omega
   have e3 : (j + 1) * 3 + 2 - a.cells.length = j * 3 + 2 := by simp [Kp.cells]; omega
   rw [e1, e2, e3]
   exact ⟨i1, i2, i3⟩
theorem KeptAt.at {w : World} {v : Value} {ks : List Kp} (h : KeptAt w v ks) {j : Nat} {k : Kp} (hj : ks[j]? = some k) :
  ∃ g off c, v = .slice (some ⟨g, off, none⟩) ks.length c /\ g < w.heap.size /\ w.cell? ⟨g, off + j * 3, none⟩ = some (.int .i64 k.time) /\ w.cell? ⟨g, off + j * 3 + 1, none⟩ = some k.a /\ w.cell? ⟨g, off + j * 3 + 2, none⟩ = some k.b /\ (∀ i, w.frozen? ⟨g, i, none⟩ = false) /\ SlTab w (.agg #[k.a, k.b]) k.t := by
 have hjl := (List.getElem?_eq_some_iff.1 hj).1
 obtain ⟨g, off, c, he, _, _, hg, hc, hf⟩ := h.sl.form (by omega)
 obtain ⟨f1, f2, f3⟩ := flat3 hj
 have c1 := hc (j * 3) (by omega)
 have c2 := hc (j * 3 + 1) (by omega)
 have c3 := hc (j * 3 + 2) (by omega)
 rw [f1] at c1
 rw [f2] at c2
 rw [f3] at c3
 exact ⟨g, off, c, he, hg, c1, by rw [Nat.add_assoc]; exact c2, by rw [Nat.add_assoc]; exact c3, hf, h.tab k (List.mem_of_getElem? hj)⟩
theorem Odd.one {w : World} {k : Nat} {cs : Array Value} {T : TypeId} (h : w.heap[k]? = some (.cells cs T (0, 0))) (hT : T ≠ 9 /\ T ≠ 81 /\ T ≠ 83) : Odd w [k] := by
 intro j hj
 simp at hj
 subst hj
 exact ⟨cs, T, h, hT⟩
structure POk (cf : V -> V -> Int) (S : PS) (M : Nat := 600) : Prop where
 upl : S.left.Pairwise fun a b => ltS a b = true
 up : S.right.Pairwise fun a b => ltS a b = true
 le8 : S.left.length <= 8 /\ S.right.length <= 8
 parts : S.parts = 1 ∨ S.parts = 2
 sub : ∀ s, s ∈ S.left -> s ∈ S.right
 time : -1 <= S.time /\ S.time <= 1099511627776
 times : ∀ k, k ∈ S.waits -> 0 <= k.time /\ k.time <= S.time
 good : ∀ k, k ∈ S.waits -> Good cf k.t /\ k.t.vars = S.right /\ k.t.rows.length <= M
 many : S.waits.length <= 1000
theorem Good.fits {cf : V -> V -> Int} {t : Tb} (h : Good cf t) (hr : t.rows.length <= 5864062014634) : Fits V.wf t :=
 ⟨⟨by have := h.len; omega, by omega, fun r hr => by have := h.row r hr; have := h.len; omega⟩, by omega, fun r hr x hx => (h.ok r hr x hx).1⟩
end
section
open Go.RowKit
theorem uno {w : World} {p : Nat} {t : TypeId} {a : Value} (hh : w.heap[p]? = some (.cells #[a] t (0, 0))) : w.cell? ⟨p, 0, none⟩ = some a /\ ∀ j, w.frozen? ⟨p, j, none⟩ = false := by
 refine ⟨by simp [World.cell?, hh], fun j => frozen_of_row w p j _ _ hh⟩
end
end Go.Proofs.YtbejmdlncnkaaaaGreat
namespace Go
theorem World.Sl.setAt {w : World} {e : TypeId} {s g off n c : Nat} {xs : List Value} (h : w.Sl e s (.slice (some ⟨g, off, none⟩) n c) n xs) (k : Nat) (hk : k < n * s) (v : Value) :
  (w.setCell ⟨g, off + k, none⟩ v).Sl e s (.slice (some ⟨g, off, none⟩) n c) n (xs.set k v) /\ w.Fr (w.setCell ⟨g, off + k, none⟩ v) [g] := by
 obtain ⟨hlen, h2⟩ := h
 rcases h2 with ⟨h0, _⟩ | ⟨g', off', cap', cur, he, hb, hc, hm, hfit, htake⟩
 ·cases h0
 cases he
 refine ⟨⟨by simpa using hlen, .inr ⟨g, off, c, cur.setIfInBounds (off + k) v, rfl, heap_set_same hb (off + k) v, hc, hm, by simpa using hfit, ?_⟩⟩, (World.Fr.refl w [g]).setCell (by simp) _⟩
 subst htake
 have hcn : n * s <= c * s := Nat.mul_le_mul_right s hc
 apply List.ext_getElem?
 intro j
 rw [List.getElem?_set]
 simp only [List.getElem?_take, List.getElem?_drop, List.length_take, List.length_drop, Array.getElem?_toList, Array.getElem?_setIfInBounds, Array.length_toList]
 generalize n * s = N at *
 generalize c * s = C at *
 have : off + k < cur.size := by omega
 by_cases hj : j < N
 ·by_cases hjk : k = j
  ·subst hjk
   simp [hj, this]
   omega
  ·simp [hj, hjk]
 ·simp [hj]
  omega
end Go
namespace Go.Proofs.YtbejmdlncnkaaaaGreat
section
open Go.RowKit
theorem cells_len (ks : List Kp) : (ks.flatMap Kp.cells).length = ks.length * 3 := by
 induction ks with
 | nil => rfl
 | cons a t ih => rw [List.flatMap_cons, List.length_append, ih]; simp [Kp.cells]; omega
theorem cells_set (ks : List Kp) (i : Nat) (k : Kp) (hi : i < ks.length) : (((ks.flatMap Kp.cells).set (i * 3) (.int .i64 k.time)).set (i * 3 + 1) k.a).set (i * 3 + 2) k.b = (ks.set i k).flatMap Kp.cells := by
 induction ks generalizing i with
 | nil => simp at hi
 | cons a t ih =>
  cases i with
  | zero => simp [Kp.cells]
  | succ i =>
   rw [List.set_cons_succ, List.flatMap_cons, List.flatMap_cons, <- ih i (by simpa using hi)]
   have e0 : (i + 1) * 3 = a.cells.length + i * 3 := by simp [Kp.cells]; omega
   rw [e0, Nat.add_assoc, Nat.add_assoc, List.set_append_right _ _ (by omega), List.set_append_right _ _ (by omega), List.set_append_right _ _ (by omega)]
   congr 1
   congr 1
   ·congr 1
    ·congr 1; omega
    ·omega
   ·omega
theorem KeptSl.put {w : World} {g off n c : Nat} {ks : List Kp} (h : w.Sl 115 3 (.slice (some ⟨g, off, none⟩) n c) n (ks.flatMap Kp.cells)) (hn : ks.length = n) (i : Nat) (k : Kp) (hi : i < n) :
  (((w.setCell ⟨g, off + i * 3, none⟩ (.int .i64 k.time)).setCell ⟨g, off + i * 3 + 1, none⟩ k.a).setCell ⟨g, off + i * 3 + 2, none⟩ k.b).Sl 115 3 (.slice (some ⟨g, off, none⟩) n c) n ((ks.set i k).flatMap Kp.cells) /\ w.Fr (((w.setCell ⟨g, off + i * 3, none⟩ (.int .i64 k.time)).setCell ⟨g, off + i * 3 + 1, none⟩ k.a).setCell ⟨g, off + i * 3 + 2, none⟩ k.b) [g] := by
 have h1 := (((h.setAt (i * 3) (by omega) (.int .i64 k.time)).1.setAt (i * 3 + 1) (by omega) k.a).1.setAt (i * 3 + 2) (by omega) k.b).1
 rw [cells_set ks i k (by omega)] at h1
 refine ⟨h1, (((World.Fr.refl w [g]).setCell (a := ⟨g, off + i * 3, none⟩) (.inl (by simp)) _).setCell (a := ⟨g, off + i * 3 + 1, none⟩) (.inl (by simp)) _).setCell (a := ⟨g, off + i * 3 + 2, none⟩) (.inl (by simp)) _⟩
end
section
open Go.RowKit
theorem KeptSl.at {w : World} {v : Value} {ks : List Kp} {n : Nat} (h : w.Sl 115 3 v n (ks.flatMap Kp.cells)) (hn : ks.length = n) {j : Nat} {k : Kp} (hj : ks[j]? = some k) :
  ∃ g off c, v = .slice (some ⟨g, off, none⟩) n c /\ g < w.heap.size /\ w.cell? ⟨g, off + j * 3, none⟩ = some (.int .i64 k.time) /\ w.cell? ⟨g, off + j * 3 + 1, none⟩ = some k.a /\ w.cell? ⟨g, off + j * 3 + 2, none⟩ = some k.b /\ (∀ i, w.frozen? ⟨g, i, none⟩ = false) := by
 have hjl := (List.getElem?_eq_some_iff.1 hj).1
 obtain ⟨g, off, c, he, _, _, hg, hc, hf⟩ := h.form (by omega)
 obtain ⟨f1, f2, f3⟩ := flat3 hj
 have c1 := hc (j * 3) (by omega)
 have c2 := hc (j * 3 + 1) (by omega)
 have c3 := hc (j * 3 + 2) (by omega)
 rw [f1] at c1
 rw [f2] at c2
 rw [f3] at c3
 exact ⟨g, off, c, he, hg, c1, by rw [Nat.add_assoc]; exact c2, by rw [Nat.add_assoc]; exact c3, hf⟩
theorem filter_step {f : Kp -> Bool} {ks : List Kp} {j : Nat} {k : Kp} (hj : ks[j]? = some k) : (ks.take (j + 1)).filter (fun k => !f k) = if f k then (ks.take j).filter (fun k => !f k) else (ks.take j).filter (fun k => !f k) ++ [k] := by
 have hlt := (List.getElem?_eq_some_iff.1 hj).1
 rw [List.take_succ_eq_append_getElem hlt, (List.getElem?_eq_some_iff.1 hj).2, List.filter_append]
 cases h : f k <;> simp [h]
structure DelInv (f : Kp -> Bool) (ks : List Kp) (i j : Nat) (dk : List Kp) : Prop where
 lt : i < j
 le : j <= ks.length
 len : dk.length = ks.length
 low : dk.take i = (ks.take j).filter fun k => !f k
 high : dk.drop j = ks.drop j
theorem DelInv.keep {f : Kp -> Bool} {ks dk : List Kp} {i j : Nat} (h : DelInv f ks i j dk) {k : Kp} (hk : ks[j]? = some k) (hf : f k = false) : DelInv f ks (i + 1) (j + 1) (dk.set i k) := by
 have hlt := (List.getElem?_eq_some_iff.1 hk).1
 have hil := h.lt
 have hl := h.len
 refine ⟨by omega, by omega, by simpa using h.len, ?_, ?_⟩
 ·rw [filter_step hk, hf, if_neg (by simp), <- h.low]
  have hi : i < (dk.set i k).length := by rw [List.length_set]; omega
  rw [List.take_succ_eq_append_getElem hi, List.getElem_set_self, List.take_set_of_le (Nat.le_refl _)]
 ·rw [List.drop_set_of_lt (by omega), <- List.drop_drop, h.high, List.drop_drop]
end
section
open Go.RowKit
abbrev Kp.tt (k : Kp) : Int × Tb := (k.time, k.t)
noncomputable def holdT (cf : V -> V -> Int) (nt : Bool) (k a : Tb) : Tb := if nt then (antiT cf k a).2 else (joinT cf k a).2
noncomputable def holdK (cf : V -> V -> Int) (nt : Bool) (a : Tb) (x : Int × Tb) : Int × Tb := (x.1, holdT cf nt x.2 a)
theorem KeptAt.hold {w : World} {g off n c : Nat} {ks : List Kp} (h : KeptAt w (.slice (some ⟨g, off, none⟩) n c) ks) (hn : ks.length = n) {j : Nat} {k : Kp} (hj : ks[j]? = some k) {x y : Value} {t : Tb} (ht : SlTab w (.agg #[x, y]) t) :
  KeptAt ((w.setCell ⟨g, off + j * 3 + 1, none⟩ x).setCell ⟨g, off + j * 3 + 2, none⟩ y) (.slice (some ⟨g, off, none⟩) n c) (ks.set j ⟨k.time, x, y, t⟩) /\ w.Fr ((w.setCell ⟨g, off + j * 3 + 1, none⟩ x).setCell ⟨g, off + j * 3 + 2, none⟩ y) [g] := by
 have hjl := (List.getElem?_eq_some_iff.1 hj).1
 have hsl := h.sl
 rw [hn] at hsl
 have hfr : w.Fr ((w.setCell ⟨g, off + j * 3 + 1, none⟩ x).setCell ⟨g, off + j * 3 + 2, none⟩ y) [g] := ((World.Fr.refl w [g]).setCell (a := ⟨g, off + j * 3 + 1, none⟩) (.inl (by simp)) _).setCell (a := ⟨g, off + j * 3 + 2, none⟩) (.inl (by simp)) _
 have hodd : Odd w [g] := by
  rcases h.sl.2 with ⟨he, _⟩ | ⟨g', o', c', cur, he, hg, _⟩
  ·cases he
  ·cases he
   exact Odd.one hg (by decide)
 refine ⟨⟨?_, ?_⟩, hfr⟩
 ·rw [List.length_set, hn]
  have h1 := ((hsl.setAt (j * 3 + 1) (by omega) x).1.setAt (j * 3 + 2) (by omega) y).1
  have e : (((ks.flatMap Kp.cells).set (j * 3 + 1) x).set (j * 3 + 2) y) = (ks.set j ⟨k.time, x, y, t⟩).flatMap Kp.cells := by
   rw [<- cells_set ks j ⟨k.time, x, y, t⟩ hjl]
   have e0 : (ks.flatMap Kp.cells).set (j * 3) (.int .i64 k.time) = ks.flatMap Kp.cells := by
    apply List.ext_getElem?
    intro i
    rw [List.getElem?_set]
    by_cases hi : j * 3 = i
    ·subst hi
     rw [if_pos rfl, (flat3 hj).1, if_pos (by rw [cells_len]; omega)]
    ·rw [if_neg hi]
   rw [e0]
  rw [e] at h1
  exact h1
 ·intro q hq
  rcases List.mem_or_eq_of_mem_set hq with hq | rfl
  ·exact (h.tab q hq).fr hfr hodd
  ·exact ht.fr hfr hodd
end
section
open Go.RowKit
theorem rows_le (l m : List Row) (h1 : l.Nodup) (h2 : ∀ x, x ∈ l -> x ∈ m) : l.length <= m.length := by classical exact nodup_le' l m h1 h2
theorem union_small {cf : V -> V -> Int} (hO : OrdOk okW cf) {a b : Tb} (ha : Good cf a) (hb : Good cf b) (hv : a.vars = b.vars) : Good cf (unionT cf a b).2 /\ (unionT cf a b).2.vars = a.vars /\ (unionT cf a b).2.rows.length <= a.rows.length + b.rows.length /\ ∀ r, r ∈ (unionT cf a b).2.rows ↔ r ∈ a.rows ∨ r ∈ b.rows := by
 obtain ⟨u, e, hu, hw, hm⟩ := unionT_like hO ha hb hv
 rw [e]
 refine ⟨hu, hw, ?_, hm⟩
 have h1 := rows_le u.rows (a.rows ++ b.rows) (rows_nodup hO hu) (fun r hr => by rw [List.mem_append]; exact (hm r).1 hr)
 simpa using h1
theorem anti_small {cf : V -> V -> Int} (hO : OrdOk okW cf) {a b : Tb} (ha : Good cf a) (hb : Good cf b) : Good cf (antiT cf a b).2 /\ (antiT cf a b).2.vars = a.vars /\ (antiT cf a b).2.rows.length <= a.rows.length := by
 obtain ⟨u, e, hu, hw, hm⟩ := antiT_good hO ha hb
 rw [e]
 refine ⟨hu, hw, ?_⟩
 exact rows_le u.rows a.rows (rows_nodup hO hu) (fun r hr => ((hm r).1 hr).1)
theorem join_small {cf : V -> V -> Int} (hO : OrdOk okW cf) {a b : Tb} (ha : Good cf a) (hb : Good cf b) (hs : ∀ s, s ∈ b.vars -> s ∈ a.vars) : Good cf (joinT cf a b).2 /\ (joinT cf a b).2.vars = a.vars /\ (joinT cf a b).2.rows.length <= a.rows.length /\ ∀ r, r ∈ (joinT cf a b).2.rows ↔ r ∈ a.rows /\ pick a.vars r b.vars ∈ b.rows := by
 have hall : ∀ s, s ∈ allN a b ↔ s ∈ a.vars := fun s => by rw [allN_mem]; exact ⟨fun h => h.elim id (hs s), .inl⟩
 have hlen : (allN a b).length = a.vars.length := names_len (allN_nodup ha hb) ha.nd hall
 have h8 : (allN a b).length <= 8 := by rw [hlen]; exact ha.len
 rw [joinT_good ha hb, if_neg (by omega)]
 have hg := join_good ha hb hO h8
 have hmv : ∀ s, s ∈ (joinTab cf a b).vars ↔ s ∈ a.vars := fun s => by rw [join_vars]; exact ⟨fun h => h.elim id (hs s), .inl⟩
 have hv : (joinTab cf a b).vars = a.vars := names_one hg.up ha.up hmv
 have hm : ∀ r, r ∈ (joinTab cf a b).rows ↔ r ∈ a.rows /\ pick a.vars r b.vars ∈ b.rows := fun r => by
  rw [join_mem ha hb hO, hv]
  constructor
  ·rintro ⟨h1, h2, h3⟩
   rw [pick_own ha.nd h1] at h2
   exact ⟨h2, h3⟩
  ·rintro ⟨h1, h2⟩
   have hl := ha.row r h1
   exact ⟨hl, by rw [pick_own ha.nd hl]; exact h1, h2⟩
 exact ⟨hg, hv, rows_le _ _ (rows_nodup hO hg) (fun r hr => ((hm r).1 hr).1), hm⟩
def goneX (i : Iv) (n : Int) (x : Int × Tb) : Bool := (!i.op && decide (i.hi < n - x.1)) || (x.2.rows.length == 0)
noncomputable def sinceO (cf : V -> V -> Int) (i : Iv) (n : Int) (e : Tb) (l : List (Int × Tb)) : Tb := l.foldl (fun o x => if inB (n - x.1) i then (unionT cf o x.2).2 else o) e
theorem hold_small {cf : V -> V -> Int} (hO : OrdOk okW cf) {nt : Bool} {k a : Tb} (hk : Good cf k) (ha : Good cf a) (hs : ∀ s, s ∈ a.vars -> s ∈ k.vars) : Good cf (holdT cf nt k a) /\ (holdT cf nt k a).vars = k.vars /\ (holdT cf nt k a).rows.length <= k.rows.length := by
 cases nt with
 | true => exact anti_small hO hk ha
 | false =>
  obtain ⟨h1, h2, h3, _⟩ := join_small hO hk ha hs
  exact ⟨h1, h2, h3⟩
end
end Go.Proofs.YtbejmdlncnkaaaaGreat
