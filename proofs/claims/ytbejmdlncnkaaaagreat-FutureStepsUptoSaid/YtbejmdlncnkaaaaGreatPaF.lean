/-
  The statements' arguments, opened: names, rows, tables. The walk of the statement TableAsks (live's contract as a hypothesis; joined later). The statements' arguments, opened: points in a slice, an interval; what the bound of their bulk gives. The statements' many: how many rows the points' tables have.
-/
import Derived.Test.YtbejmdlncnkaaaaGreatLow
import Derived.ProofKit
import Derived.OpenShut
import Derived.Deep.Slices
import Derived.Lib.SmallJoins
import Derived.SizedLaws
import Derived.Test.YtbejmdlncnkaaaaGreatRsr
import Derived.Deep.RegionHeld3
import Derived.Test.YtbejmdlncnkaaaaGreatPaA
import Derived.Test.YtbejmdlncnkaaaaGreatRows
set_option maxRecDepth 100000
set_option maxHeartbeats 16000000
set_option linter.unusedSimpArgs false
namespace Go.Proofs.YtbejmdlncnkaaaaGreat
section
open Go.RowKit Go.ChangeShapes Go.WideShapes Go.ChangeAt Go.Joins
theorem cellsOf60 : Tryz.prog.cellsOf 83 = 4 := by kernel_rfl
theorem cellsOf9 : Tryz.prog.cellsOf 9 = 1 := by kernel_rfl
theorem cellsOf32 : Tryz.prog.cellsOf 81 = 1 := by kernel_rfl
theorem cellsOf3 : Tryz.prog.cellsOf 3 = 1 := by kernel_rfl
theorem cellsOf2 : Tryz.prog.cellsOf 2 = 1 := by kernel_rfl
theorem inI64_of {n : Int} (h : (Lit.int .i64 n).wf = true) : inI64 n := by
 simp only [Lit.wf, IntKind.min, IntKind.max, Bool.and_eq_true] at h
 unfold inI64
 simp [IntKind.bits, IntKind.signed] at h
 omega
section
variable {H : Type} {enc : TypeId × Value -> H} {w : World} {fuel : Nat} {x : DataW H × List MemPlace}
noncomputable abbrev tr (enc : TypeId × Value -> H) (w : World) (fuel : Nat) (t : TypeId) (cs : List Value) : Option (DataW H × List MemPlace) := DataW.trod enc Tryz.prog w 0 (fun _ => true) true fuel t cs
theorem open_v {cs : List Value} (h : tr enc w fuel 83 cs = some x) : ∃ v : V, cs = v.enc /\ v.wf := by
 obtain ⟨y0, y1, y2, y3, n, _, hl, h0, h1, h2, h3⟩ := trod_struct4 Tryz.underlying83 h
 rw [cellsOf60] at hl
 match cs, hl with
 | [c0, c1, c2, c3], _ =>
  obtain ⟨a, e0, _, w0⟩ := DataW.trod_int Tryz.underlying3 h0
  obtain ⟨b, e1, _, w1⟩ := DataW.trod_int Tryz.underlying2 h1
  obtain ⟨c, e2, _, w2⟩ := DataW.trod_int Tryz.underlying2 h2
  obtain ⟨d, e3, _, w3⟩ := DataW.trod_string Tryz.underlying9 h3
  simp only [cellsOf3, cellsOf2, cellsOf9, List.drop_zero, List.drop_succ_cons, List.take_succ_cons, List.take_zero, List.cons.injEq, and_true] at e0 e1 e2 e3
  exact ⟨⟨a, b, c, d⟩, by rw [e0, e1, e2, e3], ⟨inI64_of w0, inI64_of w1, inI64_of w2, by unfold maxLen at w3; exact w3⟩⟩
theorem spot_none {a : Addr} {v : Value} (h : w.cell? a = some v) : a.spot = none /\ a.block < w.heap.size := by
 unfold World.cell? at h
 split at h
 ·rename_i c e f hc
  split at h
  ·exact absurd h (by simp)
  ·rename_i hs
   exact ⟨by cases hq : a.spot with | none => rfl | some j => exact absurd (by rw [hq]; rfl) hs, by obtain ⟨hlt, _⟩ := Array.getElem?_eq_some_iff.1 hc; exact hlt⟩
 ·exact absurd h (by simp)
theorem mapM_getO {α β : Type} {f : α -> Option β} : ∀ {l : List α} {r : List β}, l.mapM f = some r -> ∀ (i : Nat) (a : α), l[i]? = some a -> f a = r[i]?
 | [], _, _, i, a, h => by simp at h
 | b :: l, r, h, i, a, hi => by
  rw [List.mapM_cons] at h
  obtain ⟨y, hy, h⟩ := Option.bind_eq_some_iff.1 h
  obtain ⟨ys, hys, h⟩ := Option.bind_eq_some_iff.1 h
  cases h
  cases i with
  | zero => simp only [List.getElem?_cons_zero, Option.some.injEq] at hi ⊢; subst hi; exact hy
  | succ i => simp only [List.getElem?_cons_succ] at hi ⊢; exact mapM_getO hys i a hi
theorem cells_atO {base : Nat} {a : Addr} {k : Nat} {cs : List Value} (h : w.cells? base a k = some cs) : ∀ j, j < k -> w.cell? (a.add j) = cs[j]? := by
 unfold World.cells? at h
 split at h
 ·exact fun j hj => mapM_getO h j j (by rw [List.getElem?_range hj])
 ·exact absurd h (by simp)
theorem flat_atO {α β : Type} {f : α -> List β} {size : Nat} (hs : 0 < size) (hf : ∀ a, (f a).length = size) : ∀ (l : List α) (k : Nat) (a : α), l[k / size]? = some a -> (l.flatMap f)[k]? = (f a)[k % size]?
 | [], k, a, h => by simp at h
 | b :: l, k, a, h => by
  rw [List.flatMap_cons]
  by_cases hk : k < size
  ·rw [Nat.div_eq_of_lt hk] at h
   simp only [List.getElem?_cons_zero, Option.some.injEq] at h
   subst h
   rw [List.getElem?_append_left (by rw [hf]; exact hk), Nat.mod_eq_of_lt hk]
  ·have hd : k / size = (k - size) / size + 1 := by
    conv => lhs; rw [show k = (k - size) + size by omega]
    rw [Nat.add_div_right _ hs]
   have hm : k % size = (k - size) % size := by
    conv => lhs; rw [show k = (k - size) + size by omega]
    rw [Nat.add_mod_right]
   rw [hd, List.getElem?_cons_succ] at h
   rw [List.getElem?_append_right (by rw [hf]; omega), hf, hm]
   exact flat_atO hs hf l (k - size) a h
theorem open_rd {α : Type} [Inhabited α] {t e : TypeId} {size : Nat} {v : Value} (ht : Tryz.prog.underlying t = some (.slice e)) (hc : Tryz.prog.cellsOf e = size) (hs : 0 < size) (f : α -> List Value) (hf : ∀ a, (f a).length = size) (p : α -> DataW H -> Prop)
  (he : ∀ (n : Nat) (cs : List Value) (y : DataW H × List MemPlace), tr enc w n e cs = some y -> ∃ a, cs = f a /\ p a y.1) (h : tr enc w fuel t [v] = some x) :
  ∃ (l : List α) (D : Nat -> DataW H), w.Rd size v l.length (l.flatMap f) /\ (l = [] ∨ ∃ rest, x.1 = .slice ((List.range l.length).map D) rest) /\ ∀ i a, l[i]? = some a -> p a (D i) := by
 rcases Deep.open_slice ht h with ⟨h0, rfl⟩ | ⟨a, len, cap, m, n, D, Pl, h0, _, hl, hm, hmm, rfl, hx⟩
 ·simp only [List.cons.injEq, and_true] at h0
  subst h0
  exact ⟨[], fun _ => .nil, ⟨by simp, .inl ⟨rfl, none, 0, rfl, Nat.zero_le _⟩⟩, .inl rfl, by simp⟩
 ·simp only [List.cons.injEq, and_true] at h0
  subst h0
  rw [if_pos rfl] at hmm
  subst hmm
  rw [hc] at hx
  have each : ∀ i, i < len -> ∃ q : α, w.cells? 0 (a.add (i * size)) size = some (f q) /\ p q (D i) := fun i hi => by
   obtain ⟨cs', h1, h2⟩ := hx i (by omega)
   obtain ⟨q, rfl, hq⟩ := he _ _ _ h2
   exact ⟨q, h1, hq⟩
  obtain ⟨q, hq⟩ := Deep.choose_lt each
  refine ⟨(List.range len).map q, D, ?_, .inr ⟨_, by rw [List.length_map, List.length_range]⟩, ?_⟩
  ·rw [List.length_map, List.length_range]
   refine ⟨?_, ?_⟩
   ·rw [List.length_flatMap, List.map_map]
    rw [show ((fun x => (f x).length) ∘ q) = fun _ => size from funext fun i => hf _, List.map_const', List.sum_replicate_nat, List.length_range]
   ·by_cases hz : len = 0
    ·subst hz
     exact .inl ⟨rfl, some a, m, rfl, hm⟩
    ·have hcell : ∀ i, i < len -> ∀ j, j < size -> w.cell? (a.add (i * size + j)) = (f (q i))[j]? := fun i hi j hj => by
      rw [<- Deep.add_add]
      exact cells_atO (hq i hi).1 j hj
     obtain ⟨sp, hb⟩ := spot_none (w := w) (a := a) (v := (f (q 0))[0]'(by rw [hf]; exact hs)) (by
      have := hcell 0 (by omega) 0 hs
      rw [List.getElem?_eq_getElem (by rw [hf]; exact hs)] at this
      simpa [Addr.add] using this)
     obtain ⟨g, off, spot⟩ := a
     simp only at sp hb
     subst sp
     refine .inr ⟨g, off, m, rfl, hl, hm, hb, fun k hk => ?_⟩
     have hi : k / size < len := Nat.div_lt_of_lt_mul (by rw [Nat.mul_comm]; exact hk)
     have := hcell (k / size) hi (k % size) (Nat.mod_lt _ hs)
     rw [Nat.mul_comm, Nat.div_add_mod] at this
     have hadd : (⟨g, off, none⟩ : Addr).add k = ⟨g, off + k, none⟩ := by unfold Addr.add; split <;> simp_all
     rw [hadd] at this
     rw [this, flat_atO hs hf _ k (q (k / size)) (by rw [List.getElem?_map, List.getElem?_range hi]; rfl)]
  ·intro i b hb
   rw [List.getElem?_map] at hb
   by_cases hi : i < len
   ·rw [List.getElem?_range hi] at hb
    simp only [Option.map_some, Option.some.injEq] at hb
    subst hb
    exact (hq i hi).2
   ·rw [List.getElem?_eq_none (by simpa using hi)] at hb
    simp at hb
local instance instInhO : Inhabited V := ⟨⟨0, 0, 0, .empty⟩⟩
theorem cellsOf22 : Tryz.prog.cellsOf 24 = 1 := by kernel_rfl
theorem cellsOf23 : Tryz.prog.cellsOf 32 = 1 := by kernel_rfl
theorem cellsOf25 : Tryz.prog.cellsOf 34 = 2 := by kernel_rfl
end
end
section
open Go.RowKit
theorem cellFrA {w w' : World} {b j : Nat} {v : Value} (h : w.Fr w' []) (hc : w.cell? ⟨b, j, none⟩ = some v) : w'.cell? ⟨b, j, none⟩ = some v := by
 rw [World.cell?_of_block (a := ⟨b, j, none⟩) (h.block b (spot_none hc).2 (by simp))]; exact hc
end
section
open Go.RowKit Go.ChangeShapes Go.WideShapes Go.ChangeAt Go.Joins
def Bk {H : Type} (d : DataW H) : Prop := Rows.uptoBulk d <= 1048576
theorem bulk_one {H : Type} (d : DataW H) : 1 <= Rows.uptoBulk d := by
 cases d with
 | lit l => cases l <;> simp [Rows.uptoBulk]
 | _ => simp [Rows.uptoBulk]
theorem bulk_part {H : Type} {d : DataW H} {l : List (DataW H)} (h : d ∈ l) : Rows.uptoBulk d <= Rows.uptoBulkAll l := by
 induction l with
 | nil => cases h
 | cons x r ih =>
  simp only [Rows.uptoBulkAll]
  rcases List.mem_cons.1 h with e | e
  ·subst e; omega
  ·have := ih e; omega
theorem bulk_len {H : Type} (l : List (DataW H)) : l.length <= Rows.uptoBulkAll l := by
 induction l with
 | nil => simp [Rows.uptoBulkAll]
 | cons x r ih => have := bulk_one x; simp only [Rows.uptoBulkAll, List.length_cons]; omega
theorem bk_agg {H : Type} {l : List (DataW H)} (h : Bk (.agg l)) : ∀ d, d ∈ l -> Bk d := fun d hd => by
 have := bulk_part hd
 simp only [Bk, Rows.uptoBulk] at h
 simp only [Bk]
 omega
theorem bk_slice {H : Type} {l s : List (DataW H)} (h : Bk (.slice l s)) : l.length <= 1048576 /\ ∀ d, d ∈ l -> Bk d := by
 simp only [Bk, Rows.uptoBulk] at h
 refine ⟨by have := bulk_len l; omega, fun d hd => ?_⟩
 have := bulk_part hd
 simp only [Bk]
 omega
theorem bk_all {H : Type} {l : List (DataW H)} (h : Rows.uptoBulkAll l <= 1048576) : ∀ d, d ∈ l -> Bk d := fun _ hd => Nat.le_trans (bulk_part hd) h
theorem bk_nil {H : Type} {D : Nat -> DataW H} {α : Type} {l : List α} {d : DataW H} (h : l = [] ∨ ∃ rest, d = .slice ((List.range l.length).map D) rest) (hB : Bk d) : l.length <= 1048576 /\ ∀ i, i < l.length -> Bk (D i) := by
 rcases h with rfl | ⟨rest, rfl⟩
 ·exact ⟨by simp, by simp⟩
 ·obtain ⟨h1, h2⟩ := bk_slice hB
  refine ⟨by simpa using h1, fun i hi => h2 _ (List.mem_map.2 ⟨i, List.mem_range.2 hi, rfl⟩)⟩
structure TabU (t : Tb) : Prop where
 vars : t.vars.length <= 1048576
 rows : t.rows.length <= 1048576
 row : ∀ r, r ∈ t.rows -> r.length <= 1048576
structure SD where
 time : Int
 tabs : List Tb
 clone : Bool
structure RdSteps (w : World) (v : Value) (ss : List SD) : Prop where
 ex : ∃ xs : List (SD × Value), xs.map (·.1) = ss /\ w.Rd 3 v ss.length (xs.flatMap fun x => [.int .i64 x.1.time, x.2, .bool x.1.clone]) /\ ∀ x, x ∈ xs -> RdTabs w x.2 x.1.tabs
structure SDU (s : SD) : Prop where
 len : s.tabs.length <= 1048576
 tab : ∀ t, t ∈ s.tabs -> TabU t
theorem RdSteps.still {w w' : World} {v : Value} {ss : List SD} (h : RdSteps w v ss) (hf : w.Fr w' []) : RdSteps w' v ss := by
 obtain ⟨xs, h1, h2, h3⟩ := h.ex
 exact ⟨xs, h1, h2.fr hf (by simp), fun x hx => (h3 x hx).still hf⟩
theorem RdSteps.shape {w : World} {v : Value} {ss : List SD} (h : RdSteps w v ss) : ∃ a c, v = .slice a ss.length c := by
 obtain ⟨xs, h1, h2, h3⟩ := h.ex
 obtain ⟨a, c, e, _⟩ := h2.shape
 exact ⟨a, c, e⟩
theorem flatS {xs : List (SD × Value)} {j : Nat} {x : SD × Value} (h : xs[j]? = some x) : (xs.flatMap fun x => [Value.int .i64 x.1.time, x.2, .bool x.1.clone])[j * 3]? = some (.int .i64 x.1.time) /\ (xs.flatMap fun x => [Value.int .i64 x.1.time, x.2, .bool x.1.clone])[j * 3 + 1]? = some x.2 /\ (xs.flatMap fun x => [Value.int .i64 x.1.time, x.2, .bool x.1.clone])[j * 3 + 2]? = some (.bool x.1.clone) := by
 induction xs generalizing j with
 | nil => simp at h
 | cons a t ih =>
  cases j with
  | zero => simp at h; subst h; simp
  | succ j =>
   have h' : t[j]? = some x := by simpa using h
   obtain ⟨i1, i2, i3⟩ := ih h'
   simp only [List.flatMap_cons]
   rw [List.getElem?_append_right (by simp; omega), List.getElem?_append_right (by simp; omega), List.getElem?_append_right (by simp; omega)]
   have e1 : (j + 1) * 3 - [Value.int .i64 a.1.time, a.2, .bool a.1.clone].length = j * 3 := by simp; omega
   have e2 : (j + 1) * 3 + 1 - [Value.int .i64 a.1.time, a.2, .bool a.1.clone].length = j * 3 + 1 := by simp; omega
   have e3 : (j + 1) * 3 + 2 - [Value.int .i64 a.1.time, a.2, .bool a.1.clone].length = j * 3 + 2 := by simp; omega
   rw [e1, e2, e3]
   exact ⟨i1, i2, i3⟩
theorem RdSteps.at {w : World} {v : Value} {ss : List SD} (h : RdSteps w v ss) {j : Nat} {s : SD} (hj : ss[j]? = some s) :
  ∃ g off c a m, v = .slice (some ⟨g, off, none⟩) ss.length c /\ g < w.heap.size /\ w.cell? ⟨g, off + j * 3, none⟩ = some (.int .i64 s.time) /\ w.cell? ⟨g, off + j * 3 + 1, none⟩ = some (.slice a s.tabs.length m) /\ w.cell? ⟨g, off + j * 3 + 2, none⟩ = some (.bool s.clone) /\ RdTabs w (.slice a s.tabs.length m) s.tabs := by
 obtain ⟨xs, h1, h2, h3⟩ := h.ex
 have hjl := (List.getElem?_eq_some_iff.1 hj).1
 rw [<- h1, List.getElem?_map] at hj
 obtain ⟨x, hx, rfl⟩ := Option.map_eq_some_iff.1 hj
 have hr := h3 x (List.mem_of_getElem? hx)
 obtain ⟨a, m, ha⟩ := hr.shape
 obtain ⟨g, off, c, he, _, _, hg, hc⟩ := h2.form (by omega)
 obtain ⟨f1, f2, f3⟩ := flatS hx
 have c1 := hc (j * 3) (by omega)
 have c2 := hc (j * 3 + 1) (by omega)
 have c3 := hc (j * 3 + 2) (by omega)
 rw [f1] at c1
 rw [f2, ha] at c2
 rw [f3] at c3
 rw [ha] at hr
 exact ⟨g, off, c, a, m, he, hg, c1, by rw [Nat.add_assoc]; exact c2, by rw [Nat.add_assoc]; exact c3, hr⟩
section
variable {H : Type} {enc : TypeId × Value -> H} {w : World} {fuel : Nat} {x : DataW H × List MemPlace}
local instance instInhU : Inhabited V := ⟨⟨0, 0, 0, .empty⟩⟩
theorem open_rowU {v : Value} (h : tr enc w fuel 81 [v] = some x) : ∃ r : Row, RdRow w v r /\ (Bk x.1 -> r.length <= 1048576) := by
 obtain ⟨l, D, hr, hn, hp⟩ := open_rd (α := V) Tryz.underlying81 cellsOf60 (by decide) V.enc (fun _ => rfl) (fun v _ => v.wf) (fun _ _ _ h => open_v h) h
 refine ⟨l, ⟨hr, fun v hv => ?_⟩, fun hL => (bk_nil hn hL).1⟩
 obtain ⟨i, hi⟩ := List.getElem?_of_mem hv
 exact hp i v hi
theorem open_strsU {v : Value} (h : tr enc w fuel 24 [v] = some x) : ∃ r : List BA, RdStr w v r /\ (Bk x.1 -> r.length <= 1048576) := by
 obtain ⟨l, D, hr, hn, hp⟩ := open_rd (α := BA) Tryz.underlying24 cellsOf9 (by decide) (fun s => [Value.string s]) (fun _ => rfl) (fun s _ => s.size <= 9223372036854775807) (fun _ _ _ h => by
  obtain ⟨s, h1, _, h3⟩ := DataW.trod_string Tryz.underlying9 h
  exact ⟨s, h1, by unfold maxLen at h3; exact h3⟩) h
 have hf : l.flatMap (fun s => [Value.string s]) = l.map Value.string := by
  clear hr hn hp
  induction l with
  | nil => rfl
  | cons a l ih => rw [List.flatMap_cons, ih]; rfl
 rw [hf] at hr
 refine ⟨l, ⟨hr, fun v hv => ?_⟩, fun hL => (bk_nil hn hL).1⟩
 obtain ⟨i, hi⟩ := List.getElem?_of_mem hv
 exact hp i v hi
theorem open_rowsU {v : Value} (h : tr enc w fuel 32 [v] = some x) : ∃ (rs : List Row) (hs : List Value), RdRows w v rs hs /\ (Bk x.1 -> rs.length <= 1048576 /\ ∀ r, r ∈ rs -> r.length <= 1048576) := by
 obtain ⟨l, D, hr, hn, hp⟩ := open_rd (α := Value × Row) Tryz.underlying32 cellsOf32 (by decide) (fun q => [q.1]) (fun _ => rfl) (fun q d => RdRow w q.1 q.2 /\ (Bk d -> q.2.length <= 1048576)) (fun n cs y h => by
  have hl : cs.length = 1 := by
   rcases Deep.open_slice Tryz.underlying81 h with ⟨h0, _⟩ | ⟨_, _, _, _, _, _, _, h0, _⟩ <;> subst h0 <;> rfl
  match cs, hl with
  | [v], _ =>
   obtain ⟨r, h1, h2⟩ := open_rowU h
   exact ⟨(v, r), rfl, h1, h2⟩) h
 have hf : l.flatMap (fun q => [q.1]) = l.map (·.1) := by
  clear hr hn hp
  induction l with
  | nil => rfl
  | cons a l ih => rw [List.flatMap_cons, ih]; rfl
 rw [hf] at hr
 refine ⟨l.map (·.2), l.map (·.1), ⟨by rw [List.length_map]; exact hr, by simp, fun i hv r h1 h2 => ?_⟩, fun hL => ?_⟩
 ·rw [List.getElem?_map] at h1 h2
  obtain ⟨q, hq, rfl⟩ := Option.map_eq_some_iff.1 h1
  rw [hq] at h2
  cases h2
  exact (hp i q hq).1
 ·have := bk_nil hn hL
  refine ⟨by rw [List.length_map]; exact this.1, fun r hr => ?_⟩
  obtain ⟨q, hq, rfl⟩ := List.mem_map.1 hr
  obtain ⟨i, hi⟩ := List.getElem?_of_mem hq
  exact (hp i q hi).2 (this.2 i (List.getElem?_eq_some_iff.1 hi).1)
theorem open_tabU {cs : List Value} (h : tr enc w fuel 34 cs = some x) : ∃ q : (Value × Value) × Tb, cs = [q.1.1, q.1.2] /\ RdTab w (.agg #[q.1.1, q.1.2]) q.2 /\ (Bk x.1 -> TabU q.2) := by
 obtain ⟨y0, y1, n, rfl, hl, h0, h1⟩ := Go.ChangeShapes.trod_struct2 Tryz.underlying34 h
 rw [cellsOf25] at hl
 match cs, hl with
 | [c0, c1], _ =>
  simp only [cellsOf22, cellsOf23, List.drop_zero, List.drop_succ_cons, List.take_succ_cons, List.take_zero] at h0 h1
  obtain ⟨l, hv, hvu⟩ := open_strsU h0
  obtain ⟨rs, hs, hr, hru⟩ := open_rowsU h1
  refine ⟨((c0, c1), ⟨l, rs⟩), rfl, ⟨⟨c0, c1, hs, rfl, hv, hr⟩⟩, fun hB => ?_⟩
  have hb := bk_agg hB
  have b0 := hvu (hb _ (by simp))
  have b1 := hru (hb _ (by simp))
  exact ⟨b0, b1.1, b1.2⟩
theorem cellsOf37 : Tryz.prog.cellsOf 37 = 1 := by kernel_rfl
theorem cellsOf4 : Tryz.prog.cellsOf 4 = 1 := by kernel_rfl
local instance instInhT : Inhabited ((Value × Value) × Tb) := ⟨((.slice none 0 0, .slice none 0 0), ⟨[], []⟩)⟩
local instance instInhS : Inhabited (SD × Value) := ⟨(⟨0, [], false⟩, .slice none 0 0)⟩
theorem open_tabsU {v : Value} (h : tr enc w fuel 37 [v] = some x) : ∃ ts : List Tb, RdTabs w v ts /\ (Bk x.1 -> ts.length <= 1048576 /\ ∀ t, t ∈ ts -> TabU t) := by
 obtain ⟨l, D, hr, hn, hp⟩ := open_rd (α := (Value × Value) × Tb) Tryz.underlying37 cellsOf25 (by decide) (fun q => [q.1.1, q.1.2]) (fun _ => rfl) (fun q d => RdTab w (.agg #[q.1.1, q.1.2]) q.2 /\ (Bk d -> TabU q.2)) (fun _ _ _ h => open_tabU h) h
 have hf : l.flatMap (fun q => [q.1.1, q.1.2]) = (l.map (·.1)).flatMap (fun x => [x.1, x.2]) := by rw [List.flatMap_map]
 rw [hf] at hr
 refine ⟨l.map (·.2), ⟨l.map (·.1), by simp, by rw [List.length_map]; exact hr, fun j y t h1 h2 => ?_⟩, fun hL => ?_⟩
 ·rw [List.getElem?_map] at h1 h2
  obtain ⟨q, hq, rfl⟩ := Option.map_eq_some_iff.1 h1
  rw [hq] at h2
  cases h2
  exact (hp j q hq).1
 ·have := bk_nil hn hL
  refine ⟨by rw [List.length_map]; exact this.1, fun t ht => ?_⟩
  obtain ⟨q, hq, rfl⟩ := List.mem_map.1 ht
  obtain ⟨i, hi⟩ := List.getElem?_of_mem hq
  exact (hp i q hi).2 (this.2 i (List.getElem?_eq_some_iff.1 hi).1)
end
end
section
open Go.RowKit
def rowsOf (ts : List Tb) : Nat := (ts.map fun t => t.rows.length).sum
def rowsAll (ss : List SD) : Nat := (ss.map fun s => rowsOf s.tabs).sum
theorem rowsOf_le (ts : List Tb) (h : ∀ t, t ∈ ts -> t.rows.length <= 1048576) : rowsOf ts <= ts.length * 1048576 := by
 induction ts with
 | nil => simp [rowsOf]
 | cons a r ih =>
  have h1 := ih fun t ht => h t (by simp [ht])
  have h2 := h a (by simp)
  simp only [rowsOf, List.map_cons, List.sum_cons, List.length_cons] at *
  omega
theorem rowsOf_mem {ts : List Tb} {t : Tb} (h : t ∈ ts) : t.rows.length <= rowsOf ts := by
 induction ts with
 | nil => cases h
 | cons a r ih =>
  simp only [rowsOf, List.map_cons, List.sum_cons] at *
  rcases List.mem_cons.1 h with rfl | h
  ·omega
  ·have := ih h; omega
theorem rowsAll_mem {ss : List SD} {s : SD} (h : s ∈ ss) : rowsOf s.tabs <= rowsAll ss := by
 induction ss with
 | nil => cases h
 | cons a r ih =>
  simp only [rowsAll, List.map_cons, List.sum_cons] at *
  rcases List.mem_cons.1 h with rfl | h
  ·omega
  ·have := ih h; omega
theorem rowsAll_le (ss : List SD) (h : ∀ s, s ∈ ss -> SDU s) : rowsAll ss <= ss.length * 1099511627776 := by
 induction ss with
 | nil => simp [rowsAll]
 | cons a r ih =>
  have h1 := ih fun t ht => h t (by simp [ht])
  have h2 := h a (by simp)
  have h3 := rowsOf_le a.tabs fun t ht => (h2.tab t ht).rows
  have h4 := h2.len
  have h5 : a.tabs.length * 1048576 <= 1048576 * 1048576 := Nat.mul_le_mul_right _ h4
  simp only [rowsAll, List.map_cons, List.sum_cons, List.length_cons] at *
  omega
theorem rowsAll_take {ss : List SD} {j : Nat} {s : SD} (h : ss[j]? = some s) : rowsAll (ss.take (j + 1)) = rowsAll (ss.take j) + rowsOf s.tabs := by
 have hlt := (List.getElem?_eq_some_iff.1 h).1
 unfold rowsAll
 rw [List.take_succ_eq_append_getElem hlt, (List.getElem?_eq_some_iff.1 h).2, List.map_append, List.sum_append]
 simp
theorem RdTabs.lens {w : World} {g off c n : Nat} {ts : List Tb} (h : RdTabs w (.slice (some ⟨g, off, none⟩) n c) ts) : Lens w g off (ts.map fun t => t.rows.length) := by
 intro i n' hi
 rw [List.getElem?_map] at hi
 obtain ⟨t, ht, rfl⟩ := Option.map_eq_some_iff.1 hi
 obtain ⟨g', off', c', a1, a2, a3, a4, he, hg, k1, k2, _⟩ := h.at ht
 cases he
 exact ⟨a3, a4, k2⟩
theorem many57n (w : World) (a : Option Addr) (c : Nat) : Calls Tryz.prog 57 #[.slice a 0 c] w fun e w' => e = .returned (.int .i64 0) /\ w = w' := by
 go_enter Tryz.func57, Tryz.ntmps57
 go_wp2
 go_loopw [3, 4] (fun n i wr => n = .int .i64 0 /\ i = .int .i64 0 /\ wr = w) (fun _ _ _ => 0)
 case atStart => exact ⟨rfl, rfl, rfl⟩
 case round =>
  obtain ⟨rfl, rfl, rfl⟩ := hrel
  go_wp2
  go_ret
  exact ⟨rfl, rfl⟩
theorem many57 {w : World} {v : Value} {ts : List Tb} (h : RdTabs w v ts) (hs : ts.length <= 1048576) (hr : ∀ t, t ∈ ts -> t.rows.length <= 1048576) :
  Calls Tryz.prog 57 #[v] w fun e w' => e = .returned (.int .i64 (rowsOf ts : Int)) /\ w = w' := by
 have hle := rowsOf_le ts hr
 have h5 : ts.length * 1048576 <= 1048576 * 1048576 := Nat.mul_le_mul_right _ hs
 by_cases h0 : ts = []
 ·subst h0
  obtain ⟨a, c, rfl⟩ := h.shape
  exact many57n w a c
 ·obtain ⟨t, ht⟩ : ∃ t, ts[0]? = some t := by
   cases ts with
   | nil => exact absurd rfl h0
   | cons t r => exact ⟨t, rfl⟩
  obtain ⟨g, off, c, a1, a2, a3, a4, rfl, hg, _⟩ := h.at ht
  have := many42 (ls := ts.map fun t => t.rows.length) (cap := c) h.lens hg (by show rowsOf ts <= _; omega) (by simp; omega)
  rw [List.length_map] at this
  exact this
end
end Go.Proofs.YtbejmdlncnkaaaaGreat
