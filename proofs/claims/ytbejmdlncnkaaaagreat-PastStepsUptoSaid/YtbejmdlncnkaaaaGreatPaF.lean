/-
  The statements' arguments, opened: points in a slice, an interval; what the bound of their bulk gives. The statements' many: how many rows the points' tables have. The statements' arguments, opened: what is to be made, of the past.
-/
import Derived.Test.YtbejmdlncnkaaaaGreatPaA
import Derived.Test.YtbejmdlncnkaaaaGreatRsr
import Derived.Test.YtbejmdlncnkaaaaGreatRows
import Derived.Test.YtbejmdlncnkaaaaGreatLow
import Derived.Test.YtbejmdlncnkaaaaGreatQB
import Derived.Test.YtbejmdlncnkaaaaGreatFraB
set_option maxRecDepth 100000
set_option maxHeartbeats 16000000
set_option linter.unusedSimpArgs false
namespace Go.Proofs.YtbejmdlncnkaaaaGreat
section
open Go.RowKit Go.ChangeShapes Go.WideShapes Go.ChangeAt Go.Joins
def Bk {H : Type} (d : DataW H) : Prop := Rows.uptoBulk d <= 1048576
theorem bulk_one {H : Type} (d : DataW H) : 1 <= Rows.uptoBulk d := by
 cases d with
 | lit l => cases l <;> simp [Rows.uptoBulk]
 | _ => simp [Rows.uptoBulk]
theorem bulk_part {H : Type} {d : DataW H} {l : List (DataW H)} (h : d ∈ l) : Rows.uptoBulk d <= Rows.uptoBulkAll l := by
 induction l with
 | nil => cases h
 | cons x r ih =>
  simp only [Rows.uptoBulkAll]
  rcases List.mem_cons.1 h with e | e
  ·subst e; omega
  ·have := ih e; omega
theorem bulk_len {H : Type} (l : List (DataW H)) : l.length <= Rows.uptoBulkAll l := by
 induction l with
 | nil => simp [Rows.uptoBulkAll]
 | cons x r ih => have := bulk_one x; simp only [Rows.uptoBulkAll, List.length_cons]; omega
theorem bk_agg {H : Type} {l : List (DataW H)} (h : Bk (.agg l)) : ∀ d, d ∈ l -> Bk d := fun d hd => by
 have := bulk_part hd
 simp only [Bk, Rows.uptoBulk] at h
 simp only [Bk]
 omega
theorem bk_slice {H : Type} {l s : List (DataW H)} (h : Bk (.slice l s)) : l.length <= 1048576 /\ ∀ d, d ∈ l -> Bk d := by
 simp only [Bk, Rows.uptoBulk] at h
 refine ⟨by have := bulk_len l; omega, fun d hd => ?_⟩
 have := bulk_part hd
 simp only [Bk]
 omega
theorem bk_all {H : Type} {l : List (DataW H)} (h : Rows.uptoBulkAll l <= 1048576) : ∀ d, d ∈ l -> Bk d := fun _ hd => Nat.le_trans (bulk_part hd) h
theorem bk_nil {H : Type} {D : Nat -> DataW H} {α : Type} {l : List α} {d : DataW H} (h : l = [] ∨ ∃ rest, d = .slice ((List.range l.length).map D) rest) (hB : Bk d) : l.length <= 1048576 /\ ∀ i, i < l.length -> Bk (D i) := by
 rcases h with rfl | ⟨rest, rfl⟩
 ·exact ⟨by simp, by simp⟩
 ·obtain ⟨h1, h2⟩ := bk_slice hB
  refine ⟨by simpa using h1, fun i hi => h2 _ (List.mem_map.2 ⟨i, List.mem_range.2 hi, rfl⟩)⟩
structure TabU (t : Tb) : Prop where
 vars : t.vars.length <= 1048576
 rows : t.rows.length <= 1048576
 row : ∀ r, r ∈ t.rows -> r.length <= 1048576
structure SD where
 time : Int
 tabs : List Tb
 clone : Bool
structure RdSteps (w : World) (v : Value) (ss : List SD) : Prop where
 ex : ∃ xs : List (SD × Value), xs.map (·.1) = ss /\ w.Rd 3 v ss.length (xs.flatMap fun x => [.int .i64 x.1.time, x.2, .bool x.1.clone]) /\ ∀ x, x ∈ xs -> RdTabs w x.2 x.1.tabs
structure SDU (s : SD) : Prop where
 len : s.tabs.length <= 1048576
 tab : ∀ t, t ∈ s.tabs -> TabU t
theorem RdSteps.still {w w' : World} {v : Value} {ss : List SD} (h : RdSteps w v ss) (hf : w.Fr w' []) : RdSteps w' v ss := by
 obtain ⟨xs, h1, h2, h3⟩ := h.ex
 exact ⟨xs, h1, h2.fr hf (by simp), fun x hx => (h3 x hx).still hf⟩
theorem RdSteps.shape {w : World} {v : Value} {ss : List SD} (h : RdSteps w v ss) : ∃ a c, v = .slice a ss.length c := by
 obtain ⟨xs, h1, h2, h3⟩ := h.ex
 obtain ⟨a, c, e, _⟩ := h2.shape
 exact ⟨a, c, e⟩
theorem flatS {xs : List (SD × Value)} {j : Nat} {x : SD × Value} (h : xs[j]? = some x) : (xs.flatMap fun x => [Value.int .i64 x.1.time, x.2, .bool x.1.clone])[j * 3]? = some (.int .i64 x.1.time) /\ (xs.flatMap fun x => [Value.int .i64 x.1.time, x.2, .bool x.1.clone])[j * 3 + 1]? = some x.2 /\ (xs.flatMap fun x => [Value.int .i64 x.1.time, x.2, .bool x.1.clone])[j * 3 + 2]? = some (.bool x.1.clone) := by
 induction xs generalizing j with
 | nil => simp at h
 | cons a t ih =>
  cases j with
  | zero => simp at h; subst h; simp
  | succ j =>
   have h' : t[j]? = some x := by simpa using h
   obtain ⟨i1, i2, i3⟩ := ih h'
   simp only [List.flatMap_cons]
   rw [List.getElem?_append_right (by simp; omega), List.getElem?_append_right (by simp; omega), List.getElem?_append_right (by simp; omega)]
   have e1 : (j + 1) * 3 - [Value.int .i64 a.1.time, a.2, .bool a.1.clone].length = j * 3 := by simp; omega
   have e2 : (j + 1) * 3 + 1 - [Value.int .i64 a.1.time, a.2, .bool a.1.clone].length = j * 3 + 1 := by simp; omega
   have e3 : (j + 1) * 3 + 2 - [Value.int .i64 a.1.time, a.2, .bool a.1.clone].length = j * 3 + 2 := by simp; omega
   rw [e1, e2, e3]
   exact ⟨i1, i2, i3⟩
theorem RdSteps.at {w : World} {v : Value} {ss : List SD} (h : RdSteps w v ss) {j : Nat} {s : SD} (hj : ss[j]? = some s) :
  ∃ g off c a m, v = .slice (some ⟨g, off, none⟩) ss.length c /\ g < w.heap.size /\ w.cell? ⟨g, off + j * 3, none⟩ = some (.int .i64 s.time) /\ w.cell? ⟨g, off + j * 3 + 1, none⟩ = some (.slice a s.tabs.length m) /\ w.cell? ⟨g, off + j * 3 + 2, none⟩ = some (.bool s.clone) /\ RdTabs w (.slice a s.tabs.length m) s.tabs := by
 obtain ⟨xs, h1, h2, h3⟩ := h.ex
 have hjl := (List.getElem?_eq_some_iff.1 hj).1
 rw [<- h1, List.getElem?_map] at hj
 obtain ⟨x, hx, rfl⟩ := Option.map_eq_some_iff.1 hj
 have hr := h3 x (List.mem_of_getElem? hx)
 obtain ⟨a, m, ha⟩ := hr.shape
 obtain ⟨g, off, c, he, _, _, hg, hc⟩ := h2.form (by omega)
 obtain ⟨f1, f2, f3⟩ := flatS hx
 have c1 := hc (j * 3) (by omega)
 have c2 := hc (j * 3 + 1) (by omega)
 have c3 := hc (j * 3 + 2) (by omega)
 rw [f1] at c1
 rw [f2, ha] at c2
 rw [f3] at c3
 rw [ha] at hr
 exact ⟨g, off, c, a, m, he, hg, c1, by rw [Nat.add_assoc]; exact c2, by rw [Nat.add_assoc]; exact c3, hr⟩
section
variable {H : Type} {enc : TypeId × Value -> H} {w : World} {fuel : Nat} {x : DataW H × List MemPlace}
local instance instInhU : Inhabited V := ⟨⟨0, 0, 0, .empty⟩⟩
theorem open_rowU {v : Value} (h : tr enc w fuel 81 [v] = some x) : ∃ r : Row, RdRow w v r /\ (Bk x.1 -> r.length <= 1048576) := by
 obtain ⟨l, D, hr, hn, hp⟩ := open_rd (α := V) Tryz.underlying81 cellsOf60 (by decide) V.enc (fun _ => rfl) (fun v _ => v.wf) (fun _ _ _ h => open_v h) h
 refine ⟨l, ⟨hr, fun v hv => ?_⟩, fun hL => (bk_nil hn hL).1⟩
 obtain ⟨i, hi⟩ := List.getElem?_of_mem hv
 exact hp i v hi
theorem open_strsU {v : Value} (h : tr enc w fuel 24 [v] = some x) : ∃ r : List BA, RdStr w v r /\ (Bk x.1 -> r.length <= 1048576) := by
 obtain ⟨l, D, hr, hn, hp⟩ := open_rd (α := BA) Tryz.underlying24 cellsOf9 (by decide) (fun s => [Value.string s]) (fun _ => rfl) (fun s _ => s.size <= 9223372036854775807) (fun _ _ _ h => by
  obtain ⟨s, h1, _, h3⟩ := DataW.trod_string Tryz.underlying9 h
  exact ⟨s, h1, by unfold maxLen at h3; exact h3⟩) h
 have hf : l.flatMap (fun s => [Value.string s]) = l.map Value.string := by
  clear hr hn hp
  induction l with
  | nil => rfl
  | cons a l ih => rw [List.flatMap_cons, ih]; rfl
 rw [hf] at hr
 refine ⟨l, ⟨hr, fun v hv => ?_⟩, fun hL => (bk_nil hn hL).1⟩
 obtain ⟨i, hi⟩ := List.getElem?_of_mem hv
 exact hp i v hi
theorem open_rowsU {v : Value} (h : tr enc w fuel 32 [v] = some x) : ∃ (rs : List Row) (hs : List Value), RdRows w v rs hs /\ (Bk x.1 -> rs.length <= 1048576 /\ ∀ r, r ∈ rs -> r.length <= 1048576) := by
 obtain ⟨l, D, hr, hn, hp⟩ := open_rd (α := Value × Row) Tryz.underlying32 cellsOf32 (by decide) (fun q => [q.1]) (fun _ => rfl) (fun q d => RdRow w q.1 q.2 /\ (Bk d -> q.2.length <= 1048576)) (fun n cs y h => by
  have hl : cs.length = 1 := by
   rcases Deep.open_slice Tryz.underlying81 h with ⟨h0, _⟩ | ⟨_, _, _, _, _, _, _, h0, _⟩ <;> subst h0 <;> rfl
  match cs, hl with
  | [v], _ =>
   obtain ⟨r, h1, h2⟩ := open_rowU h
   exact ⟨(v, r), rfl, h1, h2⟩) h
 have hf : l.flatMap (fun q => [q.1]) = l.map (·.1) := by
  clear hr hn hp
  induction l with
  | nil => rfl
  | cons a l ih => rw [List.flatMap_cons, ih]; rfl
 rw [hf] at hr
 refine ⟨l.map (·.2), l.map (·.1), ⟨by rw [List.length_map]; exact hr, by simp, fun i hv r h1 h2 => ?_⟩, fun hL => ?_⟩
 ·rw [List.getElem?_map] at h1 h2
  obtain ⟨q, hq, rfl⟩ := Option.map_eq_some_iff.1 h1
  rw [hq] at h2
  cases h2
  exact (hp i q hq).1
 ·have := bk_nil hn hL
  refine ⟨by rw [List.length_map]; exact this.1, fun r hr => ?_⟩
  obtain ⟨q, hq, rfl⟩ := List.mem_map.1 hr
  obtain ⟨i, hi⟩ := List.getElem?_of_mem hq
  exact (hp i q hi).2 (this.2 i (List.getElem?_eq_some_iff.1 hi).1)
theorem open_tabU {cs : List Value} (h : tr enc w fuel 34 cs = some x) : ∃ q : (Value × Value) × Tb, cs = [q.1.1, q.1.2] /\ RdTab w (.agg #[q.1.1, q.1.2]) q.2 /\ (Bk x.1 -> TabU q.2) := by
 obtain ⟨y0, y1, n, rfl, hl, h0, h1⟩ := Go.ChangeShapes.trod_struct2 Tryz.underlying34 h
 rw [cellsOf25] at hl
 match cs, hl with
 | [c0, c1], _ =>
  simp only [cellsOf22, cellsOf23, List.drop_zero, List.drop_succ_cons, List.take_succ_cons, List.take_zero] at h0 h1
  obtain ⟨l, hv, hvu⟩ := open_strsU h0
  obtain ⟨rs, hs, hr, hru⟩ := open_rowsU h1
  refine ⟨((c0, c1), ⟨l, rs⟩), rfl, ⟨⟨c0, c1, hs, rfl, hv, hr⟩⟩, fun hB => ?_⟩
  have hb := bk_agg hB
  have b0 := hvu (hb _ (by simp))
  have b1 := hru (hb _ (by simp))
  exact ⟨b0, b1.1, b1.2⟩
theorem cellsOf37 : Tryz.prog.cellsOf 37 = 1 := by kernel_rfl
theorem cellsOf39 : Tryz.prog.cellsOf 39 = 3 := by kernel_rfl
theorem cellsOf4 : Tryz.prog.cellsOf 4 = 1 := by kernel_rfl
local instance instInhT : Inhabited ((Value × Value) × Tb) := ⟨((.slice none 0 0, .slice none 0 0), ⟨[], []⟩)⟩
local instance instInhS : Inhabited (SD × Value) := ⟨(⟨0, [], false⟩, .slice none 0 0)⟩
theorem open_tabsU {v : Value} (h : tr enc w fuel 37 [v] = some x) : ∃ ts : List Tb, RdTabs w v ts /\ (Bk x.1 -> ts.length <= 1048576 /\ ∀ t, t ∈ ts -> TabU t) := by
 obtain ⟨l, D, hr, hn, hp⟩ := open_rd (α := (Value × Value) × Tb) Tryz.underlying37 cellsOf25 (by decide) (fun q => [q.1.1, q.1.2]) (fun _ => rfl) (fun q d => RdTab w (.agg #[q.1.1, q.1.2]) q.2 /\ (Bk d -> TabU q.2)) (fun _ _ _ h => open_tabU h) h
 have hf : l.flatMap (fun q => [q.1.1, q.1.2]) = (l.map (·.1)).flatMap (fun x => [x.1, x.2]) := by rw [List.flatMap_map]
 rw [hf] at hr
 refine ⟨l.map (·.2), ⟨l.map (·.1), by simp, by rw [List.length_map]; exact hr, fun j y t h1 h2 => ?_⟩, fun hL => ?_⟩
 ·rw [List.getElem?_map] at h1 h2
  obtain ⟨q, hq, rfl⟩ := Option.map_eq_some_iff.1 h1
  rw [hq] at h2
  cases h2
  exact (hp j q hq).1
 ·have := bk_nil hn hL
  refine ⟨by rw [List.length_map]; exact this.1, fun t ht => ?_⟩
  obtain ⟨q, hq, rfl⟩ := List.mem_map.1 ht
  obtain ⟨i, hi⟩ := List.getElem?_of_mem hq
  exact (hp i q hi).2 (this.2 i (List.getElem?_eq_some_iff.1 hi).1)
theorem open_stepU {cs : List Value} (h : tr enc w fuel 39 cs = some x) : ∃ q : SD × Value, cs = [.int .i64 q.1.time, q.2, .bool q.1.clone] /\ RdTabs w q.2 q.1.tabs /\ (Bk x.1 -> SDU q.1) := by
 obtain ⟨y0, y1, y2, n, rfl, hl, h0, h1, h2⟩ := Go.Deep.trod_struct3 Tryz.underlying39 h
 rw [cellsOf39] at hl
 match cs, hl with
 | [c0, c1, c2], _ =>
  simp only [cellsOf37, cellsOf2, cellsOf4, List.drop_zero, List.drop_succ_cons, List.take_succ_cons, List.take_zero] at h0 h1 h2
  obtain ⟨a, e0, _, w0⟩ := DataW.trod_int Tryz.underlying2 h0
  obtain ⟨ts, hv, hvu⟩ := open_tabsU h1
  obtain ⟨b, e2, _⟩ := DataW.trod_bool Tryz.underlying4 h2
  simp only [List.cons.injEq, and_true] at e0 e2
  subst e0 e2
  refine ⟨(⟨a, ts, b⟩, c1), rfl, hv, fun hB => ?_⟩
  have b1 := hvu (bk_agg hB _ (by simp))
  exact ⟨b1.1, b1.2⟩
theorem open_stepsU {v : Value} (h : tr enc w fuel 25 [v] = some x) : ∃ ss : List SD, RdSteps w v ss /\ (Bk x.1 -> ss.length <= 1048576 /\ ∀ s, s ∈ ss -> SDU s) := by
 obtain ⟨l, D, hr, hn, hp⟩ := open_rd (α := SD × Value) Tryz.underlying25 cellsOf39 (by decide) (fun q => [.int .i64 q.1.time, q.2, .bool q.1.clone]) (fun _ => rfl) (fun q d => RdTabs w q.2 q.1.tabs /\ (Bk d -> SDU q.1)) (fun _ _ _ h => open_stepU h) h
 refine ⟨l.map (·.1), ⟨l, rfl, by rw [List.length_map]; exact hr, fun q hq => ?_⟩, fun hL => ?_⟩
 ·obtain ⟨i, hi⟩ := List.getElem?_of_mem hq
  exact (hp i q hi).1
 ·have := bk_nil hn hL
  refine ⟨by rw [List.length_map]; exact this.1, fun t ht => ?_⟩
  obtain ⟨q, hq, rfl⟩ := List.mem_map.1 ht
  obtain ⟨i, hi⟩ := List.getElem?_of_mem hq
  exact (hp i q hi).2 (this.2 i (List.getElem?_eq_some_iff.1 hi).1)
end
end
section
open Go.RowKit
def rowsOf (ts : List Tb) : Nat := (ts.map fun t => t.rows.length).sum
def rowsAll (ss : List SD) : Nat := (ss.map fun s => rowsOf s.tabs).sum
theorem rowsOf_le (ts : List Tb) (h : ∀ t, t ∈ ts -> t.rows.length <= 1048576) : rowsOf ts <= ts.length * 1048576 := by
 induction ts with
 | nil => simp [rowsOf]
 | cons a r ih =>
  have h1 := ih fun t ht => h t (by simp [ht])
  have h2 := h a (by simp)
  simp only [rowsOf, List.map_cons, List.sum_cons, List.length_cons] at *
  omega
theorem rowsOf_mem {ts : List Tb} {t : Tb} (h : t ∈ ts) : t.rows.length <= rowsOf ts := by
 induction ts with
 | nil => cases h
 | cons a r ih =>
  simp only [rowsOf, List.map_cons, List.sum_cons] at *
  rcases List.mem_cons.1 h with rfl | h
  ·omega
  ·have := ih h; omega
theorem rowsAll_mem {ss : List SD} {s : SD} (h : s ∈ ss) : rowsOf s.tabs <= rowsAll ss := by
 induction ss with
 | nil => cases h
 | cons a r ih =>
  simp only [rowsAll, List.map_cons, List.sum_cons] at *
  rcases List.mem_cons.1 h with rfl | h
  ·omega
  ·have := ih h; omega
theorem rowsAll_le (ss : List SD) (h : ∀ s, s ∈ ss -> SDU s) : rowsAll ss <= ss.length * 1099511627776 := by
 induction ss with
 | nil => simp [rowsAll]
 | cons a r ih =>
  have h1 := ih fun t ht => h t (by simp [ht])
  have h2 := h a (by simp)
  have h3 := rowsOf_le a.tabs fun t ht => (h2.tab t ht).rows
  have h4 := h2.len
  have h5 : a.tabs.length * 1048576 <= 1048576 * 1048576 := Nat.mul_le_mul_right _ h4
  simp only [rowsAll, List.map_cons, List.sum_cons, List.length_cons] at *
  omega
theorem rowsAll_take {ss : List SD} {j : Nat} {s : SD} (h : ss[j]? = some s) : rowsAll (ss.take (j + 1)) = rowsAll (ss.take j) + rowsOf s.tabs := by
 have hlt := (List.getElem?_eq_some_iff.1 h).1
 unfold rowsAll
 rw [List.take_succ_eq_append_getElem hlt, (List.getElem?_eq_some_iff.1 h).2, List.map_append, List.sum_append]
 simp
theorem RdTabs.lens {w : World} {g off c n : Nat} {ts : List Tb} (h : RdTabs w (.slice (some ⟨g, off, none⟩) n c) ts) : Lens w g off (ts.map fun t => t.rows.length) := by
 intro i n' hi
 rw [List.getElem?_map] at hi
 obtain ⟨t, ht, rfl⟩ := Option.map_eq_some_iff.1 hi
 obtain ⟨g', off', c', a1, a2, a3, a4, he, hg, k1, k2, _⟩ := h.at ht
 cases he
 exact ⟨a3, a4, k2⟩
theorem many57n (w : World) (a : Option Addr) (c : Nat) : Calls Tryz.prog 57 #[.slice a 0 c] w fun e w' => e = .returned (.int .i64 0) /\ w = w' := by
 go_enter Tryz.func57, Tryz.ntmps57
 go_wp2
 go_loopw [3, 4] (fun n i wr => n = .int .i64 0 /\ i = .int .i64 0 /\ wr = w) (fun _ _ _ => 0)
 case atStart => exact ⟨rfl, rfl, rfl⟩
 case round =>
  obtain ⟨rfl, rfl, rfl⟩ := hrel
  go_wp2
  go_ret
  exact ⟨rfl, rfl⟩
theorem many57 {w : World} {v : Value} {ts : List Tb} (h : RdTabs w v ts) (hs : ts.length <= 1048576) (hr : ∀ t, t ∈ ts -> t.rows.length <= 1048576) :
  Calls Tryz.prog 57 #[v] w fun e w' => e = .returned (.int .i64 (rowsOf ts : Int)) /\ w = w' := by
 have hle := rowsOf_le ts hr
 have h5 : ts.length * 1048576 <= 1048576 * 1048576 := Nat.mul_le_mul_right _ hs
 by_cases h0 : ts = []
 ·subst h0
  obtain ⟨a, c, rfl⟩ := h.shape
  exact many57n w a c
 ·obtain ⟨t, ht⟩ : ∃ t, ts[0]? = some t := by
   cases ts with
   | nil => exact absurd rfl h0
   | cons t r => exact ⟨t, rfl⟩
  obtain ⟨g, off, c, a1, a2, a3, a4, rfl, hg, _⟩ := h.at ht
  have := many42 (ls := ts.map fun t => t.rows.length) (cap := c) h.lens hg (by show rowsOf ts <= _; omega) (by simp; omega)
  rw [List.length_map] at this
  exact this
theorem many15 {w : World} {v : Value} {ss : List SD} (h : RdSteps w v ss) (hl : ss.length <= 1048576) (hu : ∀ s, s ∈ ss -> SDU s) :
  Calls Tryz.prog 15 #[v] w fun e w' => e = .returned (.int .i64 (rowsAll ss : Int)) /\ w.Fr w' [] := by
 have hall : rowsAll ss <= 1048576 * 1099511627776 := Nat.le_trans (rowsAll_le ss hu) (Nat.mul_le_mul_right _ hl)
 obtain ⟨v1, v2, rfl⟩ := h.shape
 obtain ⟨N, hN⟩ : ∃ N, ss.length = N := ⟨_, rfl⟩
 rw [hN] at h ⊢
 have H := Hz h; have HN := Hz hN; have HU := Hz hu; have HA := Hz hall; have HL := Hz hl
 have HF0 := Hz (World.Fr.refl w [])
 clear h hN hu hall hl
 go_enter Tryz.func15, Tryz.ntmps15
 go_wp2
 go_loopw [3, 8] (fun n i wr => ∃ (j m : Nat), i = .int .i64 j /\ n = .int .i64 m /\ j <= N /\ Hid (rowsAll (ss.take j) = m) /\ Hid (w.Fr wr [])) (fun _ i _ => (N - intOf i).toNat)
 case atStart => exact ⟨0, 0, rfl, rfl, Nat.zero_le _, Hz rfl, HF0⟩
 case round =>
  obtain ⟨j, m, rfl, rfl, hj, HM, HF⟩ := hrel
  clear HF0
  by_cases hlt : j < N
  ·obtain ⟨s, hs⟩ : ∃ s, ss[j]? = some s := ⟨ss[j]'(by have := HN.out; omega), List.getElem?_eq_getElem _⟩
   obtain ⟨g, off, c, a, mm, hv, hg, k0, k1, k2, hrd⟩ := (H.out.still HF.out).at hs
   rw [HN.out] at hv
   cases hv
   have hjI : (j : Int) < (N : Int) := by omega
   have hw1 : IntKind.i64.wrap ((j : Int) + 1) = (j : Int) + 1 := IntWalk.i64_in _ (by have := HN.out; have := HL.out; omega)
   have hnn : (0 : Int) <= (j : Int) := by omega
   have hu := HU.out s (List.mem_of_getElem? hs)
   have hst := rowsAll_take hs
   rw [HM.out] at hst
   have hle : m + rowsOf s.tabs <= 1048576 * 1099511627776 := by
    rw [<- hst]
    refine Nat.le_trans ?_ HA.out
    unfold rowsAll
    conv => rhs; rw [<- List.take_append_drop (j + 1) ss, List.map_append, List.sum_append]
    omega
   obtain ⟨k, hk⟩ : ∃ k, rowsOf s.tabs = k := ⟨_, rfl⟩
   rw [hk] at hst hle
   have hw2 : IntKind.i64.wrap ((m : Int) + (k : Int)) = (m : Int) + (k : Int) := IntWalk.i64_in _ (by omega)
   have hf9 := (World.Fr.refl wr []).alloc (.cells #[.int .i64 s.time, .slice a s.tabs.length mm, .bool s.clone] 39)
   have q9 := heap_alloc_at wr (.cells #[.int .i64 s.time, .slice a s.tabs.length mm, .bool s.clone] 39) _ rfl
   have hc := many57 (hrd.still hf9) hu.len (fun t ht => (hu.tab t ht).rows)
   rw [hk] at hc
   have Hc := Hz hc; have Hst := Hz hst; have HF := Hz (HF.out.trans hf9 (by simp))
   clear hc hst hle hk hu hs hrd hf9
   go_upto_region 5 with (fail)
   generalize hWW : World.alloc wr _ = w5 at *
   clear hWW
   obtain ⟨t0, t1, t2, tf⟩ := tri q9
   have hz9 := lt_of_heap q9
   clear q9 k0 k1 k2 hg
   go_wp2_with fail
   (with_reducible refine Hc.out.mono ?_)
   rintro e w6 ⟨rfl, rfl⟩
   go_wp2
   go_roundw
   case rel => exact ⟨j + 1, m + k, by go_num, by go_num, by omega, Hst, HF⟩
   case measure => simp [intOf]; omega
  ·have hd : decide ((j : Int) < (N : Int)) = false := decide_eq_false (by omega)
   have hd2 : decide (j < N) = false := decide_eq_false hlt
   have hm := HM.out
   rw [List.take_of_length_le (by rw [HN.out]; omega)] at hm
   have Hm := Hz hm; clear hm HM hlt hj
   go_wp2
   go_ret
   exact ⟨by rw [Hm.out]; rfl, HF.out⟩
end
section
open Go.RowKit Go.ChangeShapes Go.WideShapes Go.ChangeAt Go.Joins
theorem array7 {α : Type} {cs : Array α} (h : cs.size = 7) : ∃ c0 c1 c2 c3 c4 c5 c6, cs = #[c0, c1, c2, c3, c4, c5, c6] := by
 obtain ⟨l⟩ := cs
 match l, h with
 | [c0, c1, c2, c3, c4, c5, c6], _ => exact ⟨c0, c1, c2, c3, c4, c5, c6, rfl⟩
section
variable {H : Type} {enc : TypeId × Value -> H} {w : World}
theorem cellsOf47 : Tryz.prog.cellsOf 47 = 7 := by kernel_rfl
theorem cellsOf24p : Tryz.prog.cellsOf 24 = 1 := by kernel_rfl
theorem cellsOf23p : Tryz.prog.cellsOf 23 = 3 := by kernel_rfl
theorem open_make47 {b0 : Nat} {v : Value} {d : DataW H} {p : List MemPlace} (hv : Value.okWide Tryz.prog w .any b0 47 v) (h : DataW.Trod enc Tryz.prog w 0 (fun _ => true) true 47 v d p) :
  ∃ (m : MkD) (v1 v2 : Value), v = m.v v1 v2 /\ RdStr w v1 m.left /\ RdStr w v2 m.right /\ (Bk d -> m.left.length <= 1048576 /\ m.right.length <= 1048576) := by
 obtain ⟨cs, rfl, hsz⟩ := okWide_struct Tryz.underlying47 hv
 obtain ⟨c0, c1, c2, c3, c4, c5, c6, rfl⟩ := array7 (hsz.trans cellsOf47)
 obtain ⟨fuel, hf⟩ := h
 obtain ⟨xs, n, _, hx, hl, hlen, hf⟩ := DataW.trod_struct Tryz.underlying47 hf
 match xs, hlen with
 | [y0, y1, y2, y3, y4], _ =>
  have h0 : tr enc w n 3 (([c0, c1, c2, c3, c4, c5, c6].drop 0).take (Tryz.prog.cellsOf 3)) = some y0 := hf 0 _ rfl
  simp only [cellsOf3, List.drop_zero, List.take_succ_cons, List.take_zero] at h0
  have h1 : tr enc w n 23 (([c0, c1, c2, c3, c4, c5, c6].drop 1).take (Tryz.prog.cellsOf 23)) = some y1 := hf 1 _ rfl
  simp only [cellsOf23p, List.drop_zero, List.drop_succ_cons, List.take_succ_cons, List.take_zero] at h1
  have h2 : tr enc w n 4 (([c0, c1, c2, c3, c4, c5, c6].drop 4).take (Tryz.prog.cellsOf 4)) = some y2 := hf 2 _ rfl
  simp only [cellsOf4, List.drop_zero, List.drop_succ_cons, List.take_succ_cons, List.take_zero] at h2
  have h3 : tr enc w n 24 (([c0, c1, c2, c3, c4, c5, c6].drop 5).take (Tryz.prog.cellsOf 24)) = some y3 := hf 3 _ rfl
  simp only [cellsOf24p, List.drop_zero, List.drop_succ_cons, List.take_succ_cons, List.take_zero] at h3
  have h4 : tr enc w n 24 (([c0, c1, c2, c3, c4, c5, c6].drop 6).take (Tryz.prog.cellsOf 24)) = some y4 := hf 4 _ rfl
  simp only [cellsOf24p, List.drop_zero, List.drop_succ_cons, List.take_succ_cons, List.take_zero] at h4
  obtain ⟨a, e0, _, w0⟩ := DataW.trod_int Tryz.underlying3 h0
  obtain ⟨z0, z1, z2, n1, hz, _, k0, k1, k2⟩ := Go.Deep.trod_struct3 Tryz.underlying23 h1
  simp only [cellsOf2, cellsOf4, List.drop_zero, List.drop_succ_cons, List.take_succ_cons, List.take_zero] at k0 k1 k2
  obtain ⟨lo, ea, _, _⟩ := DataW.trod_int Tryz.underlying2 k0
  obtain ⟨hi, eb, _, _⟩ := DataW.trod_int Tryz.underlying2 k1
  obtain ⟨op, ec, _⟩ := DataW.trod_bool Tryz.underlying4 k2
  obtain ⟨nt, ed, _⟩ := DataW.trod_bool Tryz.underlying4 h2
  obtain ⟨l, hl1, hb1⟩ := open_strsU h3
  obtain ⟨r, hr1, hb2⟩ := open_strsU h4
  simp only [List.cons.injEq, and_true] at e0 ea eb ec ed
  subst e0 ea eb ec ed
  have hd : d = .agg [y0.1, y1.1, y2.1, y3.1, y4.1] := by have := congrArg Prod.fst hx; simpa using this
  refine ⟨⟨a, ⟨lo, hi, op⟩, nt, l, r⟩, c5, c6, rfl, hl1, hr1, fun hB => ?_⟩
  rw [hd] at hB
  have hb := bk_agg hB
  exact ⟨hb1 (hb _ (by simp)), hb2 (hb _ (by simp))⟩
end
end
end Go.Proofs.YtbejmdlncnkaaaaGreat
