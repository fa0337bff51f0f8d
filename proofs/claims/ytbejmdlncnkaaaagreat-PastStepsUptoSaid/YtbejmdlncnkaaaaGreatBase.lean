/-
  General words of this work, over any program: a slice that reads as a list of cells wherever in its block it begins ('World.Sl'), what appending, cutting and reading do to it, and a frame that names the blocks that may have turned ('World.Fr'). No condition.
-/
import Derived.WalkKit
import Derived.Maps.AppendAt
import Derived.Deep.AppendLies
import Derived.Lib.Hide
import Derived.Deep.Draws
namespace Go
theorem Hz {p : Prop} (h : p) : RowKit.Hid p := h
theorem sA {α : Type} (l : List α) (i : Nat) (a : α) : l.toArray.setIfInBounds i a = (l.set i a).toArray := by simp
theorem sB {α : Type} (x : α) (l : List α) (b : α) : (x :: l).set 0 b = b :: l := rfl
theorem sC {α : Type} (x : α) (l : List α) (n : Nat) (b : α) : (x :: l).set (n + 1) b = x :: l.set n b := rfl
def World.Sl (w : World) (e : TypeId) (size : Nat) (v : Value) (n : Nat) (xs : List Value) : Prop :=
  xs.length = n * size /\
  ((v = .slice none 0 0 /\ n = 0) ∨
   ∃ g off cap cur, v = .slice (some ⟨g, off, none⟩) n cap /\ w.heap[g]? = some (.cells cur e (0, 0)) /\ n <= cap /\ cap <= maxLen /\ off + cap * size <= cur.size /\ (cur.toList.drop off).take (n * size) = xs)
def Value.blk : Value -> List Nat
  | .slice (some a) _ _ => [a.block]
  | _ => []
structure World.Fr (w w' : World) (L : List Nat) : Prop where
  os : w'.os = w.os
  tape : w'.tape = w.tape
  output : w'.output = w.output
  size : w.heap.size <= w'.heap.size
  block : ∀ k, k < w.heap.size -> k ∉ L -> w'.heap[k]? = w.heap[k]?
theorem World.Fr.refl (w : World) (L : List Nat) : w.Fr w L := ⟨rfl, rfl, rfl, Nat.le_refl _, fun _ _ _ => rfl⟩
theorem World.Fr.drew {w w' : World} {L : List Nat} (h : w.Fr w' L) : w.Fr w'.drew L := ⟨h.os, h.tape, h.output, h.size, h.block⟩
theorem World.Fr.of_drewN {w w' : World} {L : List Nat} (h : w.Fr w' L) (n : Nat) : w.Fr (w'.drewN n) L := ⟨h.os, h.tape, h.output, h.size, h.block⟩
theorem World.Fr.mono {w w' : World} {L L' : List Nat} (h : w.Fr w' L) (hs : ∀ k, k ∈ L -> k ∈ L') : w.Fr w' L' :=
  ⟨h.os, h.tape, h.output, h.size, fun k hk hn => h.block k hk (fun hi => hn (hs k hi))⟩
theorem World.Fr.trans {a b c : World} {L M : List Nat} (h : a.Fr b L) (k : b.Fr c M) (hM : ∀ j, j ∈ M -> j ∈ L ∨ a.heap.size <= j) : a.Fr c L :=
  ⟨k.os.trans h.os, k.tape.trans h.tape, k.output.trans h.output, Nat.le_trans h.size k.size, fun i hi hn =>
    (k.block i (Nat.lt_of_lt_of_le hi h.size) (fun hm => (hM i hm).elim hn (fun hge => by omega))).trans (h.block i hi hn)⟩
theorem World.Fr.alloc {w w' : World} {L : List Nat} (h : w.Fr w' L) (o : Obj) : w.Fr (w'.alloc o) L :=
  h.trans (M := []) ⟨rfl, rfl, rfl, by simp, fun k hk _ => RowKit.Below.heap_alloc _ _ _ hk⟩ (by simp)
theorem World.Fr.setCell {w w' : World} {L : List Nat} (h : w.Fr w' L) {a : Addr} (ha : a.block ∈ L ∨ w.heap.size <= a.block) (v : Value) : w.Fr (w'.setCell a v) L :=
  h.trans (M := [a.block]) ⟨rfl, rfl, rfl, by simp [World.setCell], fun k hk hn => heap_setCell_other _ _ _ _ (by simpa using hn)⟩ (by simpa using ha)
theorem World.Fr.grownBy {w w1 w' : World} {L : List Nat} (h : w.Fr w1 L) {row : Option Nat} (hg : w1.grownBy w' row) (hr : ∀ k, row = some k -> k ∈ L ∨ w.heap.size <= k) : w.Fr w' L :=
  h.trans (M := row.toList) ⟨hg.os, hg.tape, hg.output, hg.size, fun k hk hn => hg.block k hk (fun e => hn (by simp [<- e]))⟩ (by
    intro j hj
    cases row with
    | none => simp at hj
    | some r => simp at hj; subst hj; exact hr _ rfl)
theorem World.Fr.below {w w' : World} {L : List Nat} {B : Nat} (h : w.Fr w' L) (hB : B <= w.heap.size) (hL : ∀ k, k ∈ L -> B <= k) : RowKit.Below B w w' :=
  ⟨h.os, h.tape, h.output, h.size, fun k hk => h.block k (by omega) (fun hi => by have := hL k hi; omega)⟩
theorem World.Fr.of_below {w w' : World} (h : RowKit.Below w.heap.size w w') (L : List Nat) : w.Fr w' L := ⟨h.os, h.tape, h.output, h.size, fun k hk _ => h.block k hk⟩
theorem World.Fr.heap {w w' : World} {L : List Nat} (h : w.Fr w' L) {k : Nat} {o : Obj} (hk : w.heap[k]? = some o) (hn : k ∉ L) : w'.heap[k]? = some o :=
  (h.block k (Array.getElem?_eq_some_iff.1 hk).1 hn).trans hk
theorem heap_alloc_some {w : World} {k : Nat} {o : Obj} (h : w.heap[k]? = some o) (o' : Obj) : (w.alloc o').heap[k]? = some o :=
  (RowKit.Below.heap_alloc w o' k (Array.getElem?_eq_some_iff.1 h).1).trans h
theorem heap_alloc_at (w : World) (o : Obj) (k : Nat) (h : k = w.heap.size) : (w.alloc o).heap[k]? = some o := by subst h; exact heap_alloc_new w o
theorem heap_set_same {w : World} {g : Nat} {cs : Array Value} {t : TypeId} (hg : w.heap[g]? = some (.cells cs t (0, 0))) (i : Nat) (v : Value) : (w.setCell ⟨g, i, none⟩ v).heap[g]? = some (.cells (cs.setIfInBounds i v) t (0, 0)) :=
  heap_setCell_same w g i cs t v hg
theorem heap_set_other {w : World} {k : Nat} {o : Obj} (h : w.heap[k]? = some o) (a : Addr) (hne : k ≠ a.block) (v : Value) : (w.setCell a v).heap[k]? = some o :=
  (heap_setCell_other w a k v hne).trans h
theorem lt_of_heap {w : World} {k : Nat} {o : Obj} (h : w.heap[k]? = some o) : k < w.heap.size := (Array.getElem?_eq_some_iff.1 h).1
section
variable {w w' : World} {e : TypeId} {size : Nat} {v : Value} {n : Nat} {xs : List Value}
theorem World.Sl.len (h : w.Sl e size v n xs) : xs.length = n * size := h.1
theorem World.Sl.nil (w : World) (e : TypeId) (size : Nat) : w.Sl e size (.slice none 0 0) 0 [] := ⟨by simp, .inl ⟨rfl, rfl⟩⟩
theorem World.Sl.lt (h : w.Sl e size v n xs) : ∀ k, k ∈ v.blk -> k < w.heap.size := by
  intro k hk
  rcases h.2 with ⟨rfl, _⟩ | ⟨g, off, cap, cur, rfl, hg, _⟩
  · simp [Value.blk] at hk
  · simp [Value.blk] at hk; subst hk; exact lt_of_heap hg
theorem World.Sl.of_heap (h : w.Sl e size v n xs) (hk : ∀ k, k ∈ v.blk -> w'.heap[k]? = w.heap[k]?) : w'.Sl e size v n xs := by
  refine ⟨h.1, ?_⟩
  rcases h.2 with hn | ⟨g, off, cap, cur, rfl, hg, rest⟩
  · exact .inl hn
  · exact .inr ⟨g, off, cap, cur, rfl, (hk g (by simp [Value.blk])).trans hg, rest⟩
theorem World.Sl.fr {L : List Nat} (h : w.Sl e size v n xs) (hf : w.Fr w' L) (hd : ∀ k, k ∈ v.blk -> k ∉ L) : w'.Sl e size v n xs :=
  h.of_heap fun k hk => hf.block k (h.lt k hk) (hd k hk)
theorem World.Sl.drew (h : w.Sl e size v n xs) : w.drew.Sl e size v n xs := h
theorem World.Sl.alloc (h : w.Sl e size v n xs) (o : Obj) : (w.alloc o).Sl e size v n xs := h.of_heap fun k hk => RowKit.Below.heap_alloc _ _ _ (h.lt k hk)
theorem World.Sl.setCell (h : w.Sl e size v n xs) {a : Addr} (ha : a.block ∉ v.blk) (u : Value) : (w.setCell a u).Sl e size v n xs :=
  h.of_heap fun _ hk => heap_setCell_other _ _ _ _ (fun e => ha (e ▸ hk))
theorem World.Sl.shape (h : w.Sl e size v n xs) : ∃ a cap, v = .slice a n cap /\ n <= cap /\ cap <= maxLen := by
  rcases h.2 with ⟨rfl, rfl⟩ | ⟨g, off, cap, cur, rfl, hg, hc, hm, _⟩
  · exact ⟨none, 0, rfl, Nat.le_refl _, by simp [maxLen]⟩
  · exact ⟨_, cap, rfl, hc, hm⟩
theorem World.Sl.form (h : w.Sl e size v n xs) (hn : 0 < n) : ∃ g off cap, v = .slice (some ⟨g, off, none⟩) n cap /\ n <= cap /\ cap <= maxLen /\ g < w.heap.size /\
    (∀ j, j < n * size -> w.cell? ⟨g, off + j, none⟩ = xs[j]?) /\ (∀ j, w.frozen? ⟨g, j, none⟩ = false) := by
  rcases h.2 with ⟨rfl, rfl⟩ | ⟨g, off, cap, cur, rfl, hg, hc, hm, hfit, htake⟩
  · omega
  · refine ⟨g, off, cap, rfl, hc, hm, lt_of_heap hg, fun j hj => ?_, fun j => frozen_of_row w g j cur e hg⟩
    rw [cell_of_row w g _ cur e (0, 0) hg, <- htake, List.getElem?_take, if_pos hj, List.getElem?_drop]
    simp
theorem World.Sl.cells (h : w.Sl e size v n xs) {g off cap : Nat} (hv : v = .slice (some ⟨g, off, none⟩) n cap) : ∀ j, j < n * size -> w.cell? ⟨g, off + j, none⟩ = xs[j]? := by
  subst hv
  intro j hj
  rcases h.2 with ⟨h0, _⟩ | ⟨g', off', cap', cur, he, hg, hc, hm, hfit, htake⟩
  · cases h0
  · cases he
    rw [cell_of_row w g _ cur e (0, 0) hg, <- htake, List.getElem?_take, if_pos hj, List.getElem?_drop]
    simp
theorem World.Sl.free {g off cap : Nat} (h : w.Sl e size (.slice (some ⟨g, off, none⟩) n cap) n xs) (j : Nat) : w.frozen? ⟨g, j, none⟩ = false := by
  rcases h.2 with ⟨h0, _⟩ | ⟨g', off', cap', cur, he, hg, _⟩
  · cases h0
  · cases he; exact frozen_of_row w g j cur e hg
theorem World.Sl.take {a : Option Addr} {cap : Nat} (h : w.Sl e size (.slice a n cap) n xs) (k : Nat) (hk : k <= n) : w.Sl e size (.slice a k cap) k (xs.take (k * size)) := by
  refine ⟨by rw [List.length_take, h.1]; exact Nat.min_eq_left (Nat.mul_le_mul_right _ hk), ?_⟩
  rcases h.2 with ⟨h0, rfl⟩ | ⟨g', off', cap', cur, he, hg, hc, hm, hfit, htake⟩
  · cases h0
    obtain rfl : k = 0 := by omega
    exact .inl ⟨rfl, rfl⟩
  · cases he
    refine .inr ⟨g', off', cap, cur, rfl, hg, by omega, hm, hfit, ?_⟩
    rw [<- htake, List.take_take, Nat.min_eq_left (Nat.mul_le_mul_right _ hk)]
theorem World.Sl.drop {g off cap : Nat} (h : w.Sl e size (.slice (some ⟨g, off, none⟩) n cap) n xs) (k : Nat) (hk : k <= n) :
    w.Sl e size (.slice (some ⟨g, off + k * size, none⟩) (n - k) (cap - k)) (n - k) (xs.drop (k * size)) := by
  refine ⟨by rw [List.length_drop, h.1, Nat.sub_mul], ?_⟩
  rcases h.2 with ⟨h0, _⟩ | ⟨g', off', cap', cur, he, hg, hc, hm, hfit, htake⟩
  · cases h0
  · cases he
    refine .inr ⟨g, off + k * size, cap - k, cur, rfl, hg, by omega, by omega, ?_, ?_⟩
    · have : k * size <= cap * size := Nat.mul_le_mul_right _ (by omega)
      rw [Nat.sub_mul]; omega
    · rw [<- htake, List.drop_take, List.drop_drop, Nat.sub_mul]
theorem World.Sl.lit (w : World) (e : TypeId) (cs : Array Value) (n : Nat) (size : Nat) (hm : n <= maxLen) (hs : cs.size = n * size) :
    (w.alloc (.cells cs e)).Sl e size (.slice (some ⟨w.heap.size, 0, none⟩) n n) n cs.toList :=
  ⟨by simpa using hs, .inr ⟨w.heap.size, 0, n, cs, rfl, heap_alloc_new w _, Nat.le_refl _, hm, by omega, by rw [<- hs]; simp [List.take_of_length_le]⟩⟩
end
section
variable {P : Program} (w : World)
theorem run_append_room_off (t ty e : TypeId) (i : TypeInfo) (ht : P.underlying t = some (.slice e)) (hi : P.info? e = some i)
    (g off sLen sCap : Nat) (cur : Array Value) (hg : w.heap[g]? = some (.cells cur e (0, 0)))
    (a : Addr) (m c : Nat) (news : List Value) (hl : news.length = m * i.size) (hnews : ∀ j u, news[j]? = some u -> w.cell? (a.add j) = some u) (h1 : ∀ u ∈ news, u.oneCell' = true)
    (hroom : sLen + m <= sCap) (hfit : off + sLen * i.size + news.length <= cur.size) :
    (Builtin.append_ #[t, t] ty #[.slice (some ⟨g, off, none⟩) sLen sCap, .slice (some a) m c]).run P w =
      .ok (.slice (some ⟨g, off, none⟩) (sLen + m) sCap) (w.setRow g (cur.toList.take (off + sLen * i.size) ++ news ++ cur.toList.drop (off + sLen * i.size + news.length)).toArray) := by
  have hf := run_firstCells_some (P := P) w i.size m a m c news hl hnews
  have hst := run_storeCells_at P g (off + sLen * i.size) e news 0 cur w hg (by simpa using hfit) h1
  simp only [Nat.add_zero] at hst
  simp [Builtin.append_, run_underlying ht, sizeOf, typeInfo, hi, Builtin.lenOf, hroom, hf, Addr.add_lit, hst]
theorem run_append_sl (t ty : TypeId) (e : TypeId) (i : TypeInfo) (z : Value) (size bytes : Nat) (ht : P.underlying t = some (.slice e)) (hi : P.info? e = some i) (hz : i.zero = some z)
    (hsize : i.size = size) (hby : i.bytes = bytes) (hzs : z.cells.size = size)
    (v : Value) (n : Nat) (xs : List Value) (hown : w.Sl e size v n xs)
    (a : Addr) (m c : Nat) (news : List Value) (hl : news.length = m * size) (hnews : ∀ j u, news[j]? = some u -> w.cell? (a.add j) = some u) (h1 : ∀ u ∈ news, u.oneCell' = true)
    (hm : 0 < m) (h63 : n + m <= maxLen) (hbytes : (n + m) * bytes <= 140737488355328) :
    ∃ g off cap w', (Builtin.append_ #[t, t] ty #[v, .slice (some a) m c]).run P w = .ok (.slice (some ⟨g, off, none⟩) (n + m) cap) w' /\
      w'.Sl e size (.slice (some ⟨g, off, none⟩) (n + m) cap) (n + m) (xs ++ news) /\ w.Fr w' v.blk /\ (g ∈ v.blk ∨ g = w.heap.size) /\ g < w'.heap.size := by
  subst hsize
  subst hby
  have hsmall : n + m <= 9223372036854775807 := by simp only [maxLen] at h63; omega
  have hlen : (xs ++ news).length = (n + m) * i.size := by rw [List.length_append, hown.1, hl, Nat.add_mul]
  have grown : ∀ (old : Nat), old < n + m -> ∀ L,
      (w.drew.alloc (.cells (xs.toArray ++ news.toArray ++ Builtin.zeroCells z.cells (grownCap w (n + m) old e - (n + m))) e)).Sl e i.size
        (.slice (some ⟨w.heap.size, 0, none⟩) (n + m) (grownCap w (n + m) old e)) (n + m) (xs ++ news) /\
      w.Fr (w.drew.alloc (.cells (xs.toArray ++ news.toArray ++ Builtin.zeroCells z.cells (grownCap w (n + m) old e - (n + m))) e)) L := by
    intro old ho L
    have hge := grownCap_ge w (n + m) old e
    have hcm : grownCap w (n + m) old e <= maxLen := grownCap_le_maxLen w (n + m) old e h63
    refine ⟨⟨hlen, .inr ⟨w.heap.size, 0, _, _, rfl, heap_alloc_new w.drew _, hge, hcm, ?_, ?_⟩⟩, ((World.Fr.refl w L).drew).alloc _⟩
    · simp only [Array.size_append, List.size_toArray, size_zeroCells, hzs, hown.1, hl, <- Nat.add_mul, Nat.zero_add]
      exact Nat.mul_le_mul_right _ (by omega)
    · simp only [Array.toList_append, List.append_assoc, List.drop_zero]
      rw [<- List.append_assoc, <- hlen]
      exact List.take_left
  have hszl : ∀ W' : World, w.heap.size < W'.heap.size -> w.heap.size < W'.heap.size := fun _ h => h
  rcases hown.2 with ⟨rfl, rfl⟩ | ⟨g, off, cap, cur, rfl, hg, hnc, hcm, hcs, htake⟩
  · have hx : xs = [] := List.eq_nil_of_length_eq_zero (by simpa using hown.1)
    subst hx
    have hr := run_append_nil (P := P) w t ty e i z ht hi hz a m c news hl hnews (by omega) (by omega) (by have hb := hbytes; simp only [Nat.zero_add] at hb; omega)
    have hgr := grown 0 (by omega) (Value.blk (.slice none 0 0))
    simp only [Nat.zero_add, List.nil_append, Array.empty_append] at hgr ⊢
    exact ⟨_, _, _, _, hr, hgr.1, hgr.2, .inr rfl, by simp⟩
  · by_cases hroom : n + m <= cap
    · have hle : (n + m) * i.size <= cap * i.size := Nat.mul_le_mul_right _ hroom
      have hfit : off + n * i.size + news.length <= cur.size := by rw [hl]; rw [Nat.add_mul] at hle; omega
      have hr := run_append_room_off (P := P) w t ty e i ht hi g off n cap cur hg a m c news hl hnews h1 hroom hfit
      refine ⟨_, _, _, _, hr, ⟨hlen, .inr ⟨g, off, cap, _, rfl, setRow_heap w g cur _ e _ hg, hroom, hcm, ?_, ?_⟩⟩, ?_, .inl (by simp [Value.blk]), ?_⟩
      · simp only [List.size_toArray, List.length_append, List.length_take, List.length_drop, Array.length_toList]
        omega
      · have hnl : n * i.size <= cap * i.size := Nat.mul_le_mul_right _ hnc
        have hsz : cur.toList.length = cur.size := by simp
        rw [List.append_assoc, List.drop_append_of_le_length (by rw [List.length_take]; omega), List.drop_take, <- List.append_assoc]
        have e1 : off + n * i.size - off = n * i.size := by omega
        rw [e1, htake, <- hlen]
        exact List.take_left
      · exact ⟨rfl, rfl, rfl, by simp, fun k _ hk => setRow_other w g k _ (fun e => hk (by simp [Value.blk, e]))⟩
      · simpa using lt_of_heap hg
    · have holds : ∀ j u, xs[j]? = some u -> w.cell? ((⟨g, off, none⟩ : Addr).add j) = some u := by
        intro j u hu
        have hj : j < n * i.size := by
          have := (List.getElem?_eq_some_iff.1 hu).1
          rw [hown.1] at this; exact this
        have hadd : (⟨g, off, none⟩ : Addr).add j = ⟨g, off + j, none⟩ := by unfold Addr.add; split <;> simp_all
        rw [hadd, hown.cells rfl j hj, hu]
      have hr := run_append_grow (P := P) w t ty e i z ht hi hz ⟨g, off, none⟩ n cap xs hown.1 holds a m c news hl hnews (by omega) (by omega) (growslice_fits (by omega) hbytes)
      have hgr := grown cap (by omega) (Value.blk (.slice (some ⟨g, off, none⟩) n cap))
      exact ⟨_, _, _, _, hr, hgr.1, hgr.2, .inr rfl, by simp⟩
theorem wp_append_sl {o : Oper} {a : Act} {K : Act -> World -> Prop} {Q : Exit -> Act -> World -> Prop} (s x : Operand) (t : TypeId)
    (ho : o.op = .call { callee := .builtin .append, args := #[s, x], argTypes := #[t, t] })
    (e : TypeId) (i : TypeInfo) (z : Value) (size bytes : Nat) (ht : P.underlying t = some (.slice e)) (hi : P.info? e = some i) (hz : i.zero = some z)
    (hsize : i.size = size) (hby : i.bytes = bytes) (hzs : z.cells.size = size)
    (v : Value) (n : Nat) (xs : List Value) (hs : a.eval s = v) (hown : w.Sl e size v n xs)
    (ad : Addr) (m c : Nat) (news : List Value) (hx : a.eval x = .slice (some ad) m c) (hl : news.length = m * size) (hnews : ∀ j u, news[j]? = some u -> w.cell? (ad.add j) = some u) (h1 : ∀ u ∈ news, u.oneCell' = true)
    (hm : 0 < m) (h63 : n + m <= maxLen) (hbytes : (n + m) * bytes <= 140737488355328)
    (h : ∀ g off cap w', w'.Sl e size (.slice (some ⟨g, off, none⟩) (n + m) cap) (n + m) (xs ++ news) -> w.Fr w' v.blk -> (g ∈ v.blk ∨ g = w.heap.size) -> g < w'.heap.size -> K (a.put o.dst (.slice (some ⟨g, off, none⟩) (n + m) cap)) w') : o.wp P a w K Q := by
  obtain ⟨g, off, cap, w', hr, h2, h3, h4, h5⟩ := run_append_sl (P := P) w t o.type e i z size bytes ht hi hz hsize hby hzs v n xs hown ad m c news hl hnews h1 hm h63 hbytes
  unfold Oper.wp execOp
  simp only [ho, resolve, invoke, builtin, Sem.run_bind, Sem.run_pure, Result.andThen_ok, List.map_toArray, List.map_cons, List.map_nil, hs, hx, hr]
  exact h g off cap w' h2 h3 h4 h5
theorem wpList_append_sl {ops : Array Oper} {rest : List Oper} {o : Oper} {a : Act} {Q : Exit -> Act -> World -> Prop} (hgd : o.guard = none) (s x : Operand) (t : TypeId)
    (ho : o.op = .call { callee := .builtin .append, args := #[s, x], argTypes := #[t, t] })
    (e : TypeId) (i : TypeInfo) (z : Value) (size bytes : Nat) (ht : P.underlying t = some (.slice e)) (hi : P.info? e = some i) (hz : i.zero = some z)
    (hsize : i.size = size) (hby : i.bytes = bytes) (hzs : z.cells.size = size)
    (v : Value) (n : Nat) (xs : List Value) (hs : a.eval s = v) (hown : w.Sl e size v n xs)
    (ad : Addr) (m c : Nat) (news : List Value) (hx : a.eval x = .slice (some ad) m c) (hl : news.length = m * size) (hnews : ∀ j u, news[j]? = some u -> w.cell? (ad.add j) = some u) (h1 : ∀ u ∈ news, u.oneCell' = true)
    (hm : 0 < m) (h63 : n + m <= maxLen) (hbytes : (n + m) * bytes <= 140737488355328)
    (h : ∀ g off cap w', w'.Sl e size (.slice (some ⟨g, off, none⟩) (n + m) cap) (n + m) (xs ++ news) -> w.Fr w' v.blk -> (g ∈ v.blk ∨ g = w.heap.size) -> g < w'.heap.size -> wpList P ops Q rest (a.put o.dst (.slice (some ⟨g, off, none⟩) (n + m) cap)) w') : wpList P ops Q (o :: rest) a w :=
  wpList_plain hgd fun _ hK => wp_append_sl w s x t ho e i z size bytes ht hi hz hsize hby hzs v n xs hs hown ad m c news hx hl hnews h1 hm h63 hbytes fun g off cap w' h2 h3 h4 h5 => hK _ _ (h g off cap w' h2 h3 h4 h5)
theorem wpList_append_one {ops : Array Oper} {rest : List Oper} {o : Oper} {a : Act} {Q : Exit -> Act -> World -> Prop} (hgd : o.guard = none) (s x : Operand) (t : TypeId)
    (ho : o.op = .call { callee := .builtin .append, args := #[s, x], argTypes := #[t, t] })
    (e : TypeId) (i : TypeInfo) (z : Value) (size bytes : Nat) (ht : P.underlying t = some (.slice e)) (hi : P.info? e = some i) (hz : i.zero = some z)
    (hsize : i.size = size) (hby : i.bytes = bytes) (hzs : z.cells.size = size)
    (v : Value) (n : Nat) (xs : List Value) (hs : a.eval s = v) (hown : w.Sl e size v n xs)
    (B c : Nat) (news : List Value) (e' : TypeId) (hx : a.eval x = .slice (some ⟨B, 0, none⟩) 1 c) (hB : w.heap[B]? = some (.cells news.toArray e' (0, 0))) (hl : news.length = size) (h1 : news.all Value.oneCell' = true)
    (hroom : (n + 1) * bytes <= 140737488355328 /\ n + 1 <= 9223372036854775807)
    (h : ∀ g off cap w', w'.Sl e size (.slice (some ⟨g, off, none⟩) (n + 1) cap) (n + 1) (xs ++ news) -> w.Fr w' v.blk -> (g ∈ v.blk ∨ g = w.heap.size) -> g < w'.heap.size -> wpList P ops Q rest (a.put o.dst (.slice (some ⟨g, off, none⟩) (n + 1) cap)) w') : wpList P ops Q (o :: rest) a w :=
  wpList_append_sl w hgd s x t ho e i z size bytes ht hi hz hsize hby hzs v n xs hs hown ⟨B, 0, none⟩ 1 c news hx (by omega)
    (fun j u hu => World.news_of_block hB j u (by simpa using hu)) (fun u hu => List.all_eq_true.1 h1 u hu) Nat.zero_lt_one (by unfold maxLen; exact hroom.2) hroom.1 h
theorem step_append_one {ops : Array Oper} {o : Oper} {a : Act} {K : Act -> World -> Prop} {Q : Exit -> Act -> World -> Prop} {E : Prop} (hgd : o.guard = none) (s x : Operand) (t : TypeId)
    (ho : o.op = .call { callee := .builtin .append, args := #[s, x], argTypes := #[t, t] })
    (e : TypeId) (i : TypeInfo) (z : Value) (size bytes : Nat) (ht : P.underlying t = some (.slice e)) (hi : P.info? e = some i) (hz : i.zero = some z)
    (hsize : i.size = size) (hby : i.bytes = bytes) (hzs : z.cells.size = size)
    (v : Value) (n : Nat) (xs : List Value) (hs : a.eval s = v) (hown : w.Sl e size v n xs)
    (B c : Nat) (news : List Value) (e' : TypeId) (hx : a.eval x = .slice (some ⟨B, 0, none⟩) 1 c) (hB : w.heap[B]? = some (.cells news.toArray e' (0, 0))) (hl : news.length = size) (h1 : news.all Value.oneCell' = true)
    (hroom : (n + 1) * bytes <= 140737488355328 /\ n + 1 <= 9223372036854775807)
    (h : ∀ g off cap w', w'.Sl e size (.slice (some ⟨g, off, none⟩) (n + 1) cap) (n + 1) (xs ++ news) -> w.Fr w' v.blk -> (g ∈ v.blk ∨ g = w.heap.size) -> g < w'.heap.size -> K (a.put o.dst (.slice (some ⟨g, off, none⟩) (n + 1) cap)) w') :
    if Region.wanted o (yielded ops a.tmps) = true then Oper.wp P o a w K Q else E := by
  have hw : Region.wanted o (yielded ops a.tmps) = true := by simp [Region.wanted, hgd]
  rw [if_pos hw]
  exact wp_append_sl w s x t ho e i z size bytes ht hi hz hsize hby hzs v n xs hs hown ⟨B, 0, none⟩ 1 c news hx (by omega)
    (fun j u hu => World.news_of_block hB j u (by simpa using hu)) (fun u hu => List.all_eq_true.1 h1 u hu) Nat.zero_lt_one (by unfold maxLen; exact hroom.2) hroom.1 h
end
end Go
