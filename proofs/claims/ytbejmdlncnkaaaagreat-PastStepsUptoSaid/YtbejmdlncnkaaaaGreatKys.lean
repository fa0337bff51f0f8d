/-
  The walks of slices.Index, Contains of numbers, table.columns. The walk of table.Project. The walk of table.key. A map of the call's own from texts to slices, as a function. The walk of table.lookup. The walk of table.Drop.
-/
import Derived.Test.YtbejmdlncnkaaaaGreatMad
import Derived.Lib.AppendStr
import Derived.Laws.BytesString
import Derived.Laws.IdiomStrings
import Derived.Maps.Own
import Derived.Maps.Views
import Derived.Maps.OwnOps
import Derived.Carry
set_option maxRecDepth 100000
set_option maxHeartbeats 16000000
set_option linter.unusedSimpArgs false
namespace Go.Proofs.YtbejmdlncnkaaaaGreat
section
open Go.RowKit
abbrev icells (l : List Int) : List Value := l.map (Value.int .i64)
structure RowsR (W w : World) (vb : Value) (hs : List Value) (rows : List Row) : Prop where
 sl : w.Sl 81 1 vb hs.length hs
 len : hs.length = rows.length
 new : ∀ k, k ∈ vb.blk -> W.heap.size <= k
 row : ∀ (i : Nat) (hv : Value) (r : Row), hs[i]? = some hv -> rows[i]? = some r -> RdRow w hv r /\ ∀ k, k ∈ hv.rblk -> k ∉ vb.blk
 fr : W.Fr w []
theorem RowsR.nil (w : World) : RowsR w w (.slice none 0 0) [] [] := ⟨World.Sl.nil _ _ _, rfl, by simp [Value.blk], by simp, World.Fr.refl _ _⟩
theorem RowsR.still {W w w1 : World} {vb : Value} {hs : List Value} {rows : List Row} (h : RowsR W w vb hs rows) (hf : w.Fr w1 []) : RowsR W w1 vb hs rows :=
 ⟨h.sl.fr hf (by simp), h.len, h.new, fun i hv r a b => ⟨(h.row i hv r a b).1.fr hf (by simp), (h.row i hv r a b).2⟩, h.fr.trans hf (by simp)⟩
theorem RowsR.push {W w w1 w2 : World} {vb v : Value} {g off c : Nat} {hs : List Value} {rows : List Row} {r : Row} (h : RowsR W w vb hs rows) (hf0 : w.Fr w1 []) (hr : RdRow w1 v r) (hoff : ∀ k, k ∈ v.rblk -> k ∉ vb.blk)
  (hs2 : w2.Sl 81 1 (.slice (some ⟨g, off, none⟩) (hs.length + 1) c) (hs.length + 1) (hs ++ [v])) (hf : w1.Fr w2 vb.blk) (hg : g ∈ vb.blk ∨ w1.heap.size <= g) :
  RowsR W w2 (.slice (some ⟨g, off, none⟩) (hs.length + 1) c) (hs ++ [v]) (rows ++ [r]) := by
 have key : ∀ (hv : Value) (x : Row), RdRow w1 hv x -> (∀ k, k ∈ hv.rblk -> k ∉ vb.blk) -> RdRow w2 hv x /\ ∀ k, k ∈ hv.rblk -> k ∉ (Value.slice (some ⟨g, off, none⟩) (hs.length + 1) c).blk := fun hv x h1 h2 => by
  refine ⟨h1.fr hf h2, fun k hk hk2 => ?_⟩
  simp [Value.blk] at hk2
  subst hk2
  rcases hg with h3 | h3
  ·exact h2 k hk h3
  ·have := h1.rd.lt k hk; omega
 refine ⟨by simpa using hs2, by simp [h.len], fun k hk => ?_, fun i hv x h1 h2 => ?_, (h.fr.trans hf0 (by simp)).trans hf (fun k hk => .inr (h.new k hk))⟩
 ·simp [Value.blk] at hk
  subst hk
  rcases hg with h1 | h1
  ·exact h.new _ h1
  ·have := h.fr.size; have := hf0.size; omega
 ·rcases Nat.lt_or_ge i hs.length with hi | hi
  ·rw [List.getElem?_append_left hi] at h1
   rw [List.getElem?_append_left (by rw [<- h.len]; exact hi)] at h2
   obtain ⟨b1, b2⟩ := h.row i hv x h1 h2
   exact key hv x (b1.fr hf0 (by simp)) b2
  ·rw [List.getElem?_append_right hi] at h1
   rw [List.getElem?_append_right (by rw [<- h.len]; exact hi)] at h2
   have hi0 : i - hs.length = 0 := by
    have := (List.getElem?_eq_some_iff.1 h1).1
    simp at this; omega
   rw [hi0] at h1
   rw [<- h.len, hi0] at h2
   simp at h1 h2
   subst h1 h2
   exact key _ _ hr hoff
theorem RowsR.rd {W w : World} {vb : Value} {hs : List Value} {rows : List Row} (h : RowsR W w vb hs rows) : RdRows w vb rows hs := ⟨h.sl.rd, h.len, fun i hv r a b => (h.row i hv r a b).1⟩
theorem OwnRow.rd {w w' : World} {v : Value} {r : Row} (h : OwnRow w w' v r) (hw : ∀ x, x ∈ r -> x.wf) : RdRow w' v r := ⟨h.sl.rd, hw⟩
end
section
open Go.RowKit
theorem rowsCheck_zero {cf : V -> V -> Int} {n : Nat} : ∀ (rs : List Row) (p : Option Row), rowsCheck cf n p rs = 0 -> (∀ r, r ∈ rs -> rowCheck n r = 0) /\ (∀ q r, p = some q -> rs.head? = some r -> rcmp cf q r < 0) /\ ∀ (i : Nat) (a b : Row), rs[i]? = some a -> rs[i + 1]? = some b -> rcmp cf a b < 0
 | [], _, _ => by simp
 | r :: rs, p, h => by
  have h0 : rowCheck n r = 0 := by
   by_cases hr : rowCheck n r = 0
   ·exact hr
   ·simp only [rowsCheck, hr, if_false] at h
  simp only [rowsCheck, h0, if_true] at h
  have hup : (∀ q, p = some q -> rcmp cf q r < 0) /\ rowsCheck cf n (some r) rs = 0 := by
   cases p with
   | none => simp only [Bool.false_eq_true, if_false] at h; exact ⟨by simp, h⟩
   | some q =>
    by_cases hq : 0 <= rcmp cf q r
    ·simp [hq] at h
    ·simp [hq] at h
     exact ⟨fun q' e => by cases e; omega, h⟩
  obtain ⟨a1, a2, a3⟩ := rowsCheck_zero rs (some r) hup.2
  refine ⟨fun x hx => ?_, fun q x hq hx => ?_, fun i a b ha hb => ?_⟩
  ·rcases List.mem_cons.1 hx with rfl | hx
   ·exact h0
   ·exact a1 x hx
  ·subst hq
   simp at hx
   subst hx
   exact hup.1 q rfl
  ·cases i with
   | zero =>
    simp at ha
    subst ha
    exact a2 r b rfl (by rw [List.head?_eq_getElem?]; simpa using hb)
   | succ i => exact a3 i a b (by simpa using ha) (by simpa using hb)
theorem tcheck_zero {cf : V -> V -> Int} {t : Tb} (h : tcheck cf t = 0) : t.vars.length <= 8 /\ (t.vars.Pairwise fun a b => ltS a b = true) /\ (∀ r, r ∈ t.rows -> r.length = t.vars.length /\ ∀ x, x ∈ r -> vcheck x = 0) /\ ∀ (i : Nat) (a b : Row), t.rows[i]? = some a -> t.rows[i + 1]? = some b -> rcmp cf a b < 0 := by
 unfold tcheck at h
 split at h
 ·cases h
 ·rename_i h8
  split at h
  ·rename_i hr
   obtain ⟨a1, _, a3⟩ := rowsCheck_zero _ _ h
   refine ⟨by omega, pair_of_rises _ (by unfold risesB at hr; simpa using hr), fun r hr => rowCheck_zero (a1 r hr), a3⟩
  ·cases h
theorem nodup_le' {α : Type} [DecidableEq α] : ∀ (l m : List α), l.Nodup -> (∀ x, x ∈ l -> x ∈ m) -> l.length <= m.length
 | [], _, _, _ => Nat.zero_le _
 | a :: t, m, hn, hs => by
  obtain ⟨h1, h2⟩ := List.nodup_cons.1 hn
  have ha := hs a (by simp)
  have ih := nodup_le' t (m.erase a) h2 (fun x hx => (List.mem_erase_of_ne (fun e => h1 (by rw [<- e]; exact hx))).2 (hs x (by simp [hx])))
  have := List.length_erase_of_mem ha
  have := List.length_pos_of_mem ha
  simp only [List.length_cons]
  omega
theorem nodup_le (l m : List BA) (h1 : l.Nodup) (h2 : ∀ x, x ∈ l -> x ∈ m) : l.length <= m.length := by classical exact nodup_le' l m h1 h2
theorem pair_all {okv : V -> Prop} {cf : V -> V -> Int} (hO : OrdOk okv cf) : ∀ (rs : List Row), (∀ r, r ∈ rs -> ∀ x, x ∈ r -> okv x) -> (∀ (i : Nat) (a b : Row), rs[i]? = some a -> rs[i + 1]? = some b -> rcmp cf a b < 0) -> rs.Pairwise (rlt cf)
 | [], _, _ => List.Pairwise.nil
 | [a], _, _ => by simp
 | a :: b :: t, ho, h => by
  have ih := pair_all hO (b :: t) (fun r hr => ho r (by simp only [List.mem_cons] at hr ⊢; exact .inr hr)) (fun i x y hx hy => h (i + 1) x y (by simpa using hx) (by simpa using hy))
  have h0 := h 0 a b rfl rfl
  refine List.pairwise_cons.2 ⟨fun c hc => ?_, ih⟩
  rcases List.mem_cons.1 hc with rfl | hc
  ·exact h0
  ·exact rcmp_trans hO a b c (ho a (by simp)) (ho b (by simp)) (ho c (by simp [hc])) h0 ((List.pairwise_cons.1 ih).1 c hc)
abbrev tNone : Tb := ⟨[], []⟩
structure Fits (okc : V -> Prop) (t : Tb) : Prop where
 small : Small t
 rows : t.rows.length <= 5864062014634
 ok : TabOf okc t
end
section
open Go.RowKit
def byt (x : Int) : UInt8 := UInt8.ofNat (x % 256).toNat
theorem byt_cell (x : Int) : Value.int .u8 (x % 256) = Value.int .u8 ((byt x).toNat : Int) := by
 congr 1
 have h1 := Int.emod_nonneg x (show (256 : Int) ≠ 0 by decide)
 have h2 := Int.emod_lt_of_pos x (show (0 : Int) < 256 by decide)
 have : (byt x).toNat = (x % 256).toNat := by
  unfold byt
  rw [UInt8.toNat_ofNat']
  exact Nat.mod_eq_of_lt (by omega)
 rw [this]; omega
def keyN (n d : Int) (j : Nat) : List UInt8 := [byt (n / 2 ^ (8 * j)), byt (d / 2 ^ (8 * j))]
def keyV (v : V) : List UInt8 := byt v.k :: ((List.range 8).flatMap (keyN v.n v.d) ++ byt v.s.size :: v.s.data.toList)
def keyL (r : Row) (ps : List Nat) : List UInt8 := ps.flatMap fun p => keyV (r.getD p default)
def keyS (r : Row) (ps : List Nat) : BA := ⟨(keyL r ps).toArray⟩
abbrev bcells (l : List UInt8) : List Value := l.map fun b => Value.int .u8 (b.toNat : Int)
structure KB (w wr : World) (v : Value) (bs : List UInt8) : Prop where
 own : wr.ownsRow w.heap.size 5 1 v bs.length (bcells bs)
 fr : w.Fr wr []
theorem KB.nil (w : World) : KB w w (.slice none 0 0) [] := ⟨World.ownsRow_nil _ _ _ _, World.Fr.refl w []⟩
theorem KB.shape {w wr : World} {v : Value} {bs : List UInt8} (h : KB w wr v bs) : ∃ a c, v = .slice a bs.length c := by
 rcases h.own.2 with ⟨rfl, h0⟩ | ⟨g, cap, cur, rfl, _⟩
 ·exact ⟨none, 0, by rw [h0]⟩
 ·exact ⟨_, cap, rfl⟩
theorem KB.still {w w1 w2 : World} {v : Value} {bs : List UInt8} (h : KB w w1 v bs) (hf : w1.Fr w2 []) : KB w w2 v bs :=
 ⟨h.own.kept (row := none) ⟨hf.os, hf.tape, hf.output, hf.size, fun k hk _ => hf.block k hk (by simp)⟩ (by cases v.ownBlock <;> simp), h.fr.trans hf (by simp)⟩
theorem KB.more {w w1 w2 : World} {v v' : Value} {bs cs : List UInt8} {n : Nat} {xs : List Value} (h : KB w w1 v bs) (h2 : w2.ownsRow w.heap.size 5 1 v' n xs) (hn : n = (bs ++ cs).length) (hx : xs = bcells (bs ++ cs)) (hg : w1.grownBy w2 v.ownBlock) : KB w w2 v' (bs ++ cs) := by
 subst hn hx
 refine ⟨h2, h.fr.grownBy hg fun k hk => .inr (h.own.lt k hk).1⟩
theorem infoB : (Tryz.prog.info? 5).map (fun i => (i.zero, i.size, i.bytes)) = some (some (.int .u8 0), 1, 1) := by kernel_rfl
theorem KB.conv {w wr : World} {v : Value} {bs : List UInt8} (h : KB w wr v bs) : (convert 198 9 v).run Tryz.prog wr = .ok (.string ⟨bs.toArray⟩) wr := by
 rcases h.own.2 with ⟨rfl, h0⟩ | ⟨g, cap, cur, rfl, _⟩
 ·have : bs = [] := List.eq_nil_of_length_eq_zero h0
  subst this
  rw [run_convert_bytes_string wr 198 9 5 none 0 0 Tryz.underlying198 Tryz.underlying5 Tryz.underlying9]
  simp [Conv.bytesToString, Sem.run_pure]
  rfl
 ·exact run_convert_bytes_back wr 198 9 5 ⟨g, 0, none⟩ cap bs Tryz.underlying198 Tryz.underlying5 Tryz.underlying9 fun j hj => h.own.cells rfl j _ (by simp [bcells, List.getElem?_eq_getElem hj])
theorem own_box {w : World} {base : Nat} {e : TypeId} {s n : Nat} {v : Value} {xs : List Value} {b : Nat} {cs : Array Value} {t : TypeId} (h : w.ownsRow base e s v n xs) (hb : w.heap[b]? = some (.cells cs t (0, 0))) (hne : e ≠ t) : some b ≠ v.ownBlock := by
 intro he
 rcases h.2 with ⟨rfl, _⟩ | ⟨g, cap, cur, rfl, _, hg, _⟩
 ·cases he
 simp only [Value.ownBlock, Option.some.injEq] at he
 subst he
 rw [hg] at hb
 injection hb with hb
 injection hb with _ he
 exact hne he
theorem byt_wrap (x : Int) : Value.int .u8 (IntKind.u8.wrap x) = Value.int .u8 ((byt x).toNat : Int) := by
 rw [<- byt_cell, IntKind.wrap_u8']
theorem keyN_cells (n d : Int) (k : Nat) : [Value.int .u8 (IntKind.u8.wrap (n / 2 ^ (8 * (k : Int)).toNat)), .int .u8 (IntKind.u8.wrap (d / 2 ^ (8 * (k : Int)).toNat))] = bcells (keyN n d k) := by
 have h : (8 * (k : Int)).toNat = 8 * k := by omega
 rw [h]
 simp only [bcells, keyN, List.map_cons, List.map_nil, byt_wrap]
theorem keyN_len (n d : Int) (k : Nat) : ((List.range k).flatMap (keyN n d)).length = 2 * k := by
 induction k with
 | zero => rfl
 | succ k ih => rw [List.range_succ, List.flatMap_append, List.length_append, ih]; simp [keyN]; omega
theorem keyV_len (v : V) : (keyV v).length = 18 + v.s.size := by
 have : v.s.data.toList.length = v.s.size := by rw [Array.length_toList]; rfl
 unfold keyV
 rw [List.length_cons, List.length_append, keyN_len, List.length_cons, this]
 omega
theorem keyL_len {r : Row} (hs : ∀ x, x ∈ r -> x.s.size <= 64) : ∀ ps : List Nat, (∀ p, p ∈ ps -> p < r.length) -> (keyL r ps).length <= 83 * ps.length
 | [], _ => Nat.le_refl _
 | p :: ps, h => by
  have h1 := keyL_len hs ps (fun q hq => h q (by simp [hq]))
  have h2 := hs (r.getD p default) (by
   have := h p (by simp)
   rw [List.getD_eq_getElem?_getD, List.getElem?_eq_getElem this]
   simp)
  have h3 := keyV_len (r.getD p default)
  have e : keyL r (p :: ps) = keyV (r.getD p default) ++ keyL r ps := rfl
  rw [e, List.length_append, List.length_cons]
  omega
theorem step_append_own {P : Program} (w : World) {ops : Array Oper} {o : Oper} {a : Act} {K : Act -> World -> Prop} {Q : Exit -> Act -> World -> Prop} {E : Prop} (hgd : o.guard = none) (s x : Operand) (t : TypeId)
  (ho : o.op = .call { callee := .builtin .append, args := #[s, x], argTypes := #[t, t] })
  (base : Nat) (e : TypeId) (i : TypeInfo) (z : Value) (size bytes : Nat) (ht : P.underlying t = some (.slice e)) (hi : P.info? e = some i) (hz : i.zero = some z)
  (hsize : i.size = size) (hby : i.bytes = bytes) (hzs : z.cells.size = size) (hsz : 0 < size)
  (v : Value) (n : Nat) (xs : List Value) (hs : a.eval s = v) (hown : w.ownsRow base e size v n xs)
  (B m c : Nat) (news : List Value) (e' : TypeId) (hx : a.eval x = .slice (some ⟨B, 0, none⟩) m c) (hB : w.heap[B]? = some (.cells news.toArray e' (0, 0))) (hl : news.length = m * size) (h1 : news.all Value.oneCell' = true)
  (hroom : (n + m) * bytes <= 140737488355328 /\ n + m <= 9223372036854775807) (hbase : base <= w.heap.size)
  (h : ∀ v' w', w'.ownsRow base e size v' (n + m) (xs ++ news) -> w.grownBy w' v.ownBlock -> K (a.put o.dst v') w') :
  if Region.wanted o (yielded ops a.tmps) = true then Oper.wp P o a w K Q else E := by
 have hw : Region.wanted o (yielded ops a.tmps) = true := by simp [Region.wanted, hgd]
 rw [if_pos hw]
 exact wp_append_own w s x t ho base e i z size bytes ht hi hz hsize hby hzs hsz v n xs hs hown ⟨B, 0, none⟩ m c news hx hl (fun j u hu => World.news_of_block hB j u (by simpa using hu)) (fun u hu => List.all_eq_true.1 h1 u hu) (by unfold maxLen; exact hroom.2) hroom.1 hbase (fun v' w' h2 h3 _ => h v' w' h2 h3)
theorem key71 {w : World} {v1 v2 : Value} {r : Row} (ps : List Nat) (h1 : RdRow w v1 r) (h2 : w.Sl 3 1 v2 ps.length (ps.map fun p : Nat => Value.int .i64 (p : Int))) (hb : ∀ p, p ∈ ps -> p < r.length) (hl : ps.length <= 8) (hr : r.length <= 8) (hs : ∀ x, x ∈ r -> x.s.size <= 64) :
  Calls Tryz.prog 120 #[v1, v2] w fun e w' => e = .returned (.string (keyS r ps)) /\ w.Fr w' [] := by
 obtain ⟨a1, c1, rfl, _, _⟩ := h1.rd.shape
 obtain ⟨a2, c2, rfl, _, _⟩ := h2.shape
 have H1 := Hz h1; have H2 := Hz h2; have Hb := Hz hb; have Hl := Hz hl; have Hr := Hz hr; have Hs := Hz hs; clear h1 h2 hb hl hr hs
 obtain ⟨iv, hiv, hv0, hv1, hv2⟩ := info_parts infoB
 go_enter Tryz.func120, Tryz.ntmps120
 go_wp2
 go_loopw [12, 5] (fun i v wr => ∃ j : Nat, i = .int .i64 j /\ j <= ps.length /\ Hid (KB w wr v (keyL r (ps.take j)))) (fun i _ _ => (ps.length - intOf i).toNat)
 case atStart => exact ⟨0, rfl, Nat.zero_le _, Hz (KB.nil w)⟩
 case round =>
  obtain ⟨j, rfl, hj, HK⟩ := hrel
  obtain ⟨ka, kc, hkv⟩ := HK.out.shape
  subst hkv
  have hbl : (keyL r (ps.take j)).length <= 83 * j := by
   have := keyL_len Hs.out (ps.take j) (fun p hp => Hb.out p (List.mem_of_mem_take hp))
   have e : (ps.take j).length = j := by simp; omega
   rw [e] at this; exact this
  by_cases hlt : j < ps.length
  ·obtain ⟨p, hp⟩ : ∃ p, ps[j]? = some p := ⟨ps[j], List.getElem?_eq_getElem hlt⟩
   have hpr := Hb.out p (List.mem_of_getElem? hp)
   obtain ⟨x, hx⟩ : ∃ x, r[p]? = some x := ⟨r[p], List.getElem?_eq_getElem hpr⟩
   obtain ⟨g, off, c, hv, hg, kx0, kx1, kx2, kx3⟩ := (H1.out.fr HK.out.fr (by simp)).at hx
   cases hv
   obtain ⟨g4, off4, c4, hv4, _, _, hg4, kcs, kfz⟩ := (H2.out.fr HK.out.fr (by simp)).form (by omega)
   have ko := kcs j (by omega)
   clear kcs kfz
   cases hv4
   rw [List.getElem?_map, hp] at ko
   simp only [Option.map_some] at ko
   have hsn : keyL r (ps.take (j + 1)) = keyL r (ps.take j) ++ keyV x := by
    rw [List.take_succ_eq_append_getElem hlt, (List.getElem?_eq_some_iff.1 hp).2]
    have : r.getD p default = x := by rw [List.getD_eq_getElem?_getD, hx]; rfl
    simp only [keyL, List.flatMap_append, List.flatMap_cons, List.flatMap_nil, List.append_nil, this]
   have hxs := Hs.out x (List.mem_of_getElem? hx)
   have hjI : (j : Int) < (ps.length : Int) := by omega
   have hpI : (p : Int) < (r.length : Int) := by omega
   have hw1 : IntKind.i64.wrap ((j : Int) + 1) = (j : Int) + 1 := IntWalk.i64_in _ (by have := Hl.out; omega)
   have hj8 : j < 8 := by have := Hl.out; omega
   have Hsn := Hz hsn; have Hxs := Hz hxs
   clear hsn hxs hx hp
   generalize keyL r (ps.take j) = bs at *
   obtain ⟨xk, xn, xd, xs⟩ := x
   simp only at kx0 kx1 kx2 kx3
   have hgl : g < wr.heap.size + 1 := by omega
   go_upto_region 6 with (fail)
   generalize hW5 : World.alloc wr _ = W5
   have q1 : W5.heap[wr.heap.size]? = some (.cells #[.int .i64 xk, .int .i64 xn, .int .i64 xd, .string xs] 83 (0, 0)) := by rw [<- hW5]; exact heap_alloc_at _ _ _ rfl
   have q2 : wr.Fr W5 [] := by rw [<- hW5]; exact (World.Fr.refl _ _).alloc _
   clear hW5 kx0 kx1 kx2 kx3 ko
   have hk := HK.out.still q2
   obtain ⟨p0, p1, p2, p3, pf⟩ := four q1
   have hb8 := lt_of_heap q1
   have hk2 := hk.own.alloc (.cells #[.int .u8 (xk % 256)] 5)
   have hbase : w.heap.size <= W5.heap.size := hk.fr.size
   have Hk := Hz hk; have Hk2 := Hz hk2; have Q1 := Hz q1; have Hbase := Hz hbase
   clear hk hk2 q1 q2 hbase
   have hbl2 : bs.length <= 664 := by omega
   go_wp2_with (at_builtin; refine wpList_append_own _ rfl (.tmp 20) (.tmp 24) 198 rfl w.heap.size 5 iv (.int .u8 0) 1 1 Tryz.underlying198 hiv hv0 hv1 hv2 rfl (by decide) (.slice ka bs.length kc) bs.length (bcells bs) rfl Hk2.out ⟨W5.heap.size, 0, none⟩ 1 1 [.int .u8 (xk % 256)] rfl rfl (fun j u hu => World.news_of_block (heap_alloc_at _ _ _ rfl) j u (by simpa using hu)) (by simp [Value.oneCell']) (by unfold maxLen; omega) (by omega) (by have := Hbase.out; simp; omega) ?_)
   intro v' w5 h5 hg5 _
   have hkb := (Hk.out.still ((World.Fr.refl W5 []).alloc (.cells #[.int .u8 (xk % 256)] 5))).more (cs := [byt xk]) h5 (by simp) (by simp [bcells, byt_cell]) hg5
   have q5 : w5.heap[wr.heap.size]? = some (.cells #[.int .i64 xk, .int .i64 xn, .int .i64 xd, .string xs] 83 (0, 0)) := by
    rw [hg5.block _ (by have := lt_of_heap Q1.out; simp; omega) (own_box (Hk2.out) (heap_alloc_some Q1.out _) (by decide))]
    exact heap_alloc_some Q1.out _
   obtain ⟨na, nc, hnv⟩ := hkb.shape
   subst hnv
   generalize hL0 : (bs ++ [byt xk]).length = L0 at hkb ⊢
   have HL0 := Hz hL0; clear hL0
   have HKb := Hz hkb; have Q5 := Hz q5
   clear hkb q5 h5 hg5 p0 p1 p2 p3 pf hb8 Hk Hk2 Q1 Hbase
   generalize hpb : wr.heap.size = pb at *
   have Hpb := Hz hpb; clear hpb
   go_wp2
   obtain ⟨wQ, rfl⟩ : ∃ wQ : World, wQ = wr := ⟨_, rfl⟩
   go_loopw [26, 5] (fun i v wr => ∃ k : Nat, i = .int .i64 k /\ k <= 8 /\ Hid (KB w wr v (bs ++ byt xk :: (List.range k).flatMap (keyN xn xd))) /\ Hid (wr.heap[pb]? = some (.cells #[.int .i64 xk, .int .i64 xn, .int .i64 xd, .string xs] 83 (0, 0)))) (fun i _ _ => (8 - intOf i).toNat)
   case atStart => exact ⟨0, rfl, by omega, HKb, Q5⟩
   case round =>
    obtain ⟨k, rfl, hk, HK2, HP⟩ := hrel
    obtain ⟨ta, tc, htv⟩ := HK2.out.shape
    subst htv
    obtain ⟨p0, p1, p2, p3, pf⟩ := four HP.out
    have hb8 := lt_of_heap HP.out
    by_cases hlt : k < 8
    ·have hkI : (k : Int) < 8 := by omega
     have hw2 : IntKind.i64.wrap ((k : Int) + 1) = (k : Int) + 1 := IntWalk.i64_in _ (by omega)
     have hw3 : IntKind.i64.wrap (8 * (k : Int)) = 8 * (k : Int) := IntWalk.i64_in _ (by omega)
     go_upto_region 10 with (fail)
     have hk2 := HK2.out.own
     have Hk2 := Hz hk2; clear hk2
     generalize hcs : bcells (bs ++ byt xk :: (List.range k).flatMap (keyN xn xd)) = cs at *
     have Hcs := Hz hcs; clear hcs
     have hlb : (bs ++ byt xk :: (List.range k).flatMap (keyN xn xd)).length < 700 := by rw [List.length_append, List.length_cons, keyN_len]; omega
     generalize hL : (bs ++ byt xk :: (List.range k).flatMap (keyN xn xd)).length = L at *
     have HL := Hz hL; clear hL
     have hlp : pb < wr.heap.size + 1 := by omega
     go_region_law (first | (refine step_append_own _ rfl (.tmp 29) (.tmp 42) 198 rfl w.heap.size 5 iv (.int .u8 0) 1 1 Tryz.underlying198 hiv hv0 hv1 hv2 rfl (by decide) (.slice ta L tc) L cs (by simp [Act.eval]) (World.ownsRow.alloc Hk2.out _) wr.heap.size 2 2 [.int .u8 (IntKind.u8.wrap (xn / 2 ^ (8 * (k : Int)).toNat)), .int .u8 (IntKind.u8.wrap (xd / 2 ^ (8 * (k : Int)).toNat))] 5 (by simp [Act.eval]) (heap_alloc_at _ _ _ rfl) rfl rfl ⟨by omega, by omega⟩ (Nat.le_trans HK2.out.fr.size (by simp)) ?_; intro v' w6 h6 hg6))
     all_goals
      have hkb := (HK2.out.still (((World.Fr.refl wr []).alloc (.cells #[.int .u8 (IntKind.u8.wrap (xn / 2 ^ (8 * (k : Int)).toNat)), .int .u8 (IntKind.u8.wrap (xd / 2 ^ (8 * (k : Int)).toNat))] 5))).drew).more (cs := keyN xn xd k) h6 (by rw [List.length_append, HL.out]; rfl) (by rw [keyN_cells, <- Hcs.out]; simp [bcells]) hg6
      have hsk : (bs ++ byt xk :: (List.range k).flatMap (keyN xn xd)) ++ keyN xn xd k = bs ++ byt xk :: (List.range (k + 1)).flatMap (keyN xn xd) := by
       rw [List.range_succ, List.flatMap_append, List.append_assoc]; simp
      rw [hsk] at hkb
      have hq6 : w6.heap[pb]? = some (.cells #[.int .i64 xk, .int .i64 xn, .int .i64 xd, .string xs] 83 (0, 0)) := by
       rw [hg6.block pb (by simp; omega) (own_box Hk2.out HP.out (by decide))]
       exact heap_alloc_some HP.out _
      have HKb := Hz hkb; have Hq6 := Hz hq6
      clear hkb hq6 hsk h6 hg6 p0 p1 p2 p3 pf
      go_wp2
      go_roundw
      case rel => exact ⟨k + 1, by go_num, by omega, HKb, Hq6⟩
      case measure => simp [intOf]; omega
    ·have hd : decide ((k : Int) < 8) = false := decide_eq_false (by omega)
     have hd2 : decide (k < 8) = false := decide_eq_false hlt
     obtain rfl : k = 8 := by omega
     have hlb : (bs ++ byt xk :: (List.range 8).flatMap (keyN xn xd)).length <= bs.length + 17 := by rw [List.length_append, List.length_cons, keyN_len]; omega
     have hbv : (bs ++ byt xk :: (List.range 8).flatMap (keyN xn xd)) ++ [byt xs.size] ++ xs.data.toList = bs ++ keyV ⟨xk, xn, xd, xs⟩ := by simp [keyV]
     have Hbv := Hz hbv; clear hbv hlt hk
     generalize (bs ++ byt xk :: (List.range 8).flatMap (keyN xn xd)) = B1 at *
     generalize hL1 : B1.length = L1 at *
     have HL1 := Hz hL1; clear hL1
     have hk2 := HK2.out.own
     rw [HL1.out] at hk2
     have Hk2 := Hz hk2; clear hk2
     have hbase : w.heap.size <= wr.heap.size + 1 := by have := HK2.out.fr.size; omega
     go_wp2_with (at_builtin; refine wpList_append_own _ rfl (.tmp 45) (.tmp 50) 198 rfl w.heap.size 5 iv (.int .u8 0) 1 1 Tryz.underlying198 hiv hv0 hv1 hv2 rfl (by decide) (.slice ta L1 tc) L1 (bcells B1) rfl (Hk2.out.alloc _) ⟨wr.heap.size, 0, none⟩ 1 1 [.int .u8 ((xs.size : Int) % 256)] rfl rfl (fun j u hu => World.news_of_block (heap_alloc_at _ _ _ rfl) j u (by simpa using hu)) (by simp [Value.oneCell']) (by unfold maxLen; omega) (by omega) (by simp; omega) ?_)
     intro v6 w6 h6 hg6 _
     have hkb := (HK2.out.still ((World.Fr.refl wr []).alloc (.cells #[.int .u8 ((xs.size : Int) % 256)] 5))).more (cs := [byt xs.size]) h6 (by rw [List.length_append, HL1.out]; rfl) (by simp [bcells, byt_cell]) hg6
     have hq6 : w6.heap[pb]? = some (.cells #[.int .i64 xk, .int .i64 xn, .int .i64 xd, .string xs] 83 (0, 0)) := by
      rw [hg6.block pb (by simp; omega) (own_box Hk2.out HP.out (by decide))]
      exact heap_alloc_some HP.out _
     obtain ⟨sa, sc, hsv⟩ := hkb.shape
     subst hsv
     have hl2 : (B1 ++ [byt xs.size]).length = L1 + 1 := by rw [List.length_append, HL1.out]; rfl
     rw [hl2] at hkb ⊢
     have hk3 := hkb.own
     rw [hl2] at hk3
     have Hkb := Hz hkb; have Hq6 := Hz hq6; have Hk3 := Hz hk3; have Hl2 := Hz hl2
     clear hkb hq6 hk3 h6 hg6 p0 p1 p2 p3 pf hl2 hb8
     obtain ⟨p0, p1, p2, p3, pf⟩ := four Hq6.out
     have hb8 := lt_of_heap Hq6.out
     have hxs64 : xs.size <= 64 := Hxs.out
     go_wp2_with (at_builtin; refine Lib.wpList_append_own_string _ rfl (.tmp 52) (.tmp 54) 198 9 rfl w.heap.size 5 iv Tryz.underlying198 Tryz.underlying9 hiv hv0 hv1 hv2 (.slice sa (L1 + 1) sc) (L1 + 1) (bcells (B1 ++ [byt xs.size])) rfl Hk3.out xs rfl (by unfold maxLen; omega) (by omega) (Hkb.out.fr.size) ?_)
     intro v7 w7 h7 hg7 _
     have hkb := Hkb.out.more (cs := xs.data.toList) h7 (by rw [List.length_append, Hl2.out, Array.length_toList]; rfl) (by simp [bcells, Lib.strCells]) hg7
     rw [Hbv.out, <- Hsn.out] at hkb
     have HKn := Hz hkb
     clear hkb h7 hg7 p0 p1 p2 p3 pf hb8 hxs64
     go_wp2
     go_roundw
     case rel => exact ⟨j + 1, by go_num, by omega, HKn⟩
     case measure => simp [intOf]; omega
  ·have hd : decide ((j : Int) < (ps.length : Int)) = false := decide_eq_false (by omega)
   have hd2 : decide (j < ps.length) = false := decide_eq_false hlt
   obtain rfl : j = ps.length := by omega
   rw [List.take_of_length_le (Nat.le_refl _)] at HK ⊢
   have hcv := HK.out.conv
   clear hlt hj hbl
   go_wp2
   go_ret
   exact ⟨rfl, HK.out.fr⟩
end
section
open Go.RowKit
theorem bext {a b : BA} (h : a.data.toList = b.data.toList) : a = b := by
 cases a with | mk a => cases b with | mk b => simp at h; rw [h]
abbrev R0 : Value -> Option (DataW Value × List MemPlace) := fun v => some (.held v, [])
abbrev vnil : Value := .slice none 0 0
structure GM (w : World) (b n : Nat) (f : BA -> Value) : Prop where
 ex : ∃ D : DataW Value, w.ownsMap Tryz.prog 9 R0 b n D /\ Maps.IsMap D /\ ∀ x : BA, D.atKey (.string x.data.toList) (.held vnil) = .held (f x)
theorem keyOf_str {x : BA} (hx : x.size <= maxLen) : Go.keyOf Tryz.prog 9 (.string x) = some (.string x.data.toList) := by
 simp [Go.keyOf, mapKey, Tryz.underlying9, hx]
theorem GM.made (w : World) : GM (w.alloc (.map #[] 0)) w.heap.size 0 fun _ => vnil :=
 ⟨_, World.ownsMap_made w _ _ _, Maps.isMap_empty, fun _ => rfl⟩
theorem GM.lt {w : World} {b n : Nat} {f : BA -> Value} (h : GM w b n f) : b < w.heap.size := by
 obtain ⟨D, h1, _⟩ := h.ex
 exact h1.lt
theorem GM.fr {w w1 : World} {b n : Nat} {f : BA -> Value} {L : List Nat} (h : GM w b n f) (hf : w.Fr w1 L) (hb : b ∉ L) : GM w1 b n f := by
 obtain ⟨D, ⟨es, cl, h1, h2⟩, h3⟩ := h.ex
 exact ⟨D, ⟨es, cl, (hf.block b (lt_of_heap h1) hb).trans h1, h2⟩, h3⟩
theorem zero23 (w : World) : (zeroValue 32).run Tryz.prog w = .ok vnil w := by kernel_rfl
theorem GM.look {w : World} {b n : Nat} {f : BA -> Value} (h : GM w b n f) {x : BA} (hx : x.size <= maxLen) : (Instr.lookup 155 (.map (some b)) (.string x) false).run Tryz.prog w = .ok (f x) w := by
 obtain ⟨D, h1, _, h3⟩ := h.ex
 obtain ⟨v, ps, hr, hv⟩ := h1.lookup (Maps.string_keyed Tryz.underlying9) Tryz.underlying155 (zero23 w) (zd := .held vnil) (zp := []) rfl (keyOf_str hx)
 rw [h3 x] at hv
 simp only [Option.some.injEq, Prod.mk.injEq, DataW.held.injEq] at hv
 rw [hr, hv.1]
open Classical in
theorem GM.update {w : World} {b n : Nat} {f : BA -> Value} (h : GM w b n f) (hn : n < maxLen) {x : BA} (hx : x.size <= maxLen) (v : Value) :
  ∃ w', (Instr.mapUpdate 155 (.map (some b)) (.string x) v).run Tryz.prog w = .ok () w' /\ GM w' b (n + 1) (fun y => if y = x then v else f y) /\ w.Fr w' [b] := by
 obtain ⟨D, h1, h2, h3⟩ := h.ex
 obtain ⟨w', hr, ho, hg⟩ := h1.update (Maps.string_keyed Tryz.underlying9) Tryz.underlying155 hn (keyOf_str hx) (val := v) (d := .held v) (ps := []) rfl
 refine ⟨w', hr, ⟨_, ho, h2.put _ _, fun y => ?_⟩, ⟨hg.os, hg.tape, hg.output, hg.size, fun k hk hn => hg.block k hk (fun e => hn (by simp at e; simp [e]))⟩⟩
 by_cases hy : y = x
 ·subst hy
  rw [Maps.atKey_put_same h2 (by simp [WideAt.IsKeyLit]), if_pos rfl]
 ·rw [Maps.atKey_put_other (fun e => hy (bext (by simpa using e))), if_neg hy]
  exact h3 y
open Classical in
theorem wpList_update_gm (w : World) {ops : Array Oper} {rest : List Oper} {o : Oper} {a : Act} {Q : Exit -> Act -> World -> Prop}
  (hg : o.guard = none) (m x v : Operand) (hop : o.op = Op.mapUpdate 155 m x v) (b n : Nat) (f : BA -> Value) (hm : a.eval m = .map (some b)) (hown : GM w b n f) (hn : n < maxLen) (key : BA) (hx : key.size <= maxLen) (val : Value) (hxe : a.eval x = .string key) (hv : a.eval v = val)
  (hK : ∀ w', GM w' b (n + 1) (fun y => if y = key then val else f y) -> w.Fr w' [b] -> wpList Tryz.prog ops Q rest (a.put o.dst undef) w') :
  wpList Tryz.prog ops Q (o :: rest) a w := by
 refine wpList_plain hg fun K' hK' => ?_
 obtain ⟨w', hrun, r1, r2⟩ := hown.update hn hx val
 unfold Oper.wp
 simp [execOp, hop, hm, hxe, hv, hrun, Result.andThen]
 exact hK' _ _ (hK w' r1 r2)
open Classical in
noncomputable def grp (ky : Row -> BA) (ps : List HR) (key : BA) : List HR := ps.filter fun p => decide (ky p.2 = key)
structure GG (W w : World) (b : Nat) (ps : List HR) (ky : Row -> BA) : Prop where
 ex : ∃ n f, n <= ps.length /\ GM w b n f /\ (∀ key, w.Sl 81 1 (f key) (grp ky ps key).length ((grp ky ps key).map (·.1))) /\ (∀ key k, k ∈ (f key).blk -> W.heap.size <= k) /\ ∀ key key', key ≠ key' -> ∀ k, k ∈ (f key).blk -> k ∉ (f key').blk
 fr : W.Fr w []
 new : W.heap.size <= b
theorem GG.still {W w w1 : World} {b : Nat} {ps : List HR} {ky : Row -> BA} (h : GG W w b ps ky) (hf : w.Fr w1 []) : GG W w1 b ps ky := by
 obtain ⟨n, f, h1, h2, h3, h4, h5⟩ := h.ex
 exact ⟨⟨n, f, h1, h2.fr hf (by simp), fun key => (h3 key).fr hf (by simp), h4, h5⟩, h.fr.trans hf (by simp), h.new⟩
theorem GG.made (w : World) (ky : Row -> BA) : GG w (w.alloc (.map #[] 0)) w.heap.size [] ky :=
 ⟨⟨0, fun _ => vnil, Nat.le_refl _, GM.made w, fun _ => World.Sl.nil _ _ _, by simp [Value.blk], by simp [Value.blk]⟩, (World.Fr.refl _ _).alloc _, Nat.le_refl _⟩
theorem map_cells {w : World} {e : TypeId} {s n : Nat} {v : Value} {xs : List Value} {b m : Nat} {f : BA -> Value} (h : w.Sl e s v n xs) (hb : GM w b m f) : b ∉ v.blk := by
 intro hk
 obtain ⟨D, ⟨es, cl, h1, _⟩, _⟩ := hb.ex
 rcases h.2 with ⟨rfl, _⟩ | ⟨g, off, cap, cur, rfl, hg, _⟩
 ·simp [Value.blk] at hk
 simp [Value.blk] at hk
 subst hk
 rw [hg] at h1
 cases h1
open Classical in
theorem GG.push {W w2 w5 w6 : World} {b n : Nat} {ps : List HR} {ky : Row -> BA} {f : BA -> Value} {key : BA} {p : HR} {g off c gl : Nat} {o : Obj}
  (hW : W.Fr w2 []) (hb : W.heap.size <= b) (hn : n <= ps.length) (hgm : GM w2 b n f) (hsl : ∀ key, w2.Sl 81 1 (f key) (grp ky ps key).length ((grp ky ps key).map (·.1))) (hbl : ∀ key k, k ∈ (f key).blk -> W.heap.size <= k) (hdj : ∀ key key', key ≠ key' -> ∀ k, k ∈ (f key).blk -> k ∉ (f key').blk)
  (hk : ky p.2 = key) (hgl : (grp ky ps key).length = gl) (hs5 : w5.Sl 81 1 (.slice (some ⟨g, off, none⟩) (gl + 1) c) (gl + 1) ((grp ky ps key).map (·.1) ++ [p.1])) (hf : (w2.alloc o).Fr w5 (f key).blk) (hg : g ∈ (f key).blk ∨ g = w2.heap.size + 1)
  (hgm6 : GM w6 b (n + 1) (fun y => if y = key then .slice (some ⟨g, off, none⟩) (gl + 1) c else f y)) (hf6 : w5.Fr w6 [b]) : GG W w6 b (ps ++ [p]) ky := by
 have hf2 : w2.Fr w5 (f key).blk := ((World.Fr.refl w2 (f key).blk).alloc o).trans hf (fun k hk => .inl hk)
 have hgW : W.heap.size <= g := by
  rcases hg with h | h
  ·exact hbl key g h
  ·have := hW.size; omega
 have hgb : g ≠ b := by
  rcases hg with h | h
  ·exact fun e => map_cells (hsl key) hgm (e ▸ h)
  ·have := hgm.lt; omega
 have hoth : ∀ key', key' ≠ key -> g ∉ (f key').blk := fun key' hne => by
  rcases hg with h | h
  ·exact fun h' => hdj key key' (fun e => hne e.symm) g h h'
  ·exact fun h' => by have := (hsl key').lt g h'; omega
 refine ⟨⟨n + 1, _, by simp; omega, hgm6, fun key' => ?_, fun key' k hk' => ?_, fun k1 k2 hne k hk1 hk2 => ?_⟩, (hW.trans hf2 (fun k hk => .inr (hbl key k hk))).trans hf6 (fun k hk => .inr (by simp at hk; subst hk; exact hb)), hb⟩
 ·by_cases he : key' = key
  ·subst he
   have e1 : grp ky (ps ++ [p]) key' = grp ky ps key' ++ [p] := by simp [grp, hk]
   rw [if_pos rfl, e1, List.length_append, hgl, List.map_append]
   exact hs5.fr hf6 (by simp [Value.blk]; exact hgb)
  ·have e1 : grp ky (ps ++ [p]) key' = grp ky ps key' := by
    have : ¬ (ky p.2 = key') := fun e => he (e.symm.trans hk)
    simp [grp, this]
   rw [if_neg he, e1]
   have h1 := (hsl key').fr hf2 (hdj key' key he)
   exact h1.fr hf6 (by intro k hk2 hb2; simp at hb2; subst hb2; exact map_cells (hsl key') hgm hk2)
 ·by_cases he : key' = key
  ·rw [if_pos he] at hk'
   simp [Value.blk] at hk'
   omega
  ·rw [if_neg he] at hk'
   exact hbl key' k hk'
 ·by_cases e1 : k1 = key
  ·subst e1
   rw [if_pos rfl] at hk1
   rw [if_neg (fun e => hne e.symm)] at hk2
   simp [Value.blk] at hk1
   subst hk1
   exact hoth k2 (fun e => hne e.symm) hk2
  ·rw [if_neg e1] at hk1
   by_cases e2 : k2 = key
   ·rw [if_pos e2] at hk2
    simp [Value.blk] at hk2
    subst hk2
    exact hoth k1 e1 hk1
   ·rw [if_neg e2] at hk2
    exact hdj k1 k2 hne k hk1 hk2
end
section
open Go.RowKit
def plc (l want : List BA) : List Nat := want.map fun x => (idx l x).toNat
def kyOf (l want : List BA) (r : Row) : BA := keyS r (plc l want)
theorem plc_cells {l want : List BA} (h : ∀ x, x ∈ want -> x ∈ l) : pcells l want = (plc l want).map fun p : Nat => Value.int .i64 (p : Int) := by
 unfold plc
 rw [List.map_map]
 refine List.map_congr_left fun x hx => ?_
 have := idx_mem.2 (h x hx)
 simp only [Function.comp]
 congr 1; omega
theorem plc_lt {l want : List BA} (h : ∀ x, x ∈ want -> x ∈ l) : ∀ p, p ∈ plc l want -> p < l.length := fun p hp => by
 obtain ⟨x, hx, rfl⟩ := List.mem_map.1 hp
 have h1 := idx_mem.2 (h x hx)
 have h2 := idx_range l x
 omega
theorem plc_len (l want : List BA) : (plc l want).length = want.length := by simp [plc]
theorem kyOf_size {l want : List BA} {r : Row} (hs : ∀ x, x ∈ r -> x.s.size <= 64) (hr : r.length = l.length) (h : ∀ x, x ∈ want -> x ∈ l) (hl : want.length <= 8) : (kyOf l want r).size <= 664 := by
 have h1 := keyL_len hs (plc l want) (fun p hp => by rw [hr]; exact plc_lt h p hp)
 have h2 : (kyOf l want r).size = (keyL r (plc l want)).length := by simp [kyOf, keyS, ByteArray.size]
 rw [h2]
 rw [plc_len] at h1
 omega
open Classical in
theorem lookup69 {w : World} {v1 v2 : Value} {t : Tb} {want : List BA} (h1 : RdTab w v1 t) (h2 : RdStr w v2 want) (hl : t.vars.length <= 8) (hl2 : want.length <= 8) (hm : t.rows.length <= 5864062014634) (hw : ∀ r, r ∈ t.rows -> r.length = t.vars.length) (hs : ∀ r, r ∈ t.rows -> ∀ x, x ∈ r -> x.s.size <= 64) (hin : ∀ x, x ∈ want -> x ∈ t.vars) :
  Calls Tryz.prog 118 #[v1, v2] w fun e w' => ∃ b ps, e = .returned (.map (some b)) /\ GG w w' b ps (kyOf t.vars want) /\ ps.map (·.2) = t.rows /\ ∀ p, p ∈ ps -> RdRow w p.1 p.2 := by
 obtain ⟨x1, y1, hs1, rfl, hv1, hr1⟩ := h1.ex
 obtain ⟨a1, c1, rfl, _, _⟩ := hv1.rd.shape
 obtain ⟨a2, c2, rfl, _, _⟩ := h2.rd.shape
 obtain ⟨a3, c3, rfl, _, _⟩ := hr1.rd.shape
 have hlen := hr1.len
 rw [hlen] at hr1 ⊢
 clear h1
 obtain ⟨ps, hps⟩ : ∃ ps, ps = hs1.zip t.rows := ⟨_, rfl⟩
 have hp1 : ps.map (·.1) = hs1 := by rw [hps]; exact zip_fst hlen
 have hp2 : ps.map (·.2) = t.rows := by rw [hps]; exact zip_snd hlen
 have hpr : ∀ p, p ∈ ps -> RdRow w p.1 p.2 := fun p hp => by
  rw [hps] at hp
  obtain ⟨i, hi⟩ := List.getElem?_of_mem hp
  rw [List.getElem?_zip_eq_some] at hi
  exact hr1.row i p.1 p.2 hi.1 hi.2
 have hpl : ps.length = t.rows.length := by rw [<- hp2, List.length_map]
 clear hps
 have hmm := @run_makeMap Tryz.prog
 have Hv1 := Hz hv1; have H2 := Hz h2; have Hr1 := Hz hr1; have Hl := Hz hl; have Hl2 := Hz hl2; have Hm := Hz hm; have Hw := Hz hw; have Hs := Hz hs; have Hin := Hz hin; have Hp1 := Hz hp1; have Hp2 := Hz hp2; have Hpr := Hz hpr; have Hpl := Hz hpl; clear h2 hv1 hr1 hl hl2 hm hw hs hin hp1 hp2 hpr hpl hlen
 go_enter Tryz.func118, Tryz.ntmps118
 go_upto_region 1 with (fail)
 generalize hW : World.alloc w _ = W
 have q1 : W.heap[w.heap.size]? = some (.cells #[.slice a1 t.vars.length c1, .slice a3 t.rows.length c3] 34 (0, 0)) := by rw [<- hW]; exact heap_alloc_at _ _ _ rfl
 have q3 : w.Fr W [] := by rw [<- hW]; exact (World.Fr.refl w []).alloc _
 clear hW
 generalize hb1 : w.heap.size = b1 at *
 have Hb1 := Hz hb1; clear hb1
 obtain ⟨p0, p1, pf⟩ := two q1
 have Q1 := Hz q1; have Q3 := Hz q3; clear q1 q3
 have hc := places70 (Hv1.out.fr Q3.out (by simp)) (H2.out.fr Q3.out (by simp)) (by have := Hl.out; omega) (by have := Hl2.out; omega)
 have Hc := Hz hc; clear hc
 go_wp2_with fail
 refine Hc.out.mono ?_
 rintro e w1 ⟨vp, rfl, hop⟩
 obtain ⟨pa, pc, rfl⟩ := hop.shape
 have hpw : (pcells t.vars want).length = want.length := by simp
 rw [hpw] at hop ⊢
 have q1 := hop.fr.heap Q1.out (by simp)
 have q3 := Q3.out.trans hop.fr (by simp)
 have hps := hop.sl
 rw [hpw, plc_cells Hin.out] at hps
 clear p0 p1 pf Hc Q1 Q3 hop hpw
 have Q1 := Hz q1; have Q3 := Hz q3; have Hps := Hz hps; clear q1 q3 hps
 go_upto_region 3 with (fail)
 have hg0 := GG.made w1 (kyOf t.vars want)
 generalize hW2 : World.alloc w1 _ = W2 at *
 have q1 : W2.heap[b1]? = some (.cells #[.slice a1 t.vars.length c1, .slice a3 t.rows.length c3] 34 (0, 0)) := by rw [<- hW2]; exact heap_alloc_some Q1.out _
 clear hW2 Q1 hmm
 obtain ⟨p0, p1, pf⟩ := two q1
 have hlb := lt_of_heap q1
 generalize w1.heap.size = mb at *
 have HG0 := Hz hg0; clear hg0 q1
 go_wp2
 clear p0 p1 pf hlb
 go_loopw [18] (fun i wr => ∃ j : Nat, i = .int .i64 j /\ j <= t.rows.length /\ Hid (GG w1 wr mb (ps.take j) (kyOf t.vars want))) (fun i _ => (t.rows.length - intOf i).toNat)
 case atStart => exact ⟨0, rfl, Nat.zero_le _, HG0⟩
 case round =>
  obtain ⟨j, rfl, hj, HG⟩ := hrel
  by_cases hlt : j < t.rows.length
  ·obtain ⟨p, hp⟩ : ∃ p, ps[j]? = some p := ⟨ps[j]'(by have := Hpl.out; omega), List.getElem?_eq_getElem _⟩
   have hpm := List.mem_of_getElem? hp
   have hr : t.rows[j]? = some p.2 := by rw [<- Hp2.out, List.getElem?_map, hp]; rfl
   have hh : hs1[j]? = some p.1 := by rw [<- Hp1.out, List.getElem?_map, hp]; rfl
   have hrm := List.mem_of_getElem? hr
   have hrl := Hw.out _ hrm
   have hfr := Q3.out.trans HG.out.fr (by simp)
   have hrow := (Hpr.out p hpm).fr hfr (by simp)
   obtain ⟨ax, mx, hpv, _, _⟩ := hrow.rd.shape
   have hall := (Hr1.out.still hfr).rd
   obtain ⟨g, off, c, hv, _, _, hg, kcs⟩ := hall.form (by rw [Hr1.out.len]; omega)
   have kx := kcs j (by rw [Hr1.out.len]; omega)
   clear kcs
   rw [hh] at kx
   have hv' := hv
   rw [Hr1.out.len] at hv'
   cases hv'
   obtain ⟨pv, pr⟩ := p
   simp only at hpv hrow kx hrl
   subst hpv
   have hjI : (j : Int) < (t.rows.length : Int) := by omega
   have hw1 : IntKind.i64.wrap ((j : Int) + 1) = (j : Int) + 1 := IntWalk.i64_in _ (by have := Hm.out; omega)
   have hkey := key71 (plc t.vars want) hrow (v2 := .slice pa want.length pc) (by rw [plc_len]; exact Hps.out.fr HG.out.fr (by simp)) (fun q hq => by rw [hrl]; exact plc_lt Hin.out q hq) (by rw [plc_len]; exact Hl2.out) (by rw [hrl]; exact Hl.out) (Hs.out _ hrm)
   have hks := kyOf_size (Hs.out _ hrm) hrl Hin.out Hl2.out
   have hsn : ps.take (j + 1) = ps.take j ++ [(.slice ax pr.length mx, pr)] := by
    rw [List.take_succ_eq_append_getElem (List.getElem?_eq_some_iff.1 hp).1, (List.getElem?_eq_some_iff.1 hp).2]
   have htl : (ps.take j).length = j := by simp; have := Hpl.out; omega
   have Hkey := Hz hkey; have Hks := Hz hks; have Hsn := Hz hsn; have Htl := Hz htl
   clear hkey hks hsn htl hall hrow hfr hv hh hr hrm hpm hp hrl
   change Hid (Calls Tryz.prog 120 _ _ fun e w' => e = .returned (.string (kyOf t.vars want pr)) /\ _) at Hkey
   generalize hky : kyOf t.vars want pr = key at *
   have Hky := Hz hky; clear hky
   go_wp2_with fail
   refine Hkey.out.mono ?_
   rintro e w2 ⟨rfl, hf2⟩
   have hgg := HG.out.still hf2
   obtain ⟨n, f, hn, hgm, hsl, hbl, hdj⟩ := hgg.ex
   have hlk := hgm.look (x := key) (by have := Hks.out; unfold maxLen; omega)
   have hsk := hsl key
   obtain ⟨va, vc, hva, _, _⟩ := hsk.shape
   have hglen : (grp (kyOf t.vars want) (ps.take j) key).length <= j := by
    have := List.length_filter_le (fun p : HR => decide (kyOf t.vars want p.2 = key)) (ps.take j)
    rw [Htl.out] at this
    exact this
   rw [hva] at hlk hsk
   generalize hgl : (grp (kyOf t.vars want) (ps.take j) key).length = gl at *
   have Hgl := Hz hgl; have Hgg := Hz hgg; have Hgm := Hz hgm; have Hsl := Hz hsl; have Hbl := Hz hbl; have Hdj := Hz hdj; have Hsk := Hz hsk; have Hva := Hz hva; have Hn := Hz hn
   clear hgl hgg hgm hsl hbl hdj hsk hva hn kx Hkey hf2
   obtain ⟨ih, hih, hh0, hh1, hh2⟩ := info_parts infoH
   have hroom : j < 5864062014634 := by have := Hm.out; omega
   go_wp2_with (at_builtin; refine wpList_append_one _ rfl (.tmp 29) (.tmp 31) 32 rfl 81 ih (.slice none 0 0) 1 24 Tryz.underlying32 hih hh0 hh1 hh2 rfl (.slice va gl vc) gl _ rfl (Hsk.out.alloc _) w2.heap.size 1 [.slice ax pr.length mx] 81 rfl (heap_alloc_at _ _ _ rfl) rfl rfl ⟨by omega, by omega⟩ ?_)
   intro g3 off3 c3 w5 hsl3 hfr3 hat hlt3
   have hgm5 := (Hgm.out.fr ((World.Fr.refl w2 []).alloc (.cells #[.slice ax pr.length mx] 81)) (by simp)).fr hfr3 (by rw [<- Hva.out]; exact map_cells (Hsl.out key) Hgm.out)
   have Hsl3 := Hz hsl3; have Hfr3 := Hz hfr3; have Hat := Hz hat; have Hgm5 := Hz hgm5
   clear hsl3 hfr3 hat hlt3 hgm5 hlk
   have hn2 : n < maxLen := by have := Hn.out; rw [Htl.out] at this; unfold maxLen; omega
   go_wp2_with (at_mapUpdate; refine wpList_update_gm _ rfl (.tmp 25) (.tmp 26) (.tmp 32) rfl mb n f rfl Hgm5.out hn2 key (by have := Hks.out; unfold maxLen; omega) (.slice (some ⟨g3, off3, none⟩) (gl + 1) c3) rfl rfl ?_)
   intro w6 hgm6 hf6
   have hpush := GG.push (p := (.slice ax pr.length mx, pr)) (o := .cells #[.slice ax pr.length mx] 81) Hgg.out.fr Hgg.out.new Hn.out Hgm.out Hsl.out Hbl.out Hdj.out Hky.out Hgl.out Hsl3.out (by rw [Hva.out]; exact Hfr3.out) (by rw [Hva.out]; simpa using Hat.out) hgm6 hf6
   rw [<- Hsn.out] at hpush
   have Hpush := Hz hpush
   clear hpush hgm6 hf6 hn2
   go_wp2
   go_roundw
   case rel => exact ⟨j + 1, by go_num, by omega, Hpush⟩
   case measure => simp [intOf]; omega
  ·have hd : decide ((j : Int) < (t.rows.length : Int)) = false := decide_eq_false (by omega)
   have hd2 : decide (j < t.rows.length) = false := decide_eq_false hlt
   obtain rfl : j = t.rows.length := by omega
   rw [List.take_of_length_le (by rw [Hpl.out]; exact Nat.le_refl _)] at HG
   have hfr := Q3.out.trans HG.out.fr (by simp)
   obtain ⟨n, f, h1, h2, h3, h4, h5⟩ := HG.out.ex
   have hz := Q3.out.size
   have hfin : GG w wr mb ps (kyOf t.vars want) := ⟨⟨n, f, h1, h2, h3, fun key k hk => Nat.le_trans hz (h4 key k hk), h5⟩, hfr, Nat.le_trans hz HG.out.new⟩
   have Hfin := Hz hfin
   clear hfin h1 h2 h3 h4 h5 hfr hz hlt hj
   go_wp2
   go_ret
   exact ⟨mb, ps, rfl, Hfin.out, Hp2.out, Hpr.out⟩
end
section
open Go.RowKit
noncomputable def leftL (a b : List BA) : List BA := a.filter fun x => !hasS b x
theorem leftL_mem {a b : List BA} {x : BA} : x ∈ leftL a b ↔ x ∈ a /\ x ∉ b := by unfold leftL hasS; simp
end
end Go.Proofs.YtbejmdlncnkaaaaGreat
