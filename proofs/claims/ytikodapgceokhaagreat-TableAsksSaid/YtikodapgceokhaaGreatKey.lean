/-
  The walk of table.key.
-/
import Derived.Test.YtikodapgceokhaaGreatProj
import Derived.Lib.AppendStr
import Derived.Laws.BytesString
import Derived.Laws.IdiomStrings
namespace Go.Proofs.YtikodapgceokhaaGreat
open Go.RowKit

def byt (x : Int) : UInt8 := UInt8.ofNat (x % 256).toNat
theorem byt_cell (x : Int) : Value.int .u8 (x % 256) = Value.int .u8 ((byt x).toNat : Int) := by
  congr 1
  have h1 := Int.emod_nonneg x (show (256 : Int) ≠ 0 by decide)
  have h2 := Int.emod_lt_of_pos x (show (0 : Int) < 256 by decide)
  have : (byt x).toNat = (x % 256).toNat := by
    unfold byt
    rw [UInt8.toNat_ofNat']
    exact Nat.mod_eq_of_lt (by omega)
  rw [this]; omega
def keyN (n d : Int) (j : Nat) : List UInt8 := [byt (n / 2 ^ (8 * j)), byt (d / 2 ^ (8 * j))]
def keyV (v : V) : List UInt8 := byt v.k :: ((List.range 8).flatMap (keyN v.n v.d) ++ byt v.s.size :: v.s.data.toList)
def keyL (r : Row) (ps : List Nat) : List UInt8 := ps.flatMap fun p => keyV (r.getD p default)
def keyS (r : Row) (ps : List Nat) : BA := ⟨(keyL r ps).toArray⟩
abbrev bcells (l : List UInt8) : List Value := l.map fun b => Value.int .u8 (b.toNat : Int)
/-- the bytes so far -/
structure KB (w wr : World) (v : Value) (bs : List UInt8) : Prop where
  own : wr.ownsRow w.heap.size 5 1 v bs.length (bcells bs)
  fr : w.Fr wr []
theorem KB.nil (w : World) : KB w w (.slice none 0 0) [] := ⟨World.ownsRow_nil _ _ _ _, World.Fr.refl w []⟩
theorem KB.shape {w wr : World} {v : Value} {bs : List UInt8} (h : KB w wr v bs) : ∃ a c, v = .slice a bs.length c := by
  rcases h.own.2 with ⟨rfl, h0⟩ | ⟨g, cap, cur, rfl, _⟩
  · exact ⟨none, 0, by rw [h0]⟩
  · exact ⟨_, cap, rfl⟩
theorem KB.still {w w1 w2 : World} {v : Value} {bs : List UInt8} (h : KB w w1 v bs) (hf : w1.Fr w2 []) : KB w w2 v bs :=
  ⟨h.own.kept (row := none) ⟨hf.os, hf.tape, hf.output, hf.size, fun k hk _ => hf.block k hk (by simp)⟩ (by cases v.ownBlock <;> simp), h.fr.trans hf (by simp)⟩
theorem KB.more {w w1 w2 : World} {v v' : Value} {bs cs : List UInt8} {n : Nat} {xs : List Value} (h : KB w w1 v bs) (h2 : w2.ownsRow w.heap.size 5 1 v' n xs) (hn : n = (bs ++ cs).length) (hx : xs = bcells (bs ++ cs)) (hg : w1.grownBy w2 v.ownBlock) : KB w w2 v' (bs ++ cs) := by
  subst hn hx
  refine ⟨h2, h.fr.grownBy hg fun k hk => .inr (h.own.lt k hk).1⟩
theorem infoB : (Tryz.prog.info? 5).map (fun i => (i.zero, i.size, i.bytes)) = some (some (.int .u8 0), 1, 1) := by kernel_rfl

theorem KB.conv {w wr : World} {v : Value} {bs : List UInt8} (h : KB w wr v bs) : (convert 94 9 v).run Tryz.prog wr = .ok (.string ⟨bs.toArray⟩) wr := by
  rcases h.own.2 with ⟨rfl, h0⟩ | ⟨g, cap, cur, rfl, _⟩
  · have : bs = [] := List.eq_nil_of_length_eq_zero h0
    subst this
    rw [run_convert_bytes_string wr 94 9 5 none 0 0 Tryz.underlying94 Tryz.underlying5 Tryz.underlying9]
    simp [Conv.bytesToString, Sem.run_pure]
    rfl
  · exact run_convert_bytes_back wr 94 9 5 ⟨g, 0, none⟩ cap bs Tryz.underlying94 Tryz.underlying5 Tryz.underlying9 fun j hj => h.own.cells rfl j _ (by simp [bcells, List.getElem?_eq_getElem hj])
theorem own_box {w : World} {base : Nat} {e : TypeId} {s n : Nat} {v : Value} {xs : List Value} {b : Nat} {cs : Array Value} {t : TypeId} (h : w.ownsRow base e s v n xs) (hb : w.heap[b]? = some (.cells cs t (0, 0))) (hne : e ≠ t) : some b ≠ v.ownBlock := by
  intro he
  rcases h.2 with ⟨rfl, _⟩ | ⟨g, cap, cur, rfl, _, hg, _⟩
  · cases he
  simp only [Value.ownBlock, Option.some.injEq] at he
  subst he
  rw [hg] at hb
  injection hb with hb
  injection hb with _ he
  exact hne he
theorem byt_wrap (x : Int) : Value.int .u8 (IntKind.u8.wrap x) = Value.int .u8 ((byt x).toNat : Int) := by
  rw [← byt_cell, IntKind.wrap_u8']
theorem keyN_cells (n d : Int) (k : Nat) : [Value.int .u8 (IntKind.u8.wrap (n / 2 ^ (8 * (k : Int)).toNat)), .int .u8 (IntKind.u8.wrap (d / 2 ^ (8 * (k : Int)).toNat))] = bcells (keyN n d k) := by
  have h : (8 * (k : Int)).toNat = 8 * k := by omega
  rw [h]
  simp only [bcells, keyN, List.map_cons, List.map_nil, byt_wrap]
theorem keyN_len (n d : Int) (k : Nat) : ((List.range k).flatMap (keyN n d)).length = 2 * k := by
  induction k with
  | zero => rfl
  | succ k ih => rw [List.range_succ, List.flatMap_append, List.length_append, ih]; simp [keyN]; omega
theorem keyV_len (v : V) : (keyV v).length = 18 + v.s.size := by
  have : v.s.data.toList.length = v.s.size := by rw [Array.length_toList]; rfl
  unfold keyV
  rw [List.length_cons, List.length_append, keyN_len, List.length_cons, this]
  omega
theorem keyL_len {r : Row} (hs : ∀ x, x ∈ r → x.s.size ≤ 64) : ∀ ps : List Nat, (∀ p, p ∈ ps → p < r.length) → (keyL r ps).length ≤ 83 * ps.length
  | [], _ => Nat.le_refl _
  | p :: ps, h => by
    have h1 := keyL_len hs ps (fun q hq => h q (by simp [hq]))
    have h2 := hs (r.getD p default) (by
      have := h p (by simp)
      rw [List.getD_eq_getElem?_getD, List.getElem?_eq_getElem this]
      simp)
    have h3 := keyV_len (r.getD p default)
    have e : keyL r (p :: ps) = keyV (r.getD p default) ++ keyL r ps := rfl
    rw [e, List.length_append, List.length_cons]
    omega
theorem step_append_own {P : Program} (w : World) {ops : Array Oper} {o : Oper} {a : Act} {K : Act → World → Prop} {Q : Exit → Act → World → Prop} {E : Prop} (hgd : o.guard = none) (s x : Operand) (t : TypeId)
    (ho : o.op = .call { callee := .builtin .append, args := #[s, x], argTypes := #[t, t] })
    (base : Nat) (e : TypeId) (i : TypeInfo) (z : Value) (size bytes : Nat) (ht : P.underlying t = some (.slice e)) (hi : P.info? e = some i) (hz : i.zero = some z)
    (hsize : i.size = size) (hby : i.bytes = bytes) (hzs : z.cells.size = size) (hsz : 0 < size)
    (v : Value) (n : Nat) (xs : List Value) (hs : a.eval s = v) (hown : w.ownsRow base e size v n xs)
    (B m c : Nat) (news : List Value) (e' : TypeId) (hx : a.eval x = .slice (some ⟨B, 0, none⟩) m c) (hB : w.heap[B]? = some (.cells news.toArray e' (0, 0))) (hl : news.length = m * size) (h1 : news.all Value.oneCell' = true)
    (hroom : (n + m) * bytes ≤ 140737488355328 ∧ n + m ≤ 9223372036854775807) (hbase : base ≤ w.heap.size)
    (h : ∀ v' w', w'.ownsRow base e size v' (n + m) (xs ++ news) → w.grownBy w' v.ownBlock → K (a.put o.dst v') w') :
    if Region.wanted o (yielded ops a.tmps) = true then Oper.wp P o a w K Q else E := by
  have hw : Region.wanted o (yielded ops a.tmps) = true := by simp [Region.wanted, hgd]
  rw [if_pos hw]
  exact wp_append_own w s x t ho base e i z size bytes ht hi hz hsize hby hzs hsz v n xs hs hown ⟨B, 0, none⟩ m c news hx hl (fun j u hu => World.news_of_block hB j u (by simpa using hu)) (fun u hu => List.all_eq_true.1 h1 u hu) (by unfold maxLen; exact hroom.2) hroom.1 hbase (fun v' w' h2 h3 _ => h v' w' h2 h3)
set_option maxRecDepth 100000 in
set_option maxHeartbeats 4000000 in
theorem key71 {w : World} {v1 v2 : Value} {r : Row} (ps : List Nat) (h1 : RdRow w v1 r) (h2 : w.Sl 3 1 v2 ps.length (ps.map fun p : Nat => Value.int .i64 (p : Int))) (hb : ∀ p, p ∈ ps → p < r.length) (hl : ps.length ≤ 8) (hr : r.length ≤ 8) (hs : ∀ x, x ∈ r → x.s.size ≤ 64) :
    Calls Tryz.prog 71 #[v1, v2] w fun e w' => e = .returned (.string (keyS r ps)) ∧ w.Fr w' [] := by
  obtain ⟨a1, c1, rfl, _, _⟩ := h1.rd.shape
  obtain ⟨a2, c2, rfl, _, _⟩ := h2.shape
  have H1 := Lib.hid h1; have H2 := Lib.hid h2; have Hb := Lib.hid hb; have Hl := Lib.hid hl; have Hr := Lib.hid hr; have Hs := Lib.hid hs; clear h1 h2 hb hl hr hs
  obtain ⟨iv, hiv, hv0, hv1, hv2⟩ := info_parts infoB
  go_enter Tryz.func71, Tryz.ntmps71
  go_wp2
  go_loopw [12, 5] (fun i v wr => ∃ j : Nat, i = .int .i64 j ∧ j ≤ ps.length ∧ Hid (KB w wr v (keyL r (ps.take j)))) (fun i _ _ => (ps.length - intOf i).toNat)
  case atStart => exact ⟨0, rfl, Nat.zero_le _, Lib.hid (KB.nil w)⟩
  case round =>
    obtain ⟨j, rfl, hj, HK⟩ := hrel
    obtain ⟨ka, kc, hkv⟩ := HK.out.shape
    subst hkv
    have hbl : (keyL r (ps.take j)).length ≤ 83 * j := by
      have := keyL_len Hs.out (ps.take j) (fun p hp => Hb.out p (List.mem_of_mem_take hp))
      have e : (ps.take j).length = j := by simp; omega
      rw [e] at this; exact this
    by_cases hlt : j < ps.length
    · obtain ⟨p, hp⟩ : ∃ p, ps[j]? = some p := ⟨ps[j], List.getElem?_eq_getElem hlt⟩
      have hpr := Hb.out p (List.mem_of_getElem? hp)
      obtain ⟨x, hx⟩ : ∃ x, r[p]? = some x := ⟨r[p], List.getElem?_eq_getElem hpr⟩
      obtain ⟨g, off, c, hv, hg, kx0, kx1, kx2, kx3⟩ := (H1.out.fr HK.out.fr (by simp)).at hx
      cases hv
      obtain ⟨g4, off4, c4, hv4, _, _, hg4, kcs, kfz⟩ := (H2.out.fr HK.out.fr (by simp)).form (by omega)
      have ko := kcs j (by omega)
      clear kcs kfz
      cases hv4
      rw [List.getElem?_map, hp] at ko
      simp only [Option.map_some] at ko
      have hsn : keyL r (ps.take (j + 1)) = keyL r (ps.take j) ++ keyV x := by
        rw [List.take_succ_eq_append_getElem hlt, (List.getElem?_eq_some_iff.1 hp).2]
        have : r.getD p default = x := by rw [List.getD_eq_getElem?_getD, hx]; rfl
        simp only [keyL, List.flatMap_append, List.flatMap_cons, List.flatMap_nil, List.append_nil, this]
      have hxs := Hs.out x (List.mem_of_getElem? hx)
      have hjI : (j : Int) < (ps.length : Int) := by omega
      have hpI : (p : Int) < (r.length : Int) := by omega
      have hw1 : IntKind.i64.wrap ((j : Int) + 1) = (j : Int) + 1 := IntWalk.i64_in _ (by have := Hl.out; omega)
      have hj8 : j < 8 := by have := Hl.out; omega
      have Hsn := Lib.hid hsn; have Hxs := Lib.hid hxs
      clear hsn hxs hx hp
      generalize keyL r (ps.take j) = bs at *
      obtain ⟨xk, xn, xd, xs⟩ := x
      simp only at kx0 kx1 kx2 kx3
      have hgl : g < wr.heap.size + 1 := by omega
      go_upto_region 6 with (fail)
      generalize hW5 : World.alloc wr _ = W5
      have q1 : W5.heap[wr.heap.size]? = some (.cells #[.int .i64 xk, .int .i64 xn, .int .i64 xd, .string xs] 60 (0, 0)) := by rw [← hW5]; exact heap_alloc_at _ _ _ rfl
      have q2 : wr.Fr W5 [] := by rw [← hW5]; exact (World.Fr.refl _ _).alloc _
      clear hW5 kx0 kx1 kx2 kx3 ko
      have hk := HK.out.still q2
      obtain ⟨p0, p1, p2, p3, pf⟩ := four q1
      have hb8 := lt_of_heap q1
      have hk2 := hk.own.alloc (.cells #[.int .u8 (xk % 256)] 5)
      have hbase : w.heap.size ≤ W5.heap.size := hk.fr.size
      have Hk := Lib.hid hk; have Hk2 := Lib.hid hk2; have Q1 := Lib.hid q1; have Hbase := Lib.hid hbase
      clear hk hk2 q1 q2 hbase
      have hbl2 : bs.length ≤ 664 := by omega
      go_wp2_with (at_builtin; refine wpList_append_own _ rfl (.tmp 20) (.tmp 24) 94 rfl w.heap.size 5 iv (.int .u8 0) 1 1 Tryz.underlying94 hiv hv0 hv1 hv2 rfl (by decide) (.slice ka bs.length kc) bs.length (bcells bs) rfl Hk2.out ⟨W5.heap.size, 0, none⟩ 1 1 [.int .u8 (xk % 256)] rfl rfl (fun j u hu => World.news_of_block (heap_alloc_at _ _ _ rfl) j u (by simpa using hu)) (by simp [Value.oneCell']) (by unfold maxLen; omega) (by omega) (by have := Hbase.out; simp; omega) ?_)
      intro v' w5 h5 hg5 _
      have hkb := (Hk.out.still ((World.Fr.refl W5 []).alloc (.cells #[.int .u8 (xk % 256)] 5))).more (cs := [byt xk]) h5 (by simp) (by simp [bcells, byt_cell]) hg5
      have q5 : w5.heap[wr.heap.size]? = some (.cells #[.int .i64 xk, .int .i64 xn, .int .i64 xd, .string xs] 60 (0, 0)) := by
        rw [hg5.block _ (by have := lt_of_heap Q1.out; simp; omega) (own_box (Hk2.out) (heap_alloc_some Q1.out _) (by decide))]
        exact heap_alloc_some Q1.out _
      obtain ⟨na, nc, hnv⟩ := hkb.shape
      subst hnv
      generalize hL0 : (bs ++ [byt xk]).length = L0 at hkb ⊢
      have HL0 := Lib.hid hL0; clear hL0
      have HKb := Lib.hid hkb; have Q5 := Lib.hid q5
      clear hkb q5 h5 hg5 p0 p1 p2 p3 pf hb8 Hk Hk2 Q1 Hbase
      generalize hpb : wr.heap.size = pb at *
      have Hpb := Lib.hid hpb; clear hpb
      go_wp2
      obtain ⟨wQ, rfl⟩ : ∃ wQ : World, wQ = wr := ⟨_, rfl⟩
      go_loopw [26, 5] (fun i v wr => ∃ k : Nat, i = .int .i64 k ∧ k ≤ 8 ∧ Hid (KB w wr v (bs ++ byt xk :: (List.range k).flatMap (keyN xn xd))) ∧ Hid (wr.heap[pb]? = some (.cells #[.int .i64 xk, .int .i64 xn, .int .i64 xd, .string xs] 60 (0, 0)))) (fun i _ _ => (8 - intOf i).toNat)
      case atStart => exact ⟨0, rfl, by omega, HKb, Q5⟩
      case round =>
        obtain ⟨k, rfl, hk, HK2, HP⟩ := hrel
        obtain ⟨ta, tc, htv⟩ := HK2.out.shape
        subst htv
        obtain ⟨p0, p1, p2, p3, pf⟩ := four HP.out
        have hb8 := lt_of_heap HP.out
        by_cases hlt : k < 8
        · have hkI : (k : Int) < 8 := by omega
          have hw2 : IntKind.i64.wrap ((k : Int) + 1) = (k : Int) + 1 := IntWalk.i64_in _ (by omega)
          have hw3 : IntKind.i64.wrap (8 * (k : Int)) = 8 * (k : Int) := IntWalk.i64_in _ (by omega)
          go_upto_region 10 with (fail)
          have hk2 := HK2.out.own
          have Hk2 := Lib.hid hk2; clear hk2
          generalize hcs : bcells (bs ++ byt xk :: (List.range k).flatMap (keyN xn xd)) = cs at *
          have Hcs := Lib.hid hcs; clear hcs
          have hlb : (bs ++ byt xk :: (List.range k).flatMap (keyN xn xd)).length < 700 := by rw [List.length_append, List.length_cons, keyN_len]; omega
          generalize hL : (bs ++ byt xk :: (List.range k).flatMap (keyN xn xd)).length = L at *
          have HL := Lib.hid hL; clear hL
          have hlp : pb < wr.heap.size + 1 := by omega
          go_region_law (first | (refine step_append_own _ rfl (.tmp 29) (.tmp 42) 94 rfl w.heap.size 5 iv (.int .u8 0) 1 1 Tryz.underlying94 hiv hv0 hv1 hv2 rfl (by decide) (.slice ta L tc) L cs (by simp [Act.eval]) (World.ownsRow.alloc Hk2.out _) wr.heap.size 2 2 [.int .u8 (IntKind.u8.wrap (xn / 2 ^ (8 * (k : Int)).toNat)), .int .u8 (IntKind.u8.wrap (xd / 2 ^ (8 * (k : Int)).toNat))] 5 (by simp [Act.eval]) (heap_alloc_at _ _ _ rfl) rfl rfl ⟨by omega, by omega⟩ (Nat.le_trans HK2.out.fr.size (by simp)) ?_; intro v' w6 h6 hg6))
          all_goals
            have hkb := (HK2.out.still (((World.Fr.refl wr []).alloc (.cells #[.int .u8 (IntKind.u8.wrap (xn / 2 ^ (8 * (k : Int)).toNat)), .int .u8 (IntKind.u8.wrap (xd / 2 ^ (8 * (k : Int)).toNat))] 5))).drew).more (cs := keyN xn xd k) h6 (by rw [List.length_append, HL.out]; rfl) (by rw [keyN_cells, ← Hcs.out]; simp [bcells]) hg6
            have hsk : (bs ++ byt xk :: (List.range k).flatMap (keyN xn xd)) ++ keyN xn xd k = bs ++ byt xk :: (List.range (k + 1)).flatMap (keyN xn xd) := by
              rw [List.range_succ, List.flatMap_append, List.append_assoc]; simp
            rw [hsk] at hkb
            have hq6 : w6.heap[pb]? = some (.cells #[.int .i64 xk, .int .i64 xn, .int .i64 xd, .string xs] 60 (0, 0)) := by
              rw [hg6.block pb (by simp; omega) (own_box Hk2.out HP.out (by decide))]
              exact heap_alloc_some HP.out _
            have HKb := Lib.hid hkb; have Hq6 := Lib.hid hq6
            clear hkb hq6 hsk h6 hg6 p0 p1 p2 p3 pf
            go_wp2
            go_roundw
            case rel => exact ⟨k + 1, by go_num, by omega, HKb, Hq6⟩
            case measure => simp [intOf]; omega
        · have hd : decide ((k : Int) < 8) = false := decide_eq_false (by omega)
          have hd2 : decide (k < 8) = false := decide_eq_false hlt
          obtain rfl : k = 8 := by omega
          have hlb : (bs ++ byt xk :: (List.range 8).flatMap (keyN xn xd)).length ≤ bs.length + 17 := by rw [List.length_append, List.length_cons, keyN_len]; omega
          have hbv : (bs ++ byt xk :: (List.range 8).flatMap (keyN xn xd)) ++ [byt xs.size] ++ xs.data.toList = bs ++ keyV ⟨xk, xn, xd, xs⟩ := by simp [keyV]
          have Hbv := Lib.hid hbv; clear hbv hlt hk
          generalize (bs ++ byt xk :: (List.range 8).flatMap (keyN xn xd)) = B1 at *
          generalize hL1 : B1.length = L1 at *
          have HL1 := Lib.hid hL1; clear hL1
          have hk2 := HK2.out.own
          rw [HL1.out] at hk2
          have Hk2 := Lib.hid hk2; clear hk2
          have hbase : w.heap.size ≤ wr.heap.size + 1 := by have := HK2.out.fr.size; omega
          go_wp2_with (at_builtin; refine wpList_append_own _ rfl (.tmp 45) (.tmp 50) 94 rfl w.heap.size 5 iv (.int .u8 0) 1 1 Tryz.underlying94 hiv hv0 hv1 hv2 rfl (by decide) (.slice ta L1 tc) L1 (bcells B1) rfl (Hk2.out.alloc _) ⟨wr.heap.size, 0, none⟩ 1 1 [.int .u8 ((xs.size : Int) % 256)] rfl rfl (fun j u hu => World.news_of_block (heap_alloc_at _ _ _ rfl) j u (by simpa using hu)) (by simp [Value.oneCell']) (by unfold maxLen; omega) (by omega) (by simp; omega) ?_)
          intro v6 w6 h6 hg6 _
          have hkb := (HK2.out.still ((World.Fr.refl wr []).alloc (.cells #[.int .u8 ((xs.size : Int) % 256)] 5))).more (cs := [byt xs.size]) h6 (by rw [List.length_append, HL1.out]; rfl) (by simp [bcells, byt_cell]) hg6
          have hq6 : w6.heap[pb]? = some (.cells #[.int .i64 xk, .int .i64 xn, .int .i64 xd, .string xs] 60 (0, 0)) := by
            rw [hg6.block pb (by simp; omega) (own_box Hk2.out HP.out (by decide))]
            exact heap_alloc_some HP.out _
          obtain ⟨sa, sc, hsv⟩ := hkb.shape
          subst hsv
          have hl2 : (B1 ++ [byt xs.size]).length = L1 + 1 := by rw [List.length_append, HL1.out]; rfl
          rw [hl2] at hkb ⊢
          have hk3 := hkb.own
          rw [hl2] at hk3
          have Hkb := Lib.hid hkb; have Hq6 := Lib.hid hq6; have Hk3 := Lib.hid hk3; have Hl2 := Lib.hid hl2
          clear hkb hq6 hk3 h6 hg6 p0 p1 p2 p3 pf hl2 hb8
          obtain ⟨p0, p1, p2, p3, pf⟩ := four Hq6.out
          have hb8 := lt_of_heap Hq6.out
          have hxs64 : xs.size ≤ 64 := Hxs.out
          go_wp2_with (at_builtin; refine Lib.wpList_append_own_string _ rfl (.tmp 52) (.tmp 54) 94 9 rfl w.heap.size 5 iv Tryz.underlying94 Tryz.underlying9 hiv hv0 hv1 hv2 (.slice sa (L1 + 1) sc) (L1 + 1) (bcells (B1 ++ [byt xs.size])) rfl Hk3.out xs rfl (by unfold maxLen; omega) (by omega) (Hkb.out.fr.size) ?_)
          intro v7 w7 h7 hg7 _
          have hkb := Hkb.out.more (cs := xs.data.toList) h7 (by rw [List.length_append, Hl2.out, Array.length_toList]; rfl) (by simp [bcells, Lib.strCells]) hg7
          rw [Hbv.out, ← Hsn.out] at hkb
          have HKn := Lib.hid hkb
          clear hkb h7 hg7 p0 p1 p2 p3 pf hb8 hxs64
          go_wp2
          go_roundw
          case rel => exact ⟨j + 1, by go_num, by omega, HKn⟩
          case measure => simp [intOf]; omega
    · have hd : decide ((j : Int) < (ps.length : Int)) = false := decide_eq_false (by omega)
      have hd2 : decide (j < ps.length) = false := decide_eq_false hlt
      obtain rfl : j = ps.length := by omega
      rw [List.take_of_length_le (Nat.le_refl _)] at HK ⊢
      have hcv := HK.out.conv
      clear hlt hj hbl
      go_wp2
      go_ret
      exact ⟨rfl, HK.out.fr⟩
end Go.Proofs.YtikodapgceokhaaGreat
