/-
  The law's spoil: a table's rows and names are written over.
-/
import Derived.Test.YtikodapgceokhaaGreatRm8
namespace Go.Proofs.YtikodapgceokhaaGreat
open Go.RowKit

/-- a table that may be written over: n names, rows of the lengths ls -/
structure SP (w0 wr : World) (b : Nat) (va vb : Value) (n : Nat) (hs : List Value) (ls : List Nat) : Prop where
  box : wr.heap[b]? = some (.cells #[va, vb] 25 (0, 0))
  sl : wr.Sl 32 1 vb hs.length hs
  len : hs.length = ls.length
  row : ∀ (i : Nat) (hv : Value) (k : Nat), hs[i]? = some hv → ls[i]? = some k → Room wr 60 4 hv k
  names : Room wr 9 1 va n
  newr : ∀ (i : Nat) (hv : Value), hs[i]? = some hv → ∀ g, g ∈ hv.blk → w0.heap.size ≤ g
  newn : ∀ g, g ∈ va.blk → w0.heap.size ≤ g
  fr : w0.Fr wr []
theorem SP.still {w0 w w' : World} {b : Nat} {va vb : Value} {n : Nat} {hs : List Value} {ls : List Nat} (h : SP w0 w b va vb n hs ls) (hf : w.Fr w' []) : SP w0 w' b va vb n hs ls :=
  ⟨hf.heap h.box (by simp), h.sl.fr hf (by simp), h.len, fun i hv k h1 h2 => (h.row i hv k h1 h2).fr hf, h.names.fr hf, h.newr, h.newn, h.fr.trans hf (by simp)⟩
theorem SP.set {w0 w : World} {b : Nat} {va vb : Value} {n : Nat} {hs : List Value} {ls : List Nat} (h : SP w0 w b va vb n hs ls) {g : Nat} {cur : Array Value} {e : TypeId} (hg : w.heap[g]? = some (.cells cur e (0, 0))) (h25 : e ≠ 25) (h32 : (32 : TypeId) ≠ e) (hn : w0.heap.size ≤ g) (i : Nat) (u : Value) : SP w0 (w.setCell ⟨g, i, none⟩ u) b va vb n hs ls := by
  have hgb : b ≠ g := fun e' => by
    subst e'
    have := h.box
    rw [hg] at this
    injection this with this
    injection this with _ this
    exact h25 this
  exact ⟨heap_set_other h.box _ hgb _, h.sl.setCell (a := ⟨g, i, none⟩) (fun hk => sl_box h.sl hg h32 _ hk rfl) u, h.len, fun j hv k h1 h2 => (h.row j hv k h1 h2).set g i u, h.names.set g i u, h.newr, h.newn, h.fr.setCell (.inr hn) u⟩
theorem SP.of {w0 w : World} {b : Nat} {va vb : Value} {t : Tb} (h : OwnTab w0 w (.agg #[va, vb]) t) (hb : w.heap[b]? = some (.cells #[va, vb] 25 (0, 0))) : ∃ hs, SP w0 w b va vb t.vars.length hs (t.rows.map List.length) := by
  obtain ⟨a, b', hs, hv, h1, h2, h3, h4, h5, h6⟩ := h.ex
  cases hv
  refine ⟨hs, hb, h2, by rw [List.length_map]; exact h3, fun i hv k e1 e2 => ?_, Room.of_sl h1, fun i hv e1 => ?_, h4, h.fr⟩
  · rw [List.getElem?_map, Option.map_eq_some_iff] at e2
    obtain ⟨r, hr, rfl⟩ := e2
    exact Room.of_sl (h6 i hv r e1 hr).1
  · have hi := (List.getElem?_eq_some_iff.1 e1).1
    obtain ⟨r, hr⟩ : ∃ r, t.rows[i]? = some r := ⟨t.rows[i]'(by omega), List.getElem?_eq_getElem (by omega)⟩
    exact (h6 i hv r e1 hr).2

set_option maxRecDepth 100000 in
set_option maxHeartbeats 4000000 in
theorem spoil82 {w0 w : World} {v : Value} {t : Tb} (h : OwnTab w0 w v t) (hl1 : t.vars.length ≤ 8000000000000000000) (hl2 : t.rows.length ≤ 8000000000000000000) (hl3 : ∀ r, r ∈ t.rows → r.length ≤ 8000000000000000000) :
    Calls Tryz.prog 82 #[v] w fun e w' => e = .returned (.tuple #[]) ∧ w0.Fr w' [] := by
  obtain ⟨a1, c1, a2, c2, rfl⟩ := h.shape
  have q1 := heap_alloc_at w (.cells #[.slice a1 t.vars.length c1, .slice a2 t.rows.length c2] 25) _ rfl
  have hown : OwnTab w0 (w.alloc (.cells #[.slice a1 t.vars.length c1, .slice a2 t.rows.length c2] 25)) (.agg #[.slice a1 t.vars.length c1, .slice a2 t.rows.length c2]) t :=
    h.kept (L := []) ((World.Fr.refl w []).alloc _) (h.fr.alloc _) (fun _ _ _ _ _ _ => ⟨fun k _ => by simp, fun k _ => by simp, fun i hv r _ _ _ k _ => by simp⟩)
  obtain ⟨hs, hsp⟩ := SP.of hown q1
  have hll : ∀ k, k ∈ t.rows.map List.length → k ≤ 8000000000000000000 := fun k hk => by
    obtain ⟨r, hr, rfl⟩ := List.mem_map.1 hk
    exact hl3 r hr
  have hrl : (t.rows.map List.length).length = t.rows.length := List.length_map ..
  generalize t.rows.map List.length = ls at *
  generalize t.vars.length = n at *
  rw [← hrl] at hl2 hsp q1 ⊢
  clear hown h hl3 hrl
  generalize hm : ls.length = m at *
  go_enter Tryz.func82, Tryz.ntmps82
  go_upto_region 1 with (fail)
  generalize hW : World.alloc w _ = W at *
  clear hW q1
  generalize w.heap.size = b at *
  have Hsp := Lib.hid hsp; have Hll := Lib.hid hll; have Hl1 := Lib.hid hl1; have Hl2 := Lib.hid hl2; have Hm := Lib.hid hm
  clear hsp hll hl1 hl2 hm
  go_wp2
  go_loopw [2] (fun i wr => ∃ j : Nat, i = .int .i64 j ∧ j ≤ m ∧ Hid (SP w0 wr b (.slice a1 n c1) (.slice a2 m c2) n hs ls)) (fun i _ => (m - intOf i).toNat)
  case atStart => exact ⟨0, rfl, Nat.zero_le _, Hsp⟩
  case round =>
    obtain ⟨j, rfl, hj, HS⟩ := hrel
    clear Hsp
    obtain ⟨p0, p1, pf⟩ := two HS.out.box
    by_cases hlt : j < m
    · obtain ⟨k, hk⟩ : ∃ k, ls[j]? = some k := ⟨ls[j]'(by have := Hm.out; omega), List.getElem?_eq_getElem (by have := Hm.out; omega)⟩
      obtain ⟨hv, hh⟩ : ∃ x, hs[j]? = some x := ⟨hs[j]'(by have := Hm.out; have := HS.out.len; omega), List.getElem?_eq_getElem (by have := Hm.out; have := HS.out.len; omega)⟩
      have hkl := Hll.out k (List.mem_of_getElem? hk)
      obtain ⟨ra, rc, hve, _, _⟩ := HS.out.row j hv k hh hk
      subst hve
      obtain ⟨g2, off2, cap2, he⟩ : ∃ g off cap, Value.slice a2 m c2 = .slice (some ⟨g, off, none⟩) m cap := by
        rcases HS.out.sl.2 with ⟨h0, h1⟩ | ⟨g', off', cap', cur', he, _⟩
        · have := HS.out.len; have := Hm.out; omega
        · have e1 : hs.length = m := by have := HS.out.len; have := Hm.out; omega
          rw [e1] at he
          exact ⟨g', off', cap', he⟩
      cases he
      have hsm : hs.length = m := by have := HS.out.len; have := Hm.out; omega
      have Hsm := Lib.hid hsm
      clear hsm
      have hjI : (j : Int) < (m : Int) := by omega
      have hw1 : IntKind.i64.wrap ((j : Int) + 1) = (j : Int) + 1 := IntWalk.i64_in _ (by have := Hl2.out; omega)
      have Hk := Lib.hid hk; have Hh := Lib.hid hh; have Hkl := Lib.hid hkl
      clear hk hh hkl
      go_wp2
      go_loopw [3] (fun i wr' => ∃ q : Nat, i = .int .i64 q ∧ q ≤ k ∧ Hid (SP w0 wr' b (.slice a1 n c1) (.slice (some ⟨g2, off2, none⟩) m c2) n hs ls)) (fun i _ => (k - intOf i).toNat)
      case atStart => exact ⟨0, rfl, Nat.zero_le _, HS⟩
      case round =>
        obtain ⟨q, rfl, hq, HT⟩ := hrel
        clear p0 p1 pf
        obtain ⟨p0, p1, pf⟩ := two HT.out.box
        have hkc := HT.out.sl.cells (by rw [Hsm.out]) j (by rw [Hsm.out, Nat.mul_one]; exact hlt)
        rw [Hh.out] at hkc
        by_cases hqk : q < k
        · obtain ⟨g4, off4, cap4, he4, hg4, ⟨cur4, hcur⟩, hcs⟩ := (HT.out.row j _ k Hh.out Hk.out).at hqk
          cases he4
          have hqI : (q : Int) < (k : Int) := by omega
          have hw2 : IntKind.i64.wrap ((q : Int) + 1) = (q : Int) + 1 := IntWalk.i64_in _ (by have := Hkl.out; omega)
          have hnew := HT.out.newr j _ Hh.out g4 (by simp [Value.blk])
          have Hcur := Lib.hid hcur; have Hcs := Lib.hid hcs; have Hnew := Lib.hid hnew
          clear hcur hcs hnew
          go_wp2
          go_region_with (first | (go_at_call 55; (refine (one55 _ _).mono ?_); rintro e w2 ⟨rfl, hf⟩; have hT2 := HT.out.still (((World.Fr.refl wr []).drew).trans hf (by simp)); have hc2 := hf.heap (w := wr.drew) Hcur.out (by simp); have hk2 := cellFrA (((World.Fr.refl wr []).drew).trans hf (by simp)) hkc; obtain ⟨o0, o1, o2⟩ := two hT2.box; obtain ⟨_, _, _, he5, hg5, _, hcs5⟩ := (hT2.row j _ k Hh.out Hk.out).at hqk; cases he5; obtain ⟨s0, hs0⟩ := hcs5 0 (by decide); rw [Nat.add_zero] at hs0; obtain ⟨s1, hs1⟩ := hcs5 1 (by decide); obtain ⟨s2, hs2⟩ := hcs5 2 (by decide); obtain ⟨s3, hs3⟩ := hcs5 3 (by decide); have hfz := fun i => frozen_of_row w2 g4 i _ _ hc2; have HT2 := Lib.hid hT2; have Hc2 := Lib.hid hc2; clear hf hT2 hc2 hcs5))
          all_goals
            have t1 := HT2.out.set Hc2.out (by decide) (by decide) Hnew.out (off4 + q * 4) (.int .i64 (vI (-77)).k)
            have c1' := heap_set_same Hc2.out (off4 + q * 4) (.int .i64 (vI (-77)).k)
            have t2 := t1.set c1' (by decide) (by decide) Hnew.out (off4 + q * 4 + 1) (.int .i64 (vI (-77)).n)
            have c2' := heap_set_same c1' (off4 + q * 4 + 1) (.int .i64 (vI (-77)).n)
            have t3 := t2.set c2' (by decide) (by decide) Hnew.out (off4 + q * 4 + 2) (.int .i64 (vI (-77)).d)
            have c3' := heap_set_same c2' (off4 + q * 4 + 2) (.int .i64 (vI (-77)).d)
            have t4 := t3.set c3' (by decide) (by decide) Hnew.out (off4 + q * 4 + 3) (.string (vI (-77)).s)
            have HT4 := Lib.hid t4
            clear t1 t2 t3 t4 c1' c2' c3'
            go_wp2
            go_roundw
            case rel => exact ⟨q + 1, by go_num, by omega, HT4⟩
            case measure => simp [intOf]; omega
        · have hd : decide ((q : Int) < (k : Int)) = false := decide_eq_false (by omega)
          have hd2 : decide (q < k) = false := decide_eq_false hqk
          go_wp2
          go_roundw
          case rel => exact ⟨j + 1, by go_num, by omega, HT⟩
          case measure => simp [intOf]; omega
    · have hd : decide ((j : Int) < (m : Int)) = false := decide_eq_false (by omega)
      have hd2 : decide (j < m) = false := decide_eq_false hlt
      go_wp2
      go_loopw [4] (fun i wr' => ∃ q : Nat, i = .int .i64 q ∧ q ≤ n ∧ Hid (SP w0 wr' b (.slice a1 n c1) (.slice a2 m c2) n hs ls)) (fun i _ => (n - intOf i).toNat)
      case atStart => exact ⟨0, rfl, Nat.zero_le _, HS⟩
      case round =>
        obtain ⟨q, rfl, hq, HT⟩ := hrel
        clear p0 p1 pf HS
        obtain ⟨p0, p1, pf⟩ := two HT.out.box
        by_cases hqn : q < n
        · obtain ⟨g4, off4, cap4, he4, hg4, ⟨cur4, hcur⟩, hcs⟩ := HT.out.names.at hqn
          cases he4
          obtain ⟨s0, hs0⟩ := hcs 0 (by decide)
          rw [Nat.mul_one, Nat.add_zero] at hs0
          have hqI : (q : Int) < (n : Int) := by omega
          have hw2 : IntKind.i64.wrap ((q : Int) + 1) = (q : Int) + 1 := IntWalk.i64_in _ (by have := Hl1.out; omega)
          have hnew := HT.out.newn g4 (by simp [Value.blk])
          have hfz := fun i => frozen_of_row wr g4 i _ _ hcur
          have t1 := HT.out.set hcur (by decide) (by decide) hnew (off4 + q) (.string ⟨#[64]⟩)
          have HT1 := Lib.hid t1
          clear t1 hcur hcs hnew
          go_wp2
          go_roundw
          case rel => exact ⟨q + 1, by go_num, by omega, HT1⟩
          case measure => simp [intOf]; omega
        · have hd : decide ((q : Int) < (n : Int)) = false := decide_eq_false (by omega)
          have hd2 : decide (q < n) = false := decide_eq_false hqn
          go_wp2
          refine bodyPost_end (v := .tuple #[]) (by simp [results, Tryz.results82]) rfl ?_
          exact ⟨rfl, HT.out.fr⟩
end Go.Proofs.YtikodapgceokhaaGreat
