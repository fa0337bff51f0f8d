/-
  The statements' spoil: tables written over, in place.
-/
import Derived.Test.YtbejmdlncnkaaaaGreatXQL
import Derived.Test.YtbejmdlncnkaaaaGreatRmB
set_option maxRecDepth 100000
set_option maxHeartbeats 16000000
set_option linter.unusedSimpArgs false
namespace Go.Proofs.YtbejmdlncnkaaaaGreat
open Go.RowKit
structure SR where
 a : Value
 b : Value
 n : Nat
 hs : List Value
 ls : List Nat
structure SQ (L : Nat -> Prop) (w : World) (d : SR) : Prop where
 sl : w.Sl 81 1 d.b d.hs.length d.hs
 len : d.hs.length = d.ls.length
 row : ∀ (i : Nat) (hv : Value) (k : Nat), d.hs[i]? = some hv -> d.ls[i]? = some k -> Room w 83 4 hv k
 names : Room w 9 1 d.a d.n
 newr : ∀ (i : Nat) (hv : Value), d.hs[i]? = some hv -> ∀ g, g ∈ hv.blk -> L g
 newn : ∀ g, g ∈ d.a.blk -> L g
 ln : d.n <= 8000000000000000000
 lr : d.hs.length <= 8000000000000000000
 ll : ∀ k, k ∈ d.ls -> k <= 8000000000000000000
theorem SQ.still {L : Nat -> Prop} {w w' : World} {d : SR} (h : SQ L w d) (hf : w.Fr w' []) : SQ L w' d :=
 ⟨h.sl.fr hf (by simp), h.len, fun i hv k h1 h2 => (h.row i hv k h1 h2).fr hf, h.names.fr hf, h.newr, h.newn, h.ln, h.lr, h.ll⟩
theorem SQ.set {L : Nat -> Prop} {w : World} {d : SR} (h : SQ L w d) {g : Nat} {cur : Array Value} {e : TypeId} (hg : w.heap[g]? = some (.cells cur e (0, 0))) (h32 : (81 : TypeId) ≠ e) (i : Nat) (u : Value) : SQ L (w.setCell ⟨g, i, none⟩ u) d :=
 ⟨h.sl.setCell (a := ⟨g, i, none⟩) (fun hk => sl_box h.sl hg h32 _ hk rfl) u, h.len, fun j hv k h1 h2 => (h.row j hv k h1 h2).set g i u, h.names.set g i u, h.newr, h.newn, h.ln, h.lr, h.ll⟩
theorem SQ.a_shape {L : Nat -> Prop} {w : World} {d : SR} (h : SQ L w d) : ∃ x y, d.a = .slice x d.n y := by
 obtain ⟨x, y, e, _⟩ := h.names
 exact ⟨x, y, e⟩
theorem TabIn.sq {Q : Nat -> Prop} {w : World} {a b : Value} {t : Tb} (h : TabIn Q w (.agg #[a, b]) t) (h1 : t.vars.length <= 1048576) (h2 : t.rows.length <= 8000000000000000000) (h3 : ∀ r, r ∈ t.rows -> r.length <= 1048576) : ∃ hs, SQ Q w ⟨a, b, t.vars.length, hs, t.rows.map List.length⟩ := by
 obtain ⟨a', b', hs, hv, k1, k2, k3, k4, k5, k6⟩ := h.ex
 cases hv
 refine ⟨hs, k2, by rw [List.length_map]; exact k3, fun i hv k e1 e2 => ?_, Room.of_sl k1, fun i hv e1 => ?_, k4, by show t.vars.length <= _; omega, by show hs.length <= _; omega, fun k hk => ?_⟩
 ·simp only [List.getElem?_map, Option.map_eq_some_iff] at e2
  obtain ⟨r, hr, rfl⟩ := e2
  exact Room.of_sl (k6 i hv r e1 hr).1
 ·have hi : i < hs.length := (List.getElem?_eq_some_iff.1 e1).1
  obtain ⟨r, hr⟩ : ∃ r, t.rows[i]? = some r := ⟨t.rows[i]'(by omega), List.getElem?_eq_getElem (by omega)⟩
  exact (k6 i hv r e1 hr).2
 ·obtain ⟨r, hr, rfl⟩ := List.mem_map.1 hk
  have := h3 r hr
  omega
structure SA (L : Nat -> Prop) (w wr : World) (v : Value) (D : List SR) : Prop where
 sl : wr.Sl 34 2 v D.length (D.flatMap fun d => [d.a, d.b])
 tab : ∀ d, d ∈ D -> SQ L wr d
 fr : ∃ M, w.Fr wr M /\ ∀ k, k ∈ M -> L k
 keep : ∀ (R : Nat -> Prop) (d : SR), SQ R w d -> SQ R wr d
 typ : ∀ (k : Nat) (cs : Array Value) (e : TypeId), w.heap[k]? = some (.cells cs e (0, 0)) -> e ≠ 9 -> e ≠ 83 -> wr.heap[k]? = some (.cells cs e (0, 0))
theorem SA.still {L : Nat -> Prop} {w wr w' : World} {v : Value} {D : List SR} (h : SA L w wr v D) (hf : wr.Fr w' []) : SA L w w' v D :=
 ⟨h.sl.fr hf (by simp), fun d hd => (h.tab d hd).still hf, by obtain ⟨M, h1, h2⟩ := h.fr; exact ⟨M, h1.trans hf (by simp), h2⟩, fun R d hd => (h.keep R d hd).still hf, fun k cs e hk h1 h2 => hf.heap (h.typ k cs e hk h1 h2) (by simp)⟩
theorem SA.set {L : Nat -> Prop} {w wr : World} {v : Value} {D : List SR} (h : SA L w wr v D) {g : Nat} {cur : Array Value} {e : TypeId} (hg : wr.heap[g]? = some (.cells cur e (0, 0))) (h81 : (81 : TypeId) ≠ e) (h34 : (34 : TypeId) ≠ e) (h9 : e = 9 ∨ e = 83) (hL : L g) (i : Nat) (u : Value) : SA L w (wr.setCell ⟨g, i, none⟩ u) v D :=
 ⟨h.sl.setCell (a := ⟨g, i, none⟩) (fun hk => sl_box h.sl hg h34 _ hk rfl) u, fun d hd => (h.tab d hd).set hg h81 i u, by
  obtain ⟨M, h1, h2⟩ := h.fr
  exact ⟨g :: M, (h1.mono (fun k hk => by simp [hk])).setCell (.inl (by simp)) u, fun k hk => by
   rcases List.mem_cons.1 hk with rfl | hk
   ·exact hL
   ·exact h2 k hk⟩, fun R d hd => (h.keep R d hd).set hg h81 i u, fun k cs e' hk h1 h2 => heap_set_other (h.typ k cs e' hk h1 h2) ⟨g, i, none⟩ (fun hkg => by
  have h3 := h.typ k cs e' hk h1 h2
  rw [hkg, hg] at h3
  cases h3
  rcases h9 with h9 | h9
  ·exact h1 h9
  ·exact h2 h9) u⟩
theorem flatD {D : List SR} {j : Nat} {d : SR} (h : D[j]? = some d) : (D.flatMap fun d => [d.a, d.b])[j * 2]? = some d.a /\ (D.flatMap fun d => [d.a, d.b])[j * 2 + 1]? = some d.b := by
 induction D generalizing j with
 | nil => simp at h
 | cons a t ih =>
  cases j with
  | zero => simp at h; subst h; simp
  | succ j =>
   have h' : t[j]? = some d := by simpa using h
   obtain ⟨i1, i2⟩ := ih h'
   simp only [List.flatMap_cons]
   rw [List.getElem?_append_right (by show 2 <= (j + 1) * 2; omega), List.getElem?_append_right (by show 2 <= (j + 1) * 2 + 1; omega)]
   have e1 : (j + 1) * 2 - [a.a, a.b].length = j * 2 := by simp; omega
   have e2 : (j + 1) * 2 + 1 - [a.a, a.b].length = j * 2 + 1 := by simp; omega
   rw [e1, e2]
   exact ⟨i1, i2⟩
theorem SA.at {L : Nat -> Prop} {w wr : World} {v : Value} {D : List SR} (h : SA L w wr v D) {j : Nat} {d : SR} (hj : D[j]? = some d) : ∃ g off c, v = .slice (some ⟨g, off, none⟩) D.length c /\ g < wr.heap.size /\ wr.cell? ⟨g, off + j * 2, none⟩ = some d.a /\ wr.cell? ⟨g, off + j * 2 + 1, none⟩ = some d.b := by
 have hl := (List.getElem?_eq_some_iff.1 hj).1
 obtain ⟨g, off, c, he, _, _, hg, hc, _⟩ := h.sl.form (by omega)
 obtain ⟨f1, f2⟩ := flatD hj
 have c1 := hc (j * 2) (by omega)
 have c2 := hc (j * 2 + 1) (by omega)
 rw [f1] at c1
 rw [f2] at c2
 exact ⟨g, off, c, he, hg, c1, by rw [Nat.add_assoc]; exact c2⟩
theorem spoil27 {L : Nat -> Prop} {w : World} {v : Value} {D : List SR} (h : SA L w w v D) (hn : D.length <= 1000000000) : Calls Tryz.prog 27 #[v] w fun e w' => e = .returned (.tuple #[]) /\ SA L w w' v D := by
 obtain ⟨v1, v2, rfl, _, _⟩ := h.sl.shape
 obtain ⟨N, hN⟩ : ∃ N, D.length = N := ⟨_, rfl⟩
 rw [hN] at h hn ⊢
 have H := Hz h; have HN := Hz hN; have Hn := Hz hn
 clear h hN hn
 go_enter Tryz.func27, Tryz.ntmps27
 go_wp2
 go_loopw [10] (fun i wr => ∃ j : Nat, i = .int .i64 j /\ j <= N /\ Hid (SA L w wr (.slice v1 N v2) D)) (fun i _ => (N - intOf i).toNat)
 case atStart => exact ⟨0, rfl, Nat.zero_le _, H⟩
 case round =>
  obtain ⟨j, rfl, hj, HS⟩ := hrel
  clear H
  by_cases hlt : j < N
  ·obtain ⟨d, hd⟩ : ∃ d, D[j]? = some d := ⟨D[j]'(by have := HN.out; omega), List.getElem?_eq_getElem _⟩
   have hdm := List.mem_of_getElem? hd
   obtain ⟨g, off, c, hv, hg, k1, k2⟩ := HS.out.at hd
   rw [HN.out] at hv
   cases hv
   have hq := HS.out.tab d hdm
   obtain ⟨a1, a2, ha⟩ := hq.a_shape
   obtain ⟨b1, b2, hb, _, _⟩ := hq.sl.shape
   obtain ⟨da, db, n, hs, ls⟩ := d
   simp only at ha hb k1 k2
   subst ha hb
   obtain ⟨m, hm⟩ : ∃ m, hs.length = m := ⟨_, rfl⟩
   have hlm : ls.length = m := by have := hq.len; simp only at this; omega
   have hlr := hq.lr; have hln := hq.ln; have hll := hq.ll
   simp only at hlr hln hll
   rw [hm] at k2 hdm hlr
   have hjI : (j : Int) < (N : Int) := by omega
   have hw1 : IntKind.i64.wrap ((j : Int) + 1) = (j : Int) + 1 := IntWalk.i64_in _ (by have := Hn.out; omega)
   have hnn : (0 : Int) <= (j : Int) := by omega
   have q3 := heap_alloc_at wr (.cells #[.slice a1 n a2, .slice b1 m b2] 34) _ rfl
   have f3 := (World.Fr.refl wr []).alloc (.cells #[.slice a1 n a2, .slice b1 m b2] 34)
   have HS := Hz (HS.out.still f3)
   have HD := Hz hdm; have Hm := Hz hm; have Hlm := Hz hlm; have Hlr := Hz hlr; have Hln := Hz hln; have Hll := Hz hll
   clear hd hdm hq hm hlm hlr hln hll f3
   go_upto_region 3 with (fail)
   generalize hWW : World.alloc wr _ = w3 at *
   clear hWW
   generalize wr.heap.size = b3 at *
   obtain ⟨p0, p1, pf⟩ := two q3
   have hz3 := lt_of_heap q3
   have Q3 := Hz q3
   clear q3 k1 k2 hg
   go_wp2
   go_loopw [17] (fun i wr => ∃ q : Nat, i = .int .i64 q /\ q <= m /\ Hid (SA L w wr (.slice (some ⟨g, off, none⟩) N v2) D /\ wr.heap[b3]? = some (.cells #[.slice a1 n a2, .slice b1 m b2] 34 (0, 0)))) (fun i _ => (m - intOf i).toNat)
   case atStart => exact ⟨0, rfl, Nat.zero_le _, Hz ⟨HS.out, Q3.out⟩⟩
   case round =>
    obtain ⟨q, rfl, hq, HT⟩ := hrel
    clear HS Q3 p0 p1 pf hz3
    obtain ⟨p0, p1, pf⟩ := two HT.out.2
    have hz3 := lt_of_heap HT.out.2
    by_cases hqm : q < m
    ·obtain ⟨k, hk⟩ : ∃ k, ls[q]? = some k := ⟨ls[q]'(by have := Hlm.out; omega), List.getElem?_eq_getElem _⟩
     obtain ⟨hv, hh⟩ : ∃ x, hs[q]? = some x := ⟨hs[q]'(by have := Hm.out; omega), List.getElem?_eq_getElem _⟩
     have hkl := Hll.out k (List.mem_of_getElem? hk)
     have hsq := HT.out.1.tab _ HD.out
     obtain ⟨ra, rc, hve, _, _⟩ := hsq.row q hv k hh hk
     subst hve
     obtain ⟨g2, off2, cap2, he, _, _, hg2, hc2, _⟩ := hsq.sl.form (by show 0 < hs.length; have := Hm.out; omega)
     simp only at he hc2
     rw [Hm.out] at he
     cases he
     have hkc := hc2 q (by have := Hm.out; omega)
     rw [hh] at hkc
     have hqI : (q : Int) < (m : Int) := by omega
     have hw2 : IntKind.i64.wrap ((q : Int) + 1) = (q : Int) + 1 := IntWalk.i64_in _ (by have := Hlr.out; omega)
     have hqn0 : (0 : Int) <= (q : Int) := by omega
     have Hk := Hz hk; have Hh := Hz hh; have Hkl := Hz hkl
     clear hk hh hkl hsq hc2
     go_wp2
     go_loopw [23] (fun i wr => ∃ r : Nat, i = .int .i64 r /\ r <= k /\ Hid (SA L w wr (.slice (some ⟨g, off, none⟩) N v2) D /\ wr.heap[b3]? = some (.cells #[.slice a1 n a2, .slice (some ⟨g2, off2, none⟩) m b2] 34 (0, 0)))) (fun i _ => (k - intOf i).toNat)
     case atStart => exact ⟨0, rfl, Nat.zero_le _, HT⟩
     case round =>
      obtain ⟨r, rfl, hr, HU⟩ := hrel
      clear HT p0 p1 pf hz3 hg2 hkc
      by_cases hrk : r < k
      ·have hsq := HU.out.1.tab _ HD.out
       obtain ⟨g4, off4, cap4, he4, hg4, ⟨cur4, hcur⟩, hcs⟩ := (hsq.row q _ k Hh.out Hk.out).at hrk
       cases he4
       obtain ⟨s0, hs0⟩ := hcs 0 (by decide)
       rw [Nat.add_zero] at hs0
       obtain ⟨s1, hs1⟩ := hcs 1 (by decide)
       obtain ⟨s2, hs2⟩ := hcs 2 (by decide)
       obtain ⟨s3, hs3⟩ := hcs 3 (by decide)
       have hL4 := hsq.newr q _ Hh.out g4 (by simp [Value.blk])
       have hfz := fun i => frozen_of_row wr g4 i _ _ hcur
       have hrI : (r : Int) < (k : Int) := by omega
       have hw3 : IntKind.i64.wrap ((r : Int) + 1) = (r : Int) + 1 := IntWalk.i64_in _ (by have := Hkl.out; omega)
       have hrn0 : (0 : Int) <= (r : Int) := by omega
       have hne : b3 ≠ g4 := fun e => by
        subst e
        have := HU.out.2
        rw [hcur] at this
        cases this
       have t1 := HU.out.1.set hcur (by decide) (by decide) (by decide) hL4 (off4 + r * 4) (.int .i64 77)
       have c1 := heap_set_same hcur (off4 + r * 4) (.int .i64 77)
       have t2 := t1.set c1 (by decide) (by decide) (by decide) hL4 (off4 + r * 4 + 1) (.int .i64 0)
       have c2 := heap_set_same c1 (off4 + r * 4 + 1) (.int .i64 0)
       have t3 := t2.set c2 (by decide) (by decide) (by decide) hL4 (off4 + r * 4 + 2) (.int .i64 0)
       have c3 := heap_set_same c2 (off4 + r * 4 + 2) (.int .i64 0)
       have t4 := t3.set c3 (by decide) (by decide) (by decide) hL4 (off4 + r * 4 + 3) (.string .empty)
       have b4 := heap_set_other (heap_set_other (heap_set_other (heap_set_other HU.out.2 ⟨g4, off4 + r * 4, none⟩ hne (.int .i64 77)) ⟨g4, off4 + r * 4 + 1, none⟩ hne (.int .i64 0)) ⟨g4, off4 + r * 4 + 2, none⟩ hne (.int .i64 0)) ⟨g4, off4 + r * 4 + 3, none⟩ hne (.string .empty)
       have HU4 := Hz (And.intro t4 b4)
       clear t1 t2 t3 t4 c1 c2 c3 b4 hcur hcs hsq HU
       go_wp2
       go_roundw
       case rel => exact ⟨r + 1, by go_num, by omega, HU4⟩
       case measure => simp [intOf]; omega
      ·have hdr : decide ((r : Int) < (k : Int)) = false := decide_eq_false (by omega)
       have hdr2 : decide (r < k) = false := decide_eq_false hrk
       go_wp2
       go_roundw
       case rel => exact ⟨q + 1, by go_num, by omega, HU⟩
       case measure => simp [intOf]; omega
    ·have hdq : decide ((q : Int) < (m : Int)) = false := decide_eq_false (by omega)
     have hdq2 : decide (q < m) = false := decide_eq_false hqm
     go_wp2
     go_loopw [35] (fun i wr => ∃ r : Nat, i = .int .i64 r /\ r <= n /\ Hid (SA L w wr (.slice (some ⟨g, off, none⟩) N v2) D /\ wr.heap[b3]? = some (.cells #[.slice a1 n a2, .slice b1 m b2] 34 (0, 0)))) (fun i _ => (n - intOf i).toNat)
     case atStart => exact ⟨0, rfl, Nat.zero_le _, HT⟩
     case round =>
      obtain ⟨r, rfl, hr, HU⟩ := hrel
      clear HT p0 p1 pf hz3 hdq hdq2
      obtain ⟨p0, p1, pf⟩ := two HU.out.2
      have hz3 := lt_of_heap HU.out.2
      by_cases hrn : r < n
      ·have hsq := HU.out.1.tab _ HD.out
       obtain ⟨g4, off4, cap4, he4, hg4, ⟨cur4, hcur⟩, hcs⟩ := hsq.names.at hrn
       cases he4
       obtain ⟨s0, hs0⟩ := hcs 0 (by decide)
       rw [Nat.mul_one, Nat.add_zero] at hs0
       have hL4 := hsq.newn g4 (by simp [Value.blk])
       have hfz := fun i => frozen_of_row wr g4 i _ _ hcur
       have hrI : (r : Int) < (n : Int) := by omega
       have hw3 : IntKind.i64.wrap ((r : Int) + 1) = (r : Int) + 1 := IntWalk.i64_in _ (by have := Hln.out; omega)
       have hrn0 : (0 : Int) <= (r : Int) := by omega
       have hne : b3 ≠ g4 := fun e => by
        subst e
        have := HU.out.2
        rw [hcur] at this
        cases this
       have t1 := HU.out.1.set hcur (by decide) (by decide) (by decide) hL4 (off4 + r) (.string ⟨#[122, 122]⟩)
       have b4 := heap_set_other HU.out.2 ⟨g4, off4 + r, none⟩ hne (.string ⟨#[122, 122]⟩)
       have HU4 := Hz (And.intro t1 b4)
       clear t1 b4 hcur hcs hsq HU
       go_wp2
       go_roundw
       case rel => exact ⟨r + 1, by go_num, by omega, HU4⟩
       case measure => simp [intOf]; omega
      ·have hdr : decide ((r : Int) < (n : Int)) = false := decide_eq_false (by omega)
       have hdr2 : decide (r < n) = false := decide_eq_false hrn
       have HU1 := Hz HU.out.1
       clear HU
       go_wp2
       go_roundw
       case rel => exact ⟨j + 1, by go_num, by omega, HU1⟩
       case measure => simp [intOf]; omega
  ·have hd : decide ((j : Int) < (N : Int)) = false := decide_eq_false (by omega)
   have hd2 : decide (j < N) = false := decide_eq_false hlt
   go_wp2
   refine bodyPost_end (v := .tuple #[]) (by simp [results, Tryz.results27]) rfl ?_
   exact ⟨rfl, HS.out⟩
end Go.Proofs.YtbejmdlncnkaaaaGreat
