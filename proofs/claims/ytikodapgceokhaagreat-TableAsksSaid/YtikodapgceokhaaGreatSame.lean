/-
  The walks of table.Same, table.Has.
-/
import Derived.Test.YtikodapgceokhaaGreatEq
namespace Go.Proofs.YtikodapgceokhaaGreat
open Go.RowKit

noncomputable def sameB (a b : Tb) : Bool := eqB a.vars b.vars && eqB a.rows b.rows
/-- a table no part of which is beyond what a machine bears -/
structure Small (t : Tb) : Prop where
  vars : t.vars.length ≤ 8000000000000000000
  rows : t.rows.length ≤ 8000000000000000000
  row : Short t.rows

set_option maxRecDepth 100000 in
set_option maxHeartbeats 1000000 in
theorem same20 {w : World} {v1 v2 : Value} {s t : Tb} (h1 : RdTab w v1 s) (h2 : RdTab w v2 t) (hs : Small s) :
    Calls Tryz.prog 20 #[v1, v2] w fun e w' => e = .returned (.bool (sameB s t)) ∧ w.Fr w' [] := by
  obtain ⟨x1, y1, hs1, rfl, hv1, hr1⟩ := h1.ex
  obtain ⟨x2, y2, hs2, rfl, hv2, hr2⟩ := h2.ex
  obtain ⟨a1, c1, rfl, _, _⟩ := hv1.rd.shape
  obtain ⟨a2, c2, rfl, _, _⟩ := hv2.rd.shape
  obtain ⟨a3, c3, rfl, _, _⟩ := hr1.rd.shape
  obtain ⟨a4, c4, rfl, _, _⟩ := hr2.rd.shape
  have Hv1 := Lib.hid hv1; have Hv2 := Lib.hid hv2; have Hr1 := Lib.hid hr1; have Hr2 := Lib.hid hr2; have Hs := Lib.hid hs; clear h1 h2 hv1 hv2 hr1 hr2 hs
  generalize hR : sameB s t = R
  have HR := Lib.hid hR; clear hR
  have q1 := heap_alloc_some (heap_alloc_at w (.cells #[.slice a1 s.vars.length c1, .slice a3 hs1.length c3] 25) _ rfl) (.cells #[.slice a2 t.vars.length c2, .slice a4 hs2.length c4] 25)
  have q2 : ((w.alloc (.cells #[.slice a1 s.vars.length c1, .slice a3 hs1.length c3] 25)).alloc (.cells #[.slice a2 t.vars.length c2, .slice a4 hs2.length c4] 25)).heap[w.heap.size + 1]? = some (.cells #[.slice a2 t.vars.length c2, .slice a4 hs2.length c4] 25) := heap_alloc_at _ _ _ (by simp)
  have q3 := ((World.Fr.refl w []).alloc (.cells #[.slice a1 s.vars.length c1, .slice a3 hs1.length c3] 25)).alloc (.cells #[.slice a2 t.vars.length c2, .slice a4 hs2.length c4] 25)
  go_enter Tryz.func20, Tryz.ntmps20
  go_upto_region 1 with (fail)
  generalize hW : World.alloc (World.alloc w _) _ = W at *
  clear hW
  obtain ⟨p0, p1, pf⟩ := two q1
  obtain ⟨r0, r1, rf⟩ := two q2
  have Q1 := Lib.hid q1; have Q2 := Lib.hid q2; have Q3 := Lib.hid q3; clear q1 q2 q3
  have hc := equal56 (Hv1.out.fr Q3.out (by simp)) (Hv2.out.fr Q3.out (by simp)) Hs.out.vars
  have Hc := Lib.hid hc; clear hc
  go_wp2_with fail
  refine Hc.out.mono ?_
  rintro e w1 ⟨rfl, hf1⟩
  have q1 := hf1.heap Q1.out (by simp)
  have q2 := hf1.heap Q2.out (by simp)
  have q3 := Q3.out.trans hf1 (by simp)
  clear p0 p1 pf r0 r1 rf hf1 Q1 Q2 Q3 Hc
  obtain ⟨p0, p1, pf⟩ := two q1
  obtain ⟨r0, r1, rf⟩ := two q2
  have Q3 := Lib.hid q3; clear q1 q2 q3
  cases he : eqB s.vars t.vars with
  | false =>
    have hres : R = false := by rw [← HR.out, sameB, he]; rfl
    subst hres
    go_wp2
    go_ret
    exact ⟨rfl, Q3.out⟩
  | true =>
    have hres : R = eqB s.rows t.rows := by rw [← HR.out, sameB, he]; rfl
    subst hres
    have hc := equalFunc57 (Hr1.out.still Q3.out) (Hr2.out.still Q3.out) Hs.out.rows Hs.out.row
    have Hc := Lib.hid hc; clear hc he HR
    go_wp2_with fail
    refine Hc.out.mono ?_
    rintro e w2 ⟨rfl, hf2⟩
    have Q4 := Lib.hid (Q3.out.trans hf2 (by simp)); clear hf2
    go_wp2
    go_ret
    exact ⟨rfl, Q4.out⟩

theorem has61 {w : World} {v1 v2 : Value} {r s : Row} (h1 : RdRow w v1 r) (h2 : RdRow w v2 s) (hl : r.length ≤ 8000000000000000000) (cb : Nat) (hb : w.heap[cb]? = some (.cells #[v2] 32 (0, 0))) :
    Calls Tryz.prog 61 #[v1, .pointer (some ⟨cb, 0, none⟩)] w fun e w' => e = .returned (.bool (eqB r s)) ∧ w.Fr w' [] := by
  have hc := equal59 h1 h2 hl
  obtain ⟨a1, c1, rfl, _, _⟩ := h1.rd.shape
  obtain ⟨a2, c2, rfl, _, _⟩ := h2.rd.shape
  have hcell : w.cell? ⟨cb, 0, none⟩ = some (.slice a2 s.length c2) := by simp [World.cell?, hb]
  have Hc := Lib.hid hc; clear hc h1 h2 hl hb
  go_enter Tryz.func61, Tryz.ntmps61
  go_wp2_with fail
  refine Hc.out.mono ?_
  rintro e w2 ⟨rfl, hf⟩
  have Hf := Lib.hid hf; clear hf
  go_wp2
  go_ret
  exact ⟨rfl, Hf.out⟩

set_option maxRecDepth 100000 in
set_option maxHeartbeats 1000000 in
theorem indexFunc94 {w : World} {v1 v2 : Value} {r : List Row} {s : Row} {hs1 : List Value} (h1 : RdRows w v1 r hs1) (h2 : RdRow w v2 s) (hl : r.length ≤ 8000000000000000000) (hsh : Short r) (cb : Nat) (hb : w.heap[cb]? = some (.cells #[v2] 32 (0, 0))) :
    Calls Tryz.prog 94 #[v1, .func (.func 61) #[] #[.pointer (some ⟨cb, 0, none⟩)]] w fun e w' => ∃ i : Int, e = .returned (.int .i64 i) ∧ (0 ≤ i ↔ s ∈ r) ∧ w.Fr w' [] := by
  obtain ⟨a1, c1, rfl, _, _⟩ := h1.rd.shape
  have hl1 := h1.len
  rw [hl1] at h1 ⊢
  have H1 := Lib.hid h1; have H2 := Lib.hid h2; have Hl := Lib.hid hl; have Hsh := Lib.hid hsh; have Hb := Lib.hid hb; clear h1 h2 hl hsh hl1 hb
  go_enter Tryz.func94, Tryz.ntmps94
  go_wp2
  go_loopw [8] (fun i wr => ∃ j : Nat, i = .int .i64 j ∧ j ≤ r.length ∧ Hid (∀ (i : Nat) (a : Row), i < j → r[i]? = some a → a ≠ s) ∧ Hid (w.Fr wr [])) (fun i _ => (r.length - intOf i).toNat)
  case atStart => exact ⟨0, rfl, Nat.zero_le _, Lib.hid (fun i a hi => by omega), Lib.hid (World.Fr.refl w [])⟩
  case round =>
    obtain ⟨j, rfl, hj, HA, HF⟩ := hrel
    by_cases hlt : j < r.length
    · obtain ⟨x, hx⟩ : ∃ x, r[j]? = some x := ⟨r[j], List.getElem?_eq_getElem (by omega)⟩
      obtain ⟨g, off, c, ax, mx, hv, hg, kx, hrx⟩ := (H1.out.still HF.out).at hx
      cases hv
      have hrI : (j : Int) < (r.length : Int) := by omega
      have hw1 : IntKind.i64.wrap ((j : Int) + 1) = (j : Int) + 1 := IntWalk.i64_in _ (by have := Hl.out; omega)
      have hc := has61 hrx (H2.out.fr HF.out (by simp)) (Hsh.out x (List.mem_of_getElem? hx)) cb (HF.out.heap Hb.out (by simp))
      have Hc := Lib.hid hc; have Hx := Lib.hid hx; clear hx hc hrx
      go_wp2_with fail
      refine Hc.out.mono ?_
      rintro e w2 ⟨rfl, hf2⟩
      have HF2 := Lib.hid (HF.out.trans hf2 (by simp)); clear hf2 kx Hc
      by_cases hxy : x = s
      · have hm : s ∈ r := hxy ▸ List.mem_of_getElem? Hx.out
        rw [eqB_true hxy]
        have Hm := Lib.hid hm; clear hm hxy
        go_wp2
        go_ret
        exact ⟨_, rfl, ⟨fun _ => Hm.out, fun _ => by omega⟩, HF2.out⟩
      · rw [eqB_false hxy]
        have Hxy := Lib.hid hxy; clear hxy
        go_wp2
        go_roundw
        case rel => exact ⟨j + 1, by go_num, by omega, Lib.hid (fun k a hk ha => by
          rcases Nat.lt_or_ge k j with h | h
          · exact HA.out k a h ha
          · obtain rfl : k = j := by omega
            rw [Hx.out] at ha
            cases ha; exact Hxy.out), HF2⟩
        case measure => simp [intOf]; omega
    · have hm : ¬ s ∈ r := fun hm => by
        obtain ⟨i, hi⟩ := List.getElem?_of_mem hm
        exact HA.out i s (by have := (List.getElem?_eq_some_iff.1 hi).1; omega) hi rfl
      have hd : decide ((j : Int) < (r.length : Int)) = false := decide_eq_false (by omega)
      have hd2 : decide (j < r.length) = false := decide_eq_false hlt
      have Hm := Lib.hid hm; clear HA hlt hj hm
      go_wp2
      go_ret
      exact ⟨_, rfl, ⟨fun h => absurd h (by decide), fun h => absurd h Hm.out⟩, HF.out⟩

open Classical in
noncomputable def hasB (rows : List Row) (r : Row) : Bool := decide (r ∈ rows)
theorem contains60 {w : World} {v1 v2 : Value} {r : List Row} {s : Row} {hs1 : List Value} (h1 : RdRows w v1 r hs1) (h2 : RdRow w v2 s) (hl : r.length ≤ 8000000000000000000) (hsh : Short r) (cb : Nat) (hb : w.heap[cb]? = some (.cells #[v2] 32 (0, 0))) :
    Calls Tryz.prog 60 #[v1, .func (.func 61) #[] #[.pointer (some ⟨cb, 0, none⟩)]] w fun e w' => e = .returned (.bool (hasB r s)) ∧ w.Fr w' [] := by
  have hc := indexFunc94 h1 h2 hl hsh cb hb
  obtain ⟨a1, c1, rfl, _, _⟩ := h1.rd.shape
  have Hc := Lib.hid hc; clear hc h1 h2 hl hb
  go_enter Tryz.func60, Tryz.ntmps60
  go_wp2_with fail
  refine Hc.out.mono ?_
  rintro e w2 ⟨i, rfl, hi, hf⟩
  have Hf := Lib.hid hf; clear hf
  have hres : decide (0 ≤ i) = hasB r s := by unfold hasB; by_cases h : s ∈ r <;> simp [h] at hi ⊢ <;> omega
  have Hres := Lib.hid hres; clear hres hi
  go_wp2
  go_ret
  rw [← Hres.out]
  exact ⟨rfl, Hf.out⟩

set_option maxRecDepth 100000 in
set_option maxHeartbeats 1000000 in
theorem has21 {w : World} {v1 v2 : Value} {t : Tb} {s : Row} (h1 : RdTab w v1 t) (h2 : RdRow w v2 s) (hs : Small t) :
    Calls Tryz.prog 21 #[v1, v2] w fun e w' => e = .returned (.bool (hasB t.rows s)) ∧ w.Fr w' [] := by
  obtain ⟨x1, y1, hs1, rfl, hv1, hr1⟩ := h1.ex
  obtain ⟨a1, c1, rfl, _, _⟩ := hv1.rd.shape
  obtain ⟨a3, c3, rfl, _, _⟩ := hr1.rd.shape
  obtain ⟨a2, c2, rfl, _, _⟩ := h2.rd.shape
  have q1 := heap_alloc_some (heap_alloc_at w (.cells #[.slice a1 t.vars.length c1, .slice a3 hs1.length c3] 25) _ rfl) (.cells #[.slice a2 s.length c2] 32)
  have q2 : ((w.alloc (.cells #[.slice a1 t.vars.length c1, .slice a3 hs1.length c3] 25)).alloc (.cells #[.slice a2 s.length c2] 32)).heap[w.heap.size + 1]? = some (.cells #[.slice a2 s.length c2] 32) := heap_alloc_at _ _ _ (by simp)
  have q3 := ((World.Fr.refl w []).alloc (.cells #[.slice a1 t.vars.length c1, .slice a3 hs1.length c3] 25)).alloc (.cells #[.slice a2 s.length c2] 32)
  have hc := contains60 (hr1.still q3) (h2.fr q3 (by simp)) hs.rows hs.row _ q2
  obtain ⟨p0, p1, pf⟩ := two q1
  have Hc := Lib.hid hc; have Q3 := Lib.hid q3; clear h1 h2 hv1 hr1 hs hc q1 q2 q3
  go_enter Tryz.func21, Tryz.ntmps21
  go_wp2_with fail
  refine Hc.out.mono ?_
  rintro e w1 ⟨rfl, hf1⟩
  have Q4 := Lib.hid (Q3.out.trans hf1 (by simp)); clear hf1
  go_wp2
  go_ret
  exact ⟨rfl, Q4.out⟩
end Go.Proofs.YtikodapgceokhaaGreat
