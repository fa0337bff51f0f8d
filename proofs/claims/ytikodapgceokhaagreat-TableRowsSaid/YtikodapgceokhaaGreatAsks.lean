/-
  The walk of the statement TableAsks (live's contract as a hypothesis; joined later).
-/
import Derived.Test.YtikodapgceokhaaGreatRsr
import Derived.Test.YtikodapgceokhaaGreatOpen
import Derived.Deep.RegionHeld3
namespace Go.Proofs.YtikodapgceokhaaGreat
open Go.RowKit
theorem sameB_comm (a b : Tb) : sameB b a = sameB a b := by
  unfold sameB eqB
  congr 1 <;> exact decide_eq_decide.2 eq_comm
theorem sameB_self (a : Tb) : sameB a a = true := by simp [sameB, eqB_true]
theorem cellFrA {w w' : World} {b j : Nat} {v : Value} (h : w.Fr w' []) (hc : w.cell? ⟨b, j, none⟩ = some v) : w'.cell? ⟨b, j, none⟩ = some v := by
  rw [World.cell?_of_block (a := ⟨b, j, none⟩) (h.block b (spot_none hc).2 (by simp))]; exact hc
theorem undr {w w' : World} {L : List Nat} (h : w.Fr w'.drew L) : w.Fr w' L := ⟨h.os, h.tape, h.output, h.size, h.block⟩

set_option maxRecDepth 100000 in
set_option maxHeartbeats 4000000 in
theorem asks4 (live : ∀ w, Calls Tryz.prog 18 #[] w fun e w' => e = .returned (.bool true) ∧ w.Fr w' []) {w : World} {v1 v2 v3 : Value} {s t : Tb} {r : Row}
    (h1 : RdTab w v1 s) (h2 : RdTab w v2 t) (h3 : RdRow w v3 r) (ss : Small s) (st : Small t) :
    Calls Tryz.prog 4 #[v1, v2, v3] w fun e w' => e = .returned (.bool true) ∧ w.Fr w' [] := by
  obtain ⟨x1, y1, hs1, rfl, hv1, hr1⟩ := h1.ex
  obtain ⟨x2, y2, hs2, rfl, hv2, hr2⟩ := h2.ex
  obtain ⟨a1, c1, rfl, _, _⟩ := hv1.rd.shape
  obtain ⟨a2, c2, rfl, _, _⟩ := hv2.rd.shape
  obtain ⟨a3, c3, rfl, _, _⟩ := hr1.rd.shape
  obtain ⟨a4, c4, rfl, _, _⟩ := hr2.rd.shape
  obtain ⟨a5, c5, rfl, _, _⟩ := h3.rd.shape
  clear hv1 hv2 hr1 hr2
  generalize s.vars.length = n1 at *
  generalize t.vars.length = n2 at *
  generalize hs1.length = n3 at *
  generalize hs2.length = n4 at *
  generalize r.length = n5 at *
  have q1 := heap_alloc_some (heap_alloc_at w (.cells #[.slice a1 n1 c1, .slice a3 n3 c3] 25) _ rfl) (.cells #[.slice a2 n2 c2, .slice a4 n4 c4] 25)
  have q2 : ((w.alloc (.cells #[.slice a1 n1 c1, .slice a3 n3 c3] 25)).alloc (.cells #[.slice a2 n2 c2, .slice a4 n4 c4] 25)).heap[w.heap.size + 1]? = some (.cells #[.slice a2 n2 c2, .slice a4 n4 c4] 25) := heap_alloc_at _ _ _ (by simp)
  have q3 := ((World.Fr.refl w []).alloc (.cells #[.slice a1 n1 c1, .slice a3 n3 c3] 25)).alloc (.cells #[.slice a2 n2 c2, .slice a4 n4 c4] 25)
  go_enter Tryz.func4, Tryz.ntmps4
  go_upto_region 1 with (fail)
  generalize hW : World.alloc (World.alloc w _) _ = W at *
  clear hW
  have h1 := h1.still q3
  have h2 := h2.still q3
  have h3 := h3.fr q3 (by simp)
  generalize w.heap.size + 1 = b2 at *
  generalize w.heap.size = b1 at *
  obtain ⟨p0, p1, pf⟩ := two q1
  obtain ⟨r0, r1, rf⟩ := two q2
  have hmk : ∀ w', W.Fr w' [] → (w'.cell? ⟨b1, 0, none⟩ = some (.slice a1 n1 c1) ∧ w'.cell? ⟨b1, 1, none⟩ = some (.slice a3 n3 c3) ∧ w'.cell? ⟨b2, 0, none⟩ = some (.slice a2 n2 c2) ∧ w'.cell? ⟨b2, 1, none⟩ = some (.slice a4 n4 c4) ∧ W.Fr w' []) := fun w' hf => ⟨cellFrA hf p0, cellFrA hf p1, cellFrA hf r0, cellFrA hf r1, hf⟩
  have hs12 : ∀ W', W.Fr W' [] → Calls Tryz.prog 20 #[.agg #[.slice a1 n1 c1, .slice a3 n3 c3], .agg #[.slice a2 n2 c2, .slice a4 n4 c4]] W' fun e w' => e = .returned (.bool (sameB s t)) ∧ W'.Fr w' [] := fun W' hf => same20 (h1.still hf) (h2.still hf) ss
  have hs21 : ∀ W', W.Fr W' [] → Calls Tryz.prog 20 #[.agg #[.slice a2 n2 c2, .slice a4 n4 c4], .agg #[.slice a1 n1 c1, .slice a3 n3 c3]] W' fun e w' => e = .returned (.bool (sameB s t)) ∧ W'.Fr w' [] := fun W' hf => by
    have hc := same20 (h2.still hf) (h1.still hf) st
    rwa [sameB_comm] at hc
  have hs11 : ∀ W', W.Fr W' [] → Calls Tryz.prog 20 #[.agg #[.slice a1 n1 c1, .slice a3 n3 c3], .agg #[.slice a1 n1 c1, .slice a3 n3 c3]] W' fun e w' => e = .returned (.bool true) ∧ W'.Fr w' [] := fun W' hf => by
    have hc := same20 (h1.still hf) (h1.still hf) ss
    rwa [sameB_self] at hc
  have hh1 : ∀ W', W.Fr W' [] → Calls Tryz.prog 21 #[.agg #[.slice a1 n1 c1, .slice a3 n3 c3], .slice a5 n5 c5] W' fun e w' => e = .returned (.bool (hasB s.rows r)) ∧ W'.Fr w' [] := fun W' hf => has21 (h1.still hf) (h3.fr hf (by simp)) ss
  have hrs := rsame17 h1 h2 ss
  have hrh : ∀ W', W.Fr W' [] → Calls Tryz.prog 19 #[.agg #[.slice a1 n1 c1, .slice a3 n3 c3], .slice a5 n5 c5] W' fun e w' => e = .returned (.bool (hasB s.rows r)) ∧ W'.Fr w' [] := fun W' hf => rhas19 (h1.still hf) (h3.fr hf (by simp)) ss
  generalize sameB s t = B1 at *
  generalize hasB s.rows r = B2 at *
  have Hmk := Lib.hid hmk; have Hs12 := Lib.hid hs12; have Hs21 := Lib.hid hs21; have Hs11 := Lib.hid hs11; have Hh1 := Lib.hid hh1; have Hrs := Lib.hid hrs; have Hrh := Lib.hid hrh; have Hlive := Lib.hid live; have Q3 := Lib.hid q3
  clear hmk hs12 hs21 hs11 hh1 hrs hrh live h1 h2 h3 ss st q1 q2 q3 
  go_wp2_with fail
  (with_reducible refine Hrs.out.mono ?_)
  rintro e w1 ⟨rfl, hFx⟩
  clear p0 p1 pf r0 r1 rf Hrs
  obtain ⟨p0, p1, r0, r1, _⟩ := Hmk.out _ hFx
  go_wp2_with fail
  (with_reducible refine (Hrh.out _ hFx).mono ?_)
  rintro e w2 ⟨rfl, hf2⟩
  have hFx := World.Fr.trans (L := []) hFx hf2 (fun _ h => nomatch h)
  clear p0 p1 r0 r1 Hrh hf2
  obtain ⟨p0, p1, r0, r1, _⟩ := Hmk.out _ hFx
  cases B1 <;> cases B2
  all_goals
    go_wp2_with fail
    (with_reducible refine (Hlive.out _).mono ?_)
    rintro e w3 ⟨rfl, hf2⟩
    have hFx := World.Fr.trans (L := []) hFx hf2 (fun _ h => nomatch h)
    clear p0 p1 r0 r1 hf2
    obtain ⟨p0, p1, r0, r1, _⟩ := Hmk.out _ hFx
    go_wp2_with fail
    (with_reducible refine (Hs12.out _ hFx).mono ?_)
    rintro e w3 ⟨rfl, hf2⟩
    have hFx := World.Fr.trans (L := []) hFx hf2 (fun _ h => nomatch h)
    clear p0 p1 r0 r1 hf2
    obtain ⟨p0, p1, r0, r1, _⟩ := Hmk.out _ hFx
    go_wp2_with fail
    (with_reducible refine (Hh1.out _ hFx).mono ?_)
    rintro e w3 ⟨rfl, hf2⟩
    have hFx := World.Fr.trans (L := []) hFx hf2 (fun _ h => nomatch h)
    clear p0 p1 r0 r1 hf2
    obtain ⟨p0, p1, r0, r1, _⟩ := Hmk.out _ hFx
    go_wp2_with fail
    (with_reducible refine (Hs21.out _ hFx).mono ?_)
    rintro e w3 ⟨rfl, hf2⟩
    have hFx := World.Fr.trans (L := []) hFx hf2 (fun _ h => nomatch h)
    clear p0 p1 r0 r1 hf2
    obtain ⟨p0, p1, r0, r1, _⟩ := Hmk.out _ hFx
    go_wp2_with fail
    (with_reducible refine (Hs11.out _ hFx).mono ?_)
    rintro e w3 ⟨rfl, hf2⟩
    have hFx := World.Fr.trans (L := []) hFx hf2 (fun _ h => nomatch h)
    clear p0 p1 r0 r1 hf2
    obtain ⟨p0, p1, r0, r1, _⟩ := Hmk.out _ hFx
    go_wp2
    go_ret
    exact ⟨rfl, Q3.out.trans hFx (by simp)⟩
end Go.Proofs.YtikodapgceokhaaGreat
