/-
  The statements' xs: the table of x with some rows. Package past: what live's calls answer, plainly; tables in a slice of the call's own. Package past: the walk of the statements' live. Once, plainly, is Since, not, of what is always false.
-/
import Derived.Test.YtbejmdlncnkaaaaGreatTbY
import Derived.Test.YtbejmdlncnkaaaaGreatPaD
import Derived.Test.YtbejmdlncnkaaaaGreatRsr
import Derived.Deep.RegionHeld3
import Derived.Test.YtbejmdlncnkaaaaGreatPaF
namespace Go.Proofs.YtbejmdlncnkaaaaGreat
section
open Go.RowKit
def xsR (l : List Int) : List Row := l.map fun n => [vI n]
theorem xsR_take {l : List Int} {j : Nat} {a : Int} (h : l[j]? = some a) : xsR (l.take (j + 1)) = xsR (l.take j) ++ [[vI a]] := by
 have hlt := (List.getElem?_eq_some_iff.1 h).1
 unfold xsR
 rw [List.take_succ_eq_append_getElem hlt, (List.getElem?_eq_some_iff.1 h).2, List.map_append]
 rfl
end
section
open Go.RowKit
theorem vI_okW (n : Int) (h : inI64 n) : okW (vI n) := ⟨vI_wf h, by simp [vcheck, vI, ByteArray.size]⟩
def xT (l : List Int) : Tb := ⟨[nmX], xsR l⟩
theorem xT1_good {cf : V -> V -> Int} {n : Int} (h : inI64 n) : Good cf (xT [n]) :=
 ⟨by simp [xT], by simp [xT], by simp [xT, xsR], by simp only [xT, xsR, List.map_cons, List.map_nil, List.mem_cons, List.not_mem_nil, or_false]; rintro r rfl x hx; simp at hx; subst hx; exact vI_okW n h, by simp [xT, xsR]⟩
theorem sortX : sortS [nmX] = [nmX] := sortS_of_pair (by simp)
theorem namesX : NamesOk [nmX] := ⟨by simp, by simp⟩
theorem namesN : NamesOk [] := ⟨by simp, by simp⟩
theorem sortN : sortS [] = [] := sortS_of_pair List.Pairwise.nil
theorem in1 : inI64 1 := by unfold inI64; omega
theorem in2 : inI64 2 := by unfold inI64; omega
section
variable {cf : V -> V -> Int}
theorem wrong_one {X : PX} {n : Int} {t : Tb} (hn : 0 <= n /\ n <= 1099511627776) (hx : X.time <= n) (hp : X.parts = 1) (ht : Good cf t) (hv : t.vars = X.right) : wrongP cf X n [t] = 0 := by
 unfold wrongP wrongE
 rw [if_neg (by simp only; omega), if_neg (by simp [hp]), if_neg (by simp [firstBad, ht.check]), if_neg]
 rintro (⟨h, _⟩ | ⟨t', h1, h2⟩)
 ·simp only at h; omega
 ·simp at h1; subst h1; exact h2 hv
theorem union_none {t : Tb} (hO : OrdOk okW cf) (ht : Good cf t) : (unionT cf ⟨t.vars, []⟩ t).2 = t := by
 obtain ⟨h1, h2, h3, h4⟩ := union_small hO (a := ⟨t.vars, []⟩) ⟨ht.len, ht.up, by simp, by simp, by simp⟩ ht rfl
 exact good_ext hO h1 ht (fun s => by rw [h2]) (fun r => by rw [h4]; simp)
end
theorem OpAt.ne {w : World} {p : Nat} {X : PX} {B : List Nat} (h : OpAt w p X B) {g : Nat} {cs : Array Value} {T : TypeId} (hg : w.heap[g]? = some (.cells cs T (0, 0))) (h1 : T ≠ 96) (h2 : T ≠ 115) : g ∉ B := by
 obtain ⟨S, vl, vr, vw, hx, hp, rfl⟩ := h
 intro hm
 rcases List.mem_cons.1 hm with rfl | hm
 ·rw [hp.box] at hg
  cases hg
  exact h1 rfl
 ·exact Sl115.ne hp.kept.sl hg h2 hm
theorem tabs_one {w : World} {g : Nat} {a b : Value} {t : Tb} (hg : w.heap[g]? = some (.cells #[a, b] 34 (0, 0))) (h : SlTab w (.agg #[a, b]) t) : RdTabs w (.slice (some ⟨g, 0, none⟩) 1 1) [t] := by
 have hs : w.Sl 34 2 (.slice (some ⟨g, 0, none⟩) 1 1) 1 [a, b] := ⟨by simp, .inr ⟨g, 0, 1, _, rfl, hg, Nat.le_refl _, by simp [maxLen], by simp, by simp⟩⟩
 refine ⟨[(a, b)], rfl, by simpa using hs.rd, fun j x t' h1 h2 => ?_⟩
 cases j with
 | zero => simp at h1 h2; subst h1 h2; exact h.rd
 | succ j => simp at h1
theorem xT_fits {l : List Int} (hl : l.length <= 10) (hi : ∀ n, n ∈ l -> inI64 n) : Fits V.wf (xT l) :=
 ⟨⟨by simp [xT], by simp [xT, xsR]; omega, fun r hr => by
  obtain ⟨a, ha, rfl⟩ := List.mem_map.1 hr
  simp⟩, by simp [xT, xsR]; omega, fun r hr x hx => by
  obtain ⟨a, ha, rfl⟩ := List.mem_map.1 hr
  simp at hx
  subst hx
  exact vI_wf (hi a ha)⟩
end
section
open Go.RowKit
structure LV (w W : World) (k1 : Nat) (X : PX) (B1 : List Nat) (k2 : Nat) (Y : PX) (B2 : List Nat) (bs : List (Nat × Value × Value × Tb)) : Prop where
 p : OpAt W k1 X B1
 s : OpAt W k2 Y B2
 dj : ∀ k, k ∈ B1 -> k ∉ B2
 b1 : ∀ k, k ∈ B1 -> w.heap.size <= k
 b2 : ∀ k, k ∈ B2 -> w.heap.size <= k
 fr : w.Fr W []
 box : ∀ q, q ∈ bs -> W.heap[q.1]? = some (.cells #[q.2.1, q.2.2.1] 34 (0, 0)) /\ SlTab W (.agg #[q.2.1, q.2.2.1]) q.2.2.2
theorem LV.still {w W W' : World} {k1 : Nat} {X : PX} {B1 : List Nat} {k2 : Nat} {Y : PX} {B2 : List Nat} {bs : List (Nat × Value × Value × Tb)} (h : LV w W k1 X B1 k2 Y B2 bs) (hf : W.Fr W' []) : LV w W' k1 X B1 k2 Y B2 bs :=
 ⟨h.p.still hf, h.s.still hf, h.dj, h.b1, h.b2, h.fr.trans hf (by simp), fun q hq => ⟨hf.heap (h.box q hq).1 (by simp), (h.box q hq).2.still hf⟩⟩
theorem LV.stepP {w W W' : World} {k1 : Nat} {X X' : PX} {B1 B1' : List Nat} {k2 : Nat} {Y : PX} {B2 : List Nat} {bs : List (Nat × Value × Value × Tb)} (h : LV w W k1 X B1 k2 Y B2 bs) (ho : OpAt W' k1 X' B1') (hb : ∀ k, k ∈ B1' -> k ∈ B1 ∨ W.heap.size <= k) (hf : W.Fr W' B1) : LV w W' k1 X' B1' k2 Y B2 bs :=
 ⟨ho, h.s.fr hf h.p.odd (fun k hk hm => h.dj k hm hk), fun k hk hm => (hb k hk).elim (fun h1 => h.dj k h1 hm) (fun h1 => by have := h.s.lt k hm; omega), fun k hk => (hb k hk).elim (h.b1 k) (fun h1 => Nat.le_trans h.fr.size h1), h.b2,
  h.fr.trans hf (fun k hk => .inr (h.b1 k hk)), fun q hq => ⟨hf.heap (h.box q hq).1 (h.p.ne (h.box q hq).1 (by decide) (by decide)), (h.box q hq).2.fr hf h.p.odd⟩⟩
theorem LV.stepS {w W W' : World} {k1 : Nat} {X : PX} {B1 : List Nat} {k2 : Nat} {Y Y' : PX} {B2 B2' : List Nat} {bs : List (Nat × Value × Value × Tb)} (h : LV w W k1 X B1 k2 Y B2 bs) (ho : OpAt W' k2 Y' B2') (hb : ∀ k, k ∈ B2' -> k ∈ B2 ∨ W.heap.size <= k) (hf : W.Fr W' B2) : LV w W' k1 X B1 k2 Y' B2' bs :=
 ⟨h.p.fr hf h.s.odd (fun k hk hm => h.dj k hk hm), ho, fun k hk hm => (hb k hm).elim (fun h1 => h.dj k hk h1) (fun h1 => by have := h.p.lt k hk; omega), h.b1, fun k hk => (hb k hk).elim (h.b2 k) (fun h1 => Nat.le_trans h.fr.size h1),
  h.fr.trans hf (fun k hk => .inr (h.b2 k hk)), fun q hq => ⟨hf.heap (h.box q hq).1 (h.s.ne (h.box q hq).1 (by decide) (by decide)), (h.box q hq).2.fr hf h.s.odd⟩⟩
theorem LV.push {w W : World} {k1 : Nat} {X : PX} {B1 : List Nat} {k2 : Nat} {Y : PX} {B2 : List Nat} {bs : List (Nat × Value × Value × Tb)} (h : LV w W k1 X B1 k2 Y B2 bs) {x y : Value} {t : Tb} (ht : SlTab W (.agg #[x, y]) t) : LV w (W.alloc (.cells #[x, y] 34)) k1 X B1 k2 Y B2 ((W.heap.size, x, y, t) :: bs) := by
 have hf := (World.Fr.refl W []).alloc (.cells #[x, y] 34)
 have h' := h.still hf
 refine ⟨h'.p, h'.s, h'.dj, h'.b1, h'.b2, h'.fr, fun q hq => ?_⟩
 rcases List.mem_cons.1 hq with rfl | hq
 ·exact ⟨heap_alloc_at _ _ _ rfl, ht.still hf⟩
 ·exact h'.box q hq
theorem LV.sub {w W : World} {k1 : Nat} {X : PX} {B1 : List Nat} {k2 : Nat} {Y : PX} {B2 : List Nat} {bs bs' : List (Nat × Value × Value × Tb)} (h : LV w W k1 X B1 k2 Y B2 bs) (hs : ∀ q, q ∈ bs' -> q ∈ bs) : LV w W k1 X B1 k2 Y B2 bs' :=
 ⟨h.p, h.s, h.dj, h.b1, h.b2, h.fr, fun q hq => h.box q (hs q hq)⟩
theorem undrew {w w' : World} {L : List Nat} (h : w.Fr w'.drew L) : w.Fr w' L := ⟨h.os, h.tape, h.output, h.size, h.block⟩
theorem strx (w : World) : RdStr (w.alloc (.cells #[.string ⟨#[120]⟩] 9)) (.slice (some ⟨w.heap.size, 0, none⟩) 1 1) [nmX] := by
 have h := World.Sl.lit w 9 #[.string ⟨#[120]⟩] 1 1 (by simp [maxLen]) rfl
 exact ⟨h.rd, fun s hs => by simp at hs; subst hs; exact of_decide_eq_true rfl⟩
section
variable {cf : V -> V -> Int}
end
theorem fitX (n : Int) (h : inI64 n) : Fits V.wf (xT [n]) := xT_fits (by simp) (by simpa using h)
end
section
open Go.RowKit
abbrev noT : Tb := ⟨[], []⟩
theorem noT_good {cf : V -> V -> Int} : Good cf noT := ⟨by simp, by simp, by simp, by simp, by simp⟩
abbrev PX.two (X : PX) : PX := { X with nt := true, parts := 2 }
theorem POkP.two {cf : V -> V -> Int} {X : PX} {M : Nat} (h : POkP cf X M) (hf : X.fn = 65) : POkP cf X.two M :=
 ⟨h.upl, h.up, h.le8, .inr rfl, h.sub, h.time, h.times, h.good, .inr ⟨hf, by rcases h.fn with ⟨h1, _⟩ | ⟨_, h2⟩; rw [hf] at h1; cases h1; exact h2⟩⟩
theorem RdTab.nul (w : World) : RdTab w (.agg #[.slice none 0 0, .slice none 0 0]) noT := ⟨⟨_, _, [], rfl, ⟨rdNil _ _, by simp⟩, ⟨rdNil _ _, rfl, by simp⟩⟩⟩
theorem tabU_fits {w : World} {v : Value} {ts : List Tb} (h : RdTabs w v ts) (hu : ∀ t, t ∈ ts -> TabU t) : ∀ t, t ∈ ts -> Fits V.wf t := fun t ht => by
 obtain ⟨j, hj⟩ := List.getElem?_of_mem ht
 obtain ⟨_, _, _, _, _, _, _, _, _, _, _, hr⟩ := h.at hj
 have := hu t ht
 have hw : ∀ r, r ∈ t.rows -> ∀ x, x ∈ r -> V.wf x := by
  obtain ⟨va, vb, hs, he, _, hr⟩ := hr.ex
  intro r hrm
  obtain ⟨i, hi⟩ := List.getElem?_of_mem hrm
  have hlt := (List.getElem?_eq_some_iff.1 hi).1
  have hlen := hr.len
  obtain ⟨hvv, hh⟩ : ∃ x, hs[i]? = some x := ⟨hs[i]'(by omega), List.getElem?_eq_getElem (by omega)⟩
  exact (hr.row i hvv r hh hi).wf
 exact ⟨⟨by have := this.vars; omega, by have := this.rows; omega, fun r hr => by have := this.row r hr; omega⟩, by have := this.rows; omega, hw⟩
theorem RdTabs.below {w : World} {v : Value} {ts : List Tb} (h : RdTabs w v ts) (hp : 0 < ts.length) {g off l c : Nat} (e : v = .slice (some ⟨g, off, none⟩) l c) : g < w.heap.size := by
 obtain ⟨g3, off3, c3, _, _, _, _, hv3, hg3, _⟩ := h.at (j := 0) (List.getElem?_eq_getElem hp)
 rw [hv3] at e
 cases e
 exact hg3
theorem same_refl (t : Tb) : sameB t t = true := by simp [sameB, eqB_true]
end
end Go.Proofs.YtbejmdlncnkaaaaGreat
