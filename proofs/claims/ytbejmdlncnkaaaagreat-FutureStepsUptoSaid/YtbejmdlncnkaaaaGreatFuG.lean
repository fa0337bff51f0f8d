/-
  The reference of the future: its state, as it lies and plainly. The reference of the future: settled, Waits. The reference of the future: the table of a point that is settled.
-/
import Derived.Test.YtbejmdlncnkaaaaGreatFuD
import Derived.Test.YtbejmdlncnkaaaaGreatFuC
import Derived.Test.YtbejmdlncnkaaaaGreatFuF
import Derived.Test.YtbejmdlncnkaaaaGreatRfZ
import Derived.StillTailTactics
set_option maxRecDepth 100000
set_option maxHeartbeats 16000000
set_option linter.unusedSimpArgs false
namespace Go.Proofs.YtbejmdlncnkaaaaGreat
section
open Go.RowKit
structure Hdr (w0 w : World) (v : Value) (ts : List Tb) : Prop where
 ex : ∃ hd : List (Value × Value), w.Sl 34 2 v ts.length (hd.flatMap fun x => [x.1, x.2]) /\ hd.length = ts.length /\ ∀ (i : Nat) (x : Value × Value) (t : Tb), hd[i]? = some x -> ts[i]? = some t -> RdTab w0 (.agg #[x.1, x.2]) t
theorem Hdr.fr {w0 w w' : World} {v : Value} {ts : List Tb} {M : List Nat} (h : Hdr w0 w v ts) (hf : w.Fr w' M) (hd : ∀ k, k ∈ v.blk -> k ∉ M) : Hdr w0 w' v ts := by
 obtain ⟨hs, h1, h2, h3⟩ := h.ex
 exact ⟨hs, h1.fr hf hd, h2, h3⟩
theorem Hdr.still {w0 w w' : World} {v : Value} {ts : List Tb} (h : Hdr w0 w v ts) (hf : w.Fr w' []) : Hdr w0 w' v ts := h.fr hf (by simp)
theorem Hdr.nil (w0 w : World) : Hdr w0 w (.slice none 0 0) [] := ⟨[], World.Sl.nil _ _ _, rfl, by simp⟩
theorem Hdr.shape {w0 w : World} {v : Value} {ts : List Tb} (h : Hdr w0 w v ts) : ∃ a c, v = .slice a ts.length c := by
 obtain ⟨hs, h1, h2, h3⟩ := h.ex
 obtain ⟨a, c, e, _⟩ := h1.shape
 exact ⟨a, c, e⟩
theorem flatH {D : List (Value × Value)} {j : Nat} {d : Value × Value} (h : D[j]? = some d) : (D.flatMap fun x => [x.1, x.2])[j * 2]? = some d.1 /\ (D.flatMap fun x => [x.1, x.2])[j * 2 + 1]? = some d.2 := by
 induction D generalizing j with
 | nil => simp at h
 | cons a t ih =>
  cases j with
  | zero => simp at h; subst h; simp
  | succ j =>
   have h' : t[j]? = some d := by simpa using h
   obtain ⟨i1, i2⟩ := ih h'
   simp only [List.flatMap_cons]
   rw [List.getElem?_append_right (by show 2 <= (j + 1) * 2; omega), List.getElem?_append_right (by show 2 <= (j + 1) * 2 + 1; omega)]
   have e1 : (j + 1) * 2 - [a.1, a.2].length = j * 2 := by simp; omega
   have e2 : (j + 1) * 2 + 1 - [a.1, a.2].length = j * 2 + 1 := by simp; omega
   rw [e1, e2]
   exact ⟨i1, i2⟩
theorem RdTab.forms {w : World} {a b : Value} {t : Tb} (h : RdTab w (.agg #[a, b]) t) : ∃ x1 x2 x3 x4, a = .slice x1 t.vars.length x2 /\ b = .slice x3 t.rows.length x4 := by
 obtain ⟨va, vb, hs, he, hv, hr⟩ := h.ex
 cases he
 obtain ⟨a1, a2, rfl, _, _⟩ := hv.rd.shape
 obtain ⟨a3, a4, rfl, _, _⟩ := hr.rd.shape
 exact ⟨a1, a2, a3, a4, rfl, by rw [hr.len]⟩
theorem Hdr.at {w0 w : World} {v : Value} {ts : List Tb} (h : Hdr w0 w v ts) {j : Nat} {t : Tb} (hj : ts[j]? = some t) : ∃ g off c x1 x2 x3 x4, v = .slice (some ⟨g, off, none⟩) ts.length c /\ g < w.heap.size /\ w.cell? ⟨g, off + j * 2, none⟩ = some (.slice x1 t.vars.length x2) /\ w.cell? ⟨g, off + j * 2 + 1, none⟩ = some (.slice x3 t.rows.length x4) /\ RdTab w0 (.agg #[.slice x1 t.vars.length x2, .slice x3 t.rows.length x4]) t := by
 obtain ⟨hs, h1, h2, h3⟩ := h.ex
 have hl := (List.getElem?_eq_some_iff.1 hj).1
 obtain ⟨x, hx⟩ : ∃ x, hs[j]? = some x := ⟨hs[j]'(by omega), List.getElem?_eq_getElem _⟩
 have hr := h3 j x t hx hj
 obtain ⟨x1, x2, x3, x4, e1, e2⟩ := hr.forms
 obtain ⟨g, off, c, he, _, _, hg, hc, _⟩ := h1.form (by omega)
 obtain ⟨f1, f2⟩ := flatH hx
 have c1 := hc (j * 2) (by omega)
 have c2 := hc (j * 2 + 1) (by omega)
 rw [f1, e1] at c1
 rw [f2, e2] at c2
 rw [e1, e2] at hr
 exact ⟨g, off, c, x1, x2, x3, x4, he, hg, c1, by rw [Nat.add_assoc]; exact c2, hr⟩
theorem Hdr.push {w0 w w' : World} {v v' a b : Value} {ts : List Tb} {t : Tb} (h : Hdr w0 w v ts) (hs : ∀ hd : List (Value × Value), w.Sl 34 2 v ts.length (hd.flatMap fun x => [x.1, x.2]) -> w'.Sl 34 2 v' (ts.length + 1) ((hd.flatMap fun x => [x.1, x.2]) ++ [a, b])) (ht : RdTab w0 (.agg #[a, b]) t) : Hdr w0 w' v' (ts ++ [t]) := by
 obtain ⟨hd, h1, h2, h3⟩ := h.ex
 refine ⟨hd ++ [(a, b)], by simpa using hs hd h1, by simp [h2], fun i x t' e1 e2 => ?_⟩
 rcases Nat.lt_or_ge i hd.length with hi | hi
 ·rw [List.getElem?_append_left hi] at e1
  rw [List.getElem?_append_left (by omega)] at e2
  exact h3 i x t' e1 e2
 ·rw [List.getElem?_append_right hi] at e1
  rw [List.getElem?_append_right (by omega)] at e2
  have hz : i - hd.length = 0 := by have := (List.getElem?_eq_some_iff.1 e1).1; simp at this; omega
  rw [hz] at e1
  rw [show i - ts.length = 0 by omega] at e2
  simp at e1 e2
  subst e1 e2
  exact ht
structure RF where
 kind : Int
 i : Iv
 nt : Bool
 left : List BA
 right : List BA
 T : List Int
 L : List Tb
 R : List Tb
 told : Nat
structure RefF (w0 w : World) (p : Nat) (S : RF) (vl vr vt vL vR : Value) : Prop where
 box : w.heap[p]? = some (.cells (rcells11 S.kind S.i S.nt vl vr vt vL vR S.told) 128 (0, 0))
 nl : NamesIn anyB w vl S.left
 nr : NamesIn anyB w vr S.right
 ts : w.Sl 2 1 vt S.T.length (tms S.T)
 l : Hdr w0 w vL S.L
 r : Hdr w0 w vR S.R
 dj : ∀ k, k ∈ vL.blk -> k ∉ vR.blk
 new : ∀ k, k ∈ p :: (vt.blk ++ (vL.blk ++ vR.blk)) -> w0.heap.size <= k
 fr : w0.Fr w []
theorem RefF.still {w0 w w' : World} {p : Nat} {S : RF} {vl vr vt vL vR : Value} (h : RefF w0 w p S vl vr vt vL vR) (hf : w.Fr w' []) : RefF w0 w' p S vl vr vt vL vR :=
 ⟨hf.heap h.box (by simp), h.nl.still hf, h.nr.still hf, h.ts.fr hf (by simp), h.l.still hf, h.r.still hf, h.dj, h.new, h.fr.trans hf (by simp)⟩
abbrev RF.parts (S : RF) : Int := if S.kind = 16 then 2 else 1
abbrev RF.nx (S : RF) : Bool := decide (S.kind = 12)
def RF.pt (S : RF) (j : Nat) : Sn := ⟨S.T.getD j 0, nilV, nilV, nilV, nilV, if S.parts = 2 then S.L.getD j ⟨[], []⟩ else ⟨[], []⟩, S.R.getD j ⟨[], []⟩⟩
def RF.pts (S : RF) : List Sn := (List.range (S.T.length - S.told)).map fun q => S.pt (S.told + q)
def RF.X (S : RF) : FS := ⟨S.i, S.nt, S.left, S.right, S.pts, S.told, lastI S.T, S.parts, S.nx⟩
structure RfOk (S : RF) : Prop where
 ll : S.L.length = S.T.length
 lr : S.R.length = S.T.length
 told : S.told <= S.T.length
 many : S.T.length <= 1000
 kind : S.kind = 12 ∨ S.kind = 14 ∨ S.kind = 16
 rng : ∀ t, t ∈ S.T -> 0 <= t /\ t <= 1099511627776
theorem RF.pts_len (S : RF) : S.pts.length = S.T.length - S.told := by simp [RF.pts]
theorem RF.pts_at (S : RF) {q : Nat} (h : q < S.T.length - S.told) : S.pts[q]? = some (S.pt (S.told + q)) := by
 unfold RF.pts
 rw [List.getElem?_map, List.getElem?_range h]
 rfl
theorem RF.pt_time (S : RF) {j : Nat} {t : Int} (h : S.T[j]? = some t) : (S.pt j).time = t := by
 show S.T.getD j 0 = t
 rw [List.getD_eq_getElem?_getD, h]
 rfl
theorem RF.pt_tr (S : RF) {j : Nat} {t : Tb} (h : S.R[j]? = some t) : (S.pt j).tr = t := by
 show S.R.getD j ⟨[], []⟩ = t
 rw [List.getD_eq_getElem?_getD, h]
 rfl
theorem RF.pt_tl (S : RF) {j : Nat} {t : Tb} (hp : S.kind = 16) (h : S.L[j]? = some t) : (S.pt j).tl = t := by
 show (if S.parts = 2 then S.L.getD j ⟨[], []⟩ else ⟨[], []⟩) = t
 rw [if_pos (by simp [RF.parts, hp]), List.getD_eq_getElem?_getD, h]
 rfl
def RF.push (S : RF) (n : Int) (a b : Tb) : RF := { S with T := S.T ++ [n], L := S.L ++ [a], R := S.R ++ [b] }
def RF.off (S : RF) : RF := { S with told := S.told + 1 }
theorem RF.off_X (S : RF) (h : S.told < S.T.length) : S.off.X = offF S.X := by
 have hp : S.off.pts = S.pts.drop 1 := by
  refine List.ext_getElem? fun q => ?_
  rw [List.getElem?_drop]
  by_cases hq : q < S.T.length - (S.told + 1)
  ·rw [S.pts_at (q := 1 + q) (by omega), S.off.pts_at (q := q) (by show q < S.T.length - (S.told + 1); exact hq)]
   show some (S.off.pt (S.told + 1 + q)) = some (S.pt (S.told + (1 + q)))
   rw [Nat.add_assoc]
   rfl
  ·rw [List.getElem?_eq_none (by rw [S.off.pts_len]; show S.T.length - (S.told + 1) <= q; omega), List.getElem?_eq_none (by rw [S.pts_len]; omega)]
 show (⟨S.i, S.nt, S.left, S.right, S.off.pts, ((S.told + 1 : Nat) : Int), lastI S.T, S.parts, S.nx⟩ : FS) = _
 rw [hp]
 rfl
theorem RF.push_X (S : RF) (h : RfOk S) (n : Int) (a b : Tb) : (S.push n a b).X = pushF S.X ⟨n, nilV, nilV, nilV, nilV, if S.parts = 2 then a else ⟨[], []⟩, b⟩ := by
 have h1 := h.ll
 have h2 := h.lr
 have h3 := h.told
 have hold : ∀ j, j < S.T.length -> (S.push n a b).pt j = S.pt j := fun j hj => by
  have e1 : (S.T ++ [n]).getD j 0 = S.T.getD j 0 := by rw [List.getD_eq_getElem?_getD, List.getD_eq_getElem?_getD, List.getElem?_append_left hj]
  have e2 : (S.L ++ [a]).getD j ⟨[], []⟩ = S.L.getD j ⟨[], []⟩ := by rw [List.getD_eq_getElem?_getD, List.getD_eq_getElem?_getD, List.getElem?_append_left (by omega)]
  have e3 : (S.R ++ [b]).getD j ⟨[], []⟩ = S.R.getD j ⟨[], []⟩ := by rw [List.getD_eq_getElem?_getD, List.getD_eq_getElem?_getD, List.getElem?_append_left (by omega)]
  show (⟨(S.T ++ [n]).getD j 0, nilV, nilV, nilV, nilV, if S.parts = 2 then (S.L ++ [a]).getD j ⟨[], []⟩ else ⟨[], []⟩, (S.R ++ [b]).getD j ⟨[], []⟩⟩ : Sn) = _
  rw [e1, e2, e3]
  rfl
 have hnew : (S.push n a b).pt S.T.length = ⟨n, nilV, nilV, nilV, nilV, if S.parts = 2 then a else ⟨[], []⟩, b⟩ := by
  have e1 : (S.T ++ [n]).getD S.T.length 0 = n := by simp
  have e2 : (S.L ++ [a]).getD S.T.length ⟨[], []⟩ = a := by rw [<- h1]; simp
  have e3 : (S.R ++ [b]).getD S.T.length ⟨[], []⟩ = b := by rw [<- h2]; simp
  show (⟨(S.T ++ [n]).getD S.T.length 0, nilV, nilV, nilV, nilV, if S.parts = 2 then (S.L ++ [a]).getD S.T.length ⟨[], []⟩ else ⟨[], []⟩, (S.R ++ [b]).getD S.T.length ⟨[], []⟩⟩ : Sn) = _
  rw [e1, e2, e3]
 have hlen : (S.push n a b).T.length = S.T.length + 1 := by simp [RF.push]
 have hp : (S.push n a b).pts = S.pts ++ [⟨n, nilV, nilV, nilV, nilV, if S.parts = 2 then a else ⟨[], []⟩, b⟩] := by
  refine List.ext_getElem? fun q => ?_
  rcases Nat.lt_trichotomy q (S.T.length - S.told) with hq | hq | hq
  ·rw [List.getElem?_append_left (by rw [S.pts_len]; exact hq), S.pts_at hq, (S.push n a b).pts_at (q := q) (by rw [hlen]; show q < S.T.length + 1 - S.told; omega)]
   show some ((S.push n a b).pt (S.told + q)) = _
   rw [hold _ (by omega)]
  ·rw [List.getElem?_append_right (by rw [S.pts_len]; omega), (S.push n a b).pts_at (q := q) (by rw [hlen]; show q < S.T.length + 1 - S.told; omega)]
   rw [S.pts_len, hq, Nat.sub_self]
   show some ((S.push n a b).pt (S.told + (S.T.length - S.told))) = _
   rw [show S.told + (S.T.length - S.told) = S.T.length by omega, hnew]
   rfl
  ·rw [List.getElem?_eq_none (by rw [(S.push n a b).pts_len, hlen]; show S.T.length + 1 - S.told <= q; omega), List.getElem?_eq_none (by simp [S.pts_len]; omega)]
 show (⟨S.i, S.nt, S.left, S.right, (S.push n a b).pts, (S.told : Int), lastI (S.T ++ [n]), S.parts, S.nx⟩ : FS) = _
 rw [hp, lastI_push]
 rfl
theorem RfOk.push {S : RF} (h : RfOk S) (n : Int) (a b : Tb) (hm : S.T.length + 1 <= 1000) (hn : 0 <= n /\ n <= 1099511627776) : RfOk (S.push n a b) :=
 ⟨by simp [RF.push, h.ll], by simp [RF.push, h.lr], by simp [RF.push]; have := h.told; omega, by simp [RF.push]; omega, h.kind, fun t ht => by
  rcases List.mem_append.1 ht with ht | ht
  ·exact h.rng t ht
  ·simp at ht; subst ht; exact hn⟩
theorem RfOk.off {S : RF} (h : RfOk S) (hl : S.told < S.T.length) : RfOk S.off := ⟨h.ll, h.lr, hl, h.many, h.kind, h.rng⟩
end
section
open Go.RowKit
theorem RfOk.time {S : RF} (h : RfOk S) : -1 <= lastI S.T /\ lastI S.T <= 1099511627776 := by
 by_cases h0 : S.T.length = 0
 ·have : S.T = [] := List.eq_nil_of_length_eq_zero h0
  rw [this]
  exact ⟨by decide, by decide⟩
 ·obtain ⟨t, ht⟩ : ∃ t, S.T[S.T.length - 1]? = some t := ⟨S.T[S.T.length - 1]'(by omega), List.getElem?_eq_getElem _⟩
  rw [lastI_at ht]
  have := h.rng t (List.mem_of_getElem? ht)
  omega
theorem settled86 {w0 w : World} {p : Nat} {S : RF} {vl vr vt vL vR : Value} (h : RefF w0 w p S vl vr vt vL vR) (hO : RfOk S) (hlt : S.told < S.T.length) :
  Calls Tryz.prog 86 #[.pointer (some ⟨p, 0, none⟩), .int .i64 S.told] w fun e w' => e = .returned (.bool (settledB S.X (S.pt S.told))) /\ ∃ q, w' = w.drewN q := by
 obtain ⟨R, hR⟩ : ∃ R, settledB S.X (S.pt S.told) = R := ⟨_, rfl⟩
 rw [hR]
 obtain ⟨t, ht⟩ : ∃ t, S.T[S.told]? = some t := ⟨S.T[S.told], List.getElem?_eq_getElem hlt⟩
 have hres : R = if S.kind = 12 then decide (S.told + 1 < S.T.length) else decide (S.i.hi < lastI S.T - t) := by
  rw [<- hR]
  unfold settledB
  have h1 : S.X.nx = decide (S.kind = 12) := rfl
  have h2 : S.X.pts.length = S.T.length - S.told := S.pts_len
  have h3 : (S.pt S.told).time = t := S.pt_time ht
  rw [h1, h2, h3]
  by_cases hk : S.kind = 12
  ·rw [if_pos (by simp [hk]), if_pos hk]
   rw [decide_eq_decide]
   omega
  ·rw [if_neg (by simp [hk]), if_neg hk]
   rfl
 have hl : ∀ m, Calls Tryz.prog 73 #[vt] (w.drewN m) fun e w' => e = .returned (.int .i64 (lastI S.T)) /\ w' = w.drewN m := fun m => (last73 (h.ts.fr ((World.Fr.refl w []).of_drewN m) (by simp)) hO.many).mono fun e w' ⟨a, b⟩ => ⟨a, b.symm⟩
 obtain ⟨g, off, c, rfl, hg, hc⟩ := tms_at h.ts ht
 have htm := hO.time
 have htr := hO.rng t (List.mem_of_getElem? ht)
 have hml := hO.many
 obtain ⟨e0, e1, e2, e3, e4, e5, e6, e7, e8, e9, e10, ef⟩ := eleven h.box
 have hz := lt_of_heap h.box
 obtain ⟨N, hN⟩ : ∃ N, S.T.length = N := ⟨_, rfl⟩
 obtain ⟨o, ho⟩ : ∃ o, S.told = o := ⟨_, rfl⟩
 rw [hN, ho] at hres
 rw [hN] at hl e7 hlt hml
 rw [ho] at hlt e10 hc
 rw [ho]
 obtain ⟨la, hla⟩ : ∃ x, lastI S.T = x := ⟨_, rfl⟩
 rw [hla] at hres hl htm
 have Hl := Hz hl
 clear h hO hR ht hN ho hl hla
 have hoI : (o : Int) < (N : Int) := by omega
 have hon : (0 : Int) <= (o : Int) := by omega
 have hw1 : IntKind.i64.wrap ((o : Int) + 1) = (o : Int) + 1 := IntWalk.i64_in _ (by omega)
 have hw2 : IntKind.i64.wrap (la - t) = la - t := IntWalk.i64_in _ (by omega)
 go_enter Tryz.func86, Tryz.ntmps86
 by_cases hk : S.kind = 12
 ·have hkb : (S.kind == 12) = true := by simp [hk]
  rw [if_pos hk] at hres
  have hd : decide ((o : Int) + 1 < (N : Int)) = R := by rw [hres, decide_eq_decide]; omega
  have Hd := Hz hd
  clear hk hres hd
  go_wp2
  go_ret
  exact ⟨by rw [<- Hd.out]; rfl, 0, rfl⟩
 ·have hkb : (S.kind == 12) = false := by simpa using hk
  rw [if_neg hk] at hres
  clear hk
  have Hres := Hz hres
  clear hres
  go_upto_region 3 with (fail)
  go_quiet (first | (go_at_call 73; exact Calls.quiet_of_same (Hl.out _)))
  go_wp2
  go_ret
  exact ⟨by rw [Hres.out]; rfl, _, rfl⟩
theorem waits39 {w0 w : World} {p : Nat} {S : RF} {vl vr vt vL vR : Value} (h : RefF w0 w p S vl vr vt vL vR) (hO : RfOk S) :
  Calls Tryz.prog 39 #[.pointer (some ⟨p, 0, none⟩)] w fun e w' => e = .returned (.int .i64 S.X.pts.length) /\ ∃ q, w' = w.drewN q := by
 have h2 : S.X.pts.length = S.T.length - S.told := S.pts_len
 rw [h2]
 have h3 := hO.told
 have h4 := hO.many
 obtain ⟨a, c, rfl, _, _⟩ := h.ts.shape
 obtain ⟨e0, e1, e2, e3, e4, e5, e6, e7, e8, e9, e10, ef⟩ := eleven h.box
 have hz := lt_of_heap h.box
 obtain ⟨N, hN⟩ : ∃ N, S.T.length = N := ⟨_, rfl⟩
 obtain ⟨o, ho⟩ : ∃ o, S.told = o := ⟨_, rfl⟩
 rw [hN] at h3 h4 e7
 rw [ho] at h3 e10
 rw [hN, ho]
 have hw : IntKind.i64.wrap ((N : Int) - (o : Int)) = ((N - o : Nat) : Int) := by rw [IntWalk.i64_in _ (by omega)]; omega
 clear h hO h2 hN ho
 go_enter Tryz.func39, Tryz.ntmps39
 go_wp2
 go_quiet (fail)
 go_wp2
 go_ret
 exact ⟨rfl, _, rfl⟩
end
section
open Go.RowKit
def TT (w0 w : World) (v : Value) (t : Tb) : Prop := RdTab w0 v t ∨ SlTab w v t
theorem TT.rd {w0 w : World} {v : Value} {t : Tb} (h : TT w0 w v t) (hf : w0.Fr w []) : RdTab w v t := h.elim (fun h => h.still hf) (fun h => h.rd)
theorem TT.fr {w0 w w' : World} {v : Value} {t : Tb} {M : List Nat} (h : TT w0 w v t) (hf : w.Fr w' M) (hM : Odd w M) : TT w0 w' v t := h.elim .inl (fun h => .inr (h.fr hf hM))
theorem TT.still {w0 w w' : World} {v : Value} {t : Tb} (h : TT w0 w v t) (hf : w.Fr w' []) : TT w0 w' v t := h.elim .inl (fun h => .inr (h.still hf))
theorem finB_in {i : Iv} (h : fivB i = true) (n : Int) : inB n i = finB n i := by
 obtain ⟨_, h1, _⟩ := fivB_iv h
 unfold inB finB
 rw [h1]
 simp
theorem tellF_next {cf : V -> V -> Int} {S : RF} (hk : S.kind = 12) {t t1 : Int} {r1 : Tb} (h0 : S.T[S.told]? = some t) (h1 : S.T[S.told + 1]? = some t1) (hr : S.R[S.told + 1]? = some r1) : tellF cf S.X (S.pt S.told) = if finB (t1 - t) S.i then r1 else ⟨S.right, []⟩ := by
 have hl := (List.getElem?_eq_some_iff.1 h1).1
 have hp : S.X.pts[1]? = some (S.pt (S.told + 1)) := S.pts_at (by omega)
 unfold tellF
 rw [if_pos (show S.X.nx = true by show decide (S.kind = 12) = true; simp [hk]), hp]
 show (if finB ((S.pt (S.told + 1)).time - (S.pt S.told).time) S.i then (S.pt (S.told + 1)).tr else ⟨S.right, []⟩) = _
 rw [S.pt_time h1, S.pt_time h0, S.pt_tr hr]
theorem tellF_until {cf : V -> V -> Int} {S : RF} (hk : S.kind ≠ 12) {t : Int} (h0 : S.T[S.told]? = some t) : tellF cf S.X (S.pt S.told) = untilTo cf S.X t (S.T.length - S.told) := by
 unfold tellF
 rw [if_neg (show ¬ S.X.nx = true by show ¬ decide (S.kind = 12) = true; simp [hk]), S.pt_time h0]
 have : S.X.pts.length = S.T.length - S.told := S.pts_len
 rw [this]
theorem table87 {cf : V -> V -> Int} (hRC : RCtx cf) {w0 w : World} {p : Nat} {S : RF} {vl vr vt vL vR : Value} (h : RefF w0 w p S vl vr vt vL vR) (hO : RfOk S) (hF : FOk cf S.X) (hlt : S.told < S.T.length) (hs : settledB S.X (S.pt S.told) = true) :
  Calls Tryz.prog 87 #[.pointer (some ⟨p, 0, none⟩), .int .i64 S.told] w fun e w' => ∃ v, e = .returned v /\ TT w0 w' v (tellF cf S.X (S.pt S.told)) /\ w.Fr w' [] := by
 obtain ⟨t0, ht0⟩ : ∃ t, S.T[S.told]? = some t := ⟨S.T[S.told], List.getElem?_eq_getElem hlt⟩
 obtain ⟨N, hN⟩ : ∃ N, S.T.length = N := ⟨_, rfl⟩
 obtain ⟨o, ho⟩ : ∃ o, S.told = o := ⟨_, rfl⟩
 have hml := hO.many
 have hnext : S.kind = 12 -> o + 1 < N := fun hk => by
  unfold settledB at hs
  have h1 : S.X.nx = true := by show decide (S.kind = 12) = true; simp [hk]
  have h2 : S.X.pts.length = S.T.length - S.told := S.pts_len
  rw [if_pos h1, h2] at hs
  have := of_decide_eq_true hs
  omega
 obtain ⟨gt, ot, ct, hvt, hgt, kt0⟩ := tms_at h.ts ht0
 rw [hN] at hvt hml hlt
 rw [ho] at kt0 hlt
 obtain ⟨a1, a2, hvr, _, _⟩ := h.nr.sl.shape
 obtain ⟨la, lc, hvL⟩ := h.l.shape
 obtain ⟨ra, rc, hvR⟩ := h.r.shape
 rw [hO.ll, hN] at hvL
 rw [hO.lr, hN] at hvR
 obtain ⟨b1, b2, hvl, _, _⟩ := h.nl.sl.shape
 subst hvt hvr hvL hvR hvl
 have hrng := fun (t : Int) (ht : t ∈ S.T) => hO.rng t ht
 have htr0 := hrng t0 (List.mem_of_getElem? ht0)
 have f4 := (World.Fr.refl w []).alloc (.cells #[.slice none 0 0, .slice none 0 0] 34)
 have q4 := heap_alloc_at w (.cells #[.slice none 0 0, .slice none 0 0] 34) _ rfl
 have hbx := h.box
 rw [ho] at hbx
 have hiv : fivB S.i = true := hF.iv
 have H := Hz h; have HRC := Hz hRC; have HO := Hz hO; have HF := Hz hF; have HN := Hz hN; have Ho := Hz ho; have Ht0 := Hz ht0; have HNext := Hz hnext; have HRng := Hz hrng; have Q4 := Hz q4; have F := Hz f4; have HP := Hz (lt_of_heap hbx); have HBx := Hz hbx; have HIv := Hz hiv; have Kt0 := Hz kt0
 have Hlt := Hz hlt; have Hgt := Hz hgt
 obtain ⟨T, hT⟩ : ∃ T, tellF cf S.X (S.pt S.told) = T := ⟨_, rfl⟩
 rw [hT]
 have HTell := Hz hT
 clear h hRC hO hF hN ht0 hnext hrng q4 f4 hbx hiv hs hT kt0 hgt
 rw [ho]
 clear ho
 go_enter Tryz.func87, Tryz.ntmps87
 go_upto_region 1 with (fail)
 generalize hW : World.alloc w _ = W at *
 clear hW
 generalize hp4 : w.heap.size = p4 at Q4 ⊢
 have HP4 := Hz hp4
 have HZ4 := Hz (lt_of_heap Q4.out)
 clear hp4
 obtain ⟨e0, e1, e2, e3, e4, e5, e6, e7, e8, e9, e10, ef⟩ := eleven (F.out.heap HBx.out (by simp))
 have hzp := lt_of_heap (F.out.heap HBx.out (by simp))
 have k := rempty34 HRC.out.rk HRC.out.rc HRC.out.ord (H.out.nr.rd.fr F.out (by simp)) (by have : S.right.length <= 8 := HF.out.le8.2; omega)
 rw [ofT_none (show S.right.Pairwise _ from HF.out.up) HF.out.le8.2] at k
 have k := Hz k
 go_wp2_with fail
 (with_reducible refine k.out.mono ?_)
 rintro e w1 ⟨u, rfl, ho⟩
 obtain ⟨t1, t2, t3, t4, rfl⟩ := ho.shape
 simp only [List.length_nil] at ho ⊢
 have Q4 := Hz (heap_alloc_some (ho.fr.heap Q4.out (by simp)) (.cells #[.slice t1 S.right.length t2, .slice t3 0 t4] 34))
 have Q5 := Hz (heap_alloc_at w1 (.cells #[.slice t1 S.right.length t2, .slice t3 0 t4] 34) _ rfl)
 have F := Hz (F.out.trans (ho.fr.alloc (.cells #[.slice t1 S.right.length t2, .slice t3 0 t4] 34)) (by simp))
 have O := Hz (ho.stay ((World.Fr.refl w1 []).alloc (.cells #[.slice t1 S.right.length t2, .slice t3 0 t4] 34))).sl
 have H45 : Hid (p4 < w1.heap.size) := Hz (Nat.lt_of_lt_of_le HZ4.out ho.fr.size)
 clear ho k HZ4 e0 e1 e2 e3 e4 e5 e6 e7 e8 e9 e10 ef hzp
 go_upto_region 2 with (fail)
 generalize hW : World.alloc w1 _ = w2 at *
 clear hW
 generalize hp5 : w1.heap.size = p5 at Q5 H45 ⊢
 clear hp5
 have HU0 : Hid (UB w w2 p4 p5 (.slice t1 S.right.length t2) (.slice t3 0 t4) (untilTo cf S.X t0 0)) := Hz ⟨F.out, Q4.out, Q5.out, O.out⟩
 obtain ⟨e0, e1, e2, e3, e4, e5, e6, e7, e8, e9, e10, ef⟩ := eleven (F.out.heap HBx.out (by simp))
 have hzp := lt_of_heap (F.out.heap HBx.out (by simp))
 have kt0 := cellFr F.out Kt0.out (by simp)
 have hgt := Nat.lt_of_lt_of_le Hgt.out F.out.size
 have hoI : (o : Int) < (N : Int) := by have := Hlt.out; omega
 have hon : (0 : Int) <= (o : Int) := by omega
 obtain ⟨o1, ho1⟩ : ∃ k, o + 1 = k := ⟨_, rfl⟩
 have hw1 : IntKind.i64.wrap ((o : Int) + 1) = (o1 : Int) := by rw [IntWalk.i64_in _ (by omega)]; omega
 by_cases hk : S.kind = 12
 ·have hkb : (S.kind == 12) = true := by simp [hk]
  have hln := HNext.out hk
  have htl := fun t (h1 : S.T[o + 1]? = some t) r (hr : S.R[o + 1]? = some r) => tellF_next (cf := cf) hk Ht0.out (by rw [Ho.out]; exact h1) (by rw [Ho.out]; exact hr)
  rw [ho1] at htl hln
  obtain ⟨t1', ht1⟩ : ∃ t, S.T[o1]? = some t := ⟨S.T[o1]'(by have := HN.out; omega), List.getElem?_eq_getElem _⟩
  obtain ⟨r1, hr1⟩ : ∃ t, S.R[o1]? = some t := ⟨S.R[o1]'(by have := HN.out; have := HO.out.lr; omega), List.getElem?_eq_getElem _⟩
  have htell := htl t1' ht1 r1 hr1
  rw [HTell.out] at htell
  obtain ⟨g5, off5, c5, hv5, hg5, k5⟩ := tms_at (H.out.still F.out).ts ht1
  rw [HN.out] at hv5
  cases hv5
  obtain ⟨g6, off6, c6, y1, y2, y3, y4, hv6, hg6, k6, k7, hrd6⟩ := (H.out.still F.out).r.at hr1
  rw [HO.out.lr, HN.out] at hv6
  cases hv6
  have hrt := HRng.out t1' (List.mem_of_getElem? ht1)
  have hw2 : IntKind.i64.wrap (t1' - t0) = t1' - t0 := IntWalk.i64_in _ (by omega)
  have hoI2 : (o1 : Int) < (N : Int) := by omega
  have hon2 : (0 : Int) <= (o1 : Int) := by omega
  have HTl := Hz htell; have HRd := Hz hrd6; have HH := Hz H.out.fr
  clear hk htell ht1 hr1 hrd6 hln htl ho1
  go_upto_region 4 with (fail)
  go_still_tail 14, (by kernel_rfl)
  change wpList _ _ _ _ _ w2.drew
  have hc := in74 (t1' - t0) S.i w2.drew
  have Hc := Hz hc
  clear hc
  go_wp2_with fail
  (with_reducible refine Hc.out.mono ?_)
  rintro e w3 ⟨rfl, fx⟩
  have fx2 := ((World.Fr.refl w2 []).drew).trans fx (by simp)
  have HU := Hz (HU0.out.still fx2)
  have hin := finB_in HIv.out (t1' - t0)
  rw [hin]
  have k6 := cellFr fx2 k6 (by simp)
  have k7 := cellFr fx2 k7 (by simp)
  have hg6 := Nat.lt_of_lt_of_le hg6 fx2.size
  obtain ⟨d0, d1, d2, d3, d4, d5, d6, d7, d8, d9, d10, df⟩ := eleven ((F.out.trans fx2 (by simp)).heap HBx.out (by simp))
  have hzq := lt_of_heap ((F.out.trans fx2 (by simp)).heap HBx.out (by simp))
  obtain ⟨m0, m1, mf⟩ := two HU.out.b4
  obtain ⟨n0, n1, nf⟩ := two HU.out.b5
  have hz4 := lt_of_heap HU.out.b4
  have hz5 := lt_of_heap HU.out.b5
  have FX := Hz (F.out.trans fx2 (by simp))
  clear fx fx2 Hc HU0 hin e0 e1 e2 e3 e4 e5 e6 e7 e8 e9 e10 ef hzp kt0 hgt k5 hg5
  cases hfin : finB (t1' - t0) S.i with
  | true =>
   have hres : T = r1 := by rw [HTl.out, hfin]; rfl
   have h1 := ((World.Fr.refl w3 [p4]).setCell (a := ⟨p4, 0, none⟩) (.inl (by simp)) (.slice y1 r1.vars.length y2)).setCell (a := ⟨p4, 1, none⟩) (.inl (by simp)) (.slice y3 r1.rows.length y4)
   have hfr := FX.out.trans h1 (fun k hk => .inr (by simp at hk; subst hk; exact Nat.le_of_eq HP4.out))
   have hb4 := heap_set_same (heap_set_same HU.out.b4 0 (.slice y1 r1.vars.length y2)) 1 (.slice y3 r1.rows.length y4)
   have Hfin : Hid (TT w0 ((w3.setCell ⟨p4, 0, none⟩ (.slice y1 r1.vars.length y2)).setCell ⟨p4, 1, none⟩ (.slice y3 r1.rows.length y4)) (.agg #[.slice y1 r1.vars.length y2, .slice y3 r1.rows.length y4]) r1 /\ w.Fr ((w3.setCell ⟨p4, 0, none⟩ (.slice y1 r1.vars.length y2)).setCell ⟨p4, 1, none⟩ (.slice y3 r1.rows.length y4)) []) := Hz ⟨.inl HRd.out, hfr⟩
   have Hc4 := Hz (two hb4)
   have HRes := Hz hres
   clear h1 hfr hb4 HU hfin hres
   go_wp2
   obtain ⟨f0, f1, _⟩ := Hc4.out
   refine bodyPost_ret (v := .agg #[.slice y1 r1.vars.length y2, .slice y3 r1.rows.length y4]) (by simp [results, Tryz.results87, go_sem, f0, f1]) rfl ⟨_, rfl, by rw [HRes.out]; exact Hfin.out.1, Hfin.out.2⟩
  | false =>
   have hres : T = ⟨S.right, []⟩ := by rw [HTl.out, hfin]; rfl
   have h1 := ((World.Fr.refl w3 [p4]).setCell (a := ⟨p4, 0, none⟩) (.inl (by simp)) (.slice t1 S.right.length t2)).setCell (a := ⟨p4, 1, none⟩) (.inl (by simp)) (.slice t3 0 t4)
   have hfr := FX.out.trans h1 (fun k hk => .inr (by simp at hk; subst hk; exact Nat.le_of_eq HP4.out))
   have hb4 := heap_set_same (heap_set_same HU.out.b4 0 (.slice t1 S.right.length t2)) 1 (.slice t3 0 t4)
   have Hfin : Hid (TT w0 ((w3.setCell ⟨p4, 0, none⟩ (.slice t1 S.right.length t2)).setCell ⟨p4, 1, none⟩ (.slice t3 0 t4)) (.agg #[.slice t1 S.right.length t2, .slice t3 0 t4]) ⟨S.right, []⟩ /\ w.Fr ((w3.setCell ⟨p4, 0, none⟩ (.slice t1 S.right.length t2)).setCell ⟨p4, 1, none⟩ (.slice t3 0 t4)) []) := Hz ⟨.inr (HU.out.sl.fr h1 (Odd.one HU.out.b4 (by decide))), hfr⟩
   have Hc4 := Hz (two hb4)
   have HRes := Hz hres
   clear h1 hfr hb4 HU hfin hres
   go_wp2
   obtain ⟨f0, f1, _⟩ := Hc4.out
   refine bodyPost_ret (v := .agg #[.slice t1 S.right.length t2, .slice t3 0 t4]) (by simp [results, Tryz.results87, go_sem, f0, f1]) rfl ⟨_, rfl, by rw [HRes.out]; exact Hfin.out.1, Hfin.out.2⟩
 ·have hkb : (S.kind == 12) = false := by simpa using hk
  have htell := tellF_until (cf := cf) hk Ht0.out
  rw [HTell.out, HN.out, Ho.out] at htell
  have HTl := Hz htell; have HH := Hz H.out.fr
  have Hk := Hz hk
  clear htell hk
  go_wp2
  clear hgt kt0
  go_loopw [8] (fun i wr => ∃ (q J : Nat) (xa xb : Value), i = .int .i64 J /\ o + q = J /\ q <= N - o /\ Hid (UB w wr p4 p5 xa xb (untilTo cf S.X t0 q))) (fun i _ => (N - intOf i).toNat)
  case atStart => exact ⟨0, o, _, _, rfl, rfl, Nat.zero_le _, HU0⟩
  case round =>
   obtain ⟨q, J, xa, xb, rfl, hJ, hq, HU⟩ := hrel
   clear HU0 e0 e1 e2 e3 e4 e5 e6 e7 e8 e9 e10 ef hzp
   obtain ⟨q1, q2, q3, q4, rfl, rfl⟩ := HU.out.sl.shape
   obtain ⟨e0, e1, e2, e3, e4, e5, e6, e7, e8, e9, e10, ef⟩ := eleven (HU.out.fr.heap HBx.out (by simp))
   have hzp := lt_of_heap (HU.out.fr.heap HBx.out (by simp))
   have HJ := Hz hJ
   clear hJ
   by_cases hlt : J < N
   ·obtain ⟨tj, htj⟩ : ∃ t, S.T[J]? = some t := ⟨S.T[J]'(by have := HN.out; omega), List.getElem?_eq_getElem _⟩
    obtain ⟨rj, hrj⟩ : ∃ t, S.R[J]? = some t := ⟨S.R[J]'(by have := HN.out; have := HO.out.lr; omega), List.getElem?_eq_getElem _⟩
    have hpt : S.X.pts[q]? = some (S.pt J) := by
     have := S.pts_at (q := q) (by have := HN.out; have := Ho.out; have := HJ.out; omega)
     rw [Ho.out, HJ.out] at this
     exact this
    have hst := untilTo_step (cf := cf) (now := t0) hpt
    rw [S.pt_time htj, S.pt_tr hrj, show S.X.i = S.i from rfl] at hst
    have hkg : Good cf rj /\ rj.vars = S.right /\ rj.rows.length <= 600 := by
     have := HF.out.good _ (List.mem_of_getElem? hpt)
     rw [S.pt_tr hrj] at this
     exact this
    obtain ⟨g5, off5, c5, hv5, hg5, k5⟩ := tms_at (H.out.still HU.out.fr).ts htj
    rw [HN.out] at hv5
    cases hv5
    obtain ⟨g6, off6, c6, y1, y2, y3, y4, hv6, hg6, k6, k7, hrd6⟩ := (H.out.still HU.out.fr).r.at hrj
    rw [HO.out.lr, HN.out] at hv6
    cases hv6
    have hrt := HRng.out tj (List.mem_of_getElem? htj)
    have hw2 : IntKind.i64.wrap (tj - t0) = tj - t0 := IntWalk.i64_in _ (by omega)
    have hJI : (J : Int) < (N : Int) := by omega
    have hJn : (0 : Int) <= (J : Int) := by omega
    have hw3 : IntKind.i64.wrap ((J : Int) + 1) = (J : Int) + 1 := IntWalk.i64_in _ (by omega)
    have Hst := Hz hst; have HRd := Hz hrd6; have HKg := Hz hkg; have Hlt2 := Hz hlt
    clear hst hrd6 hkg htj hrj hpt hlt
    go_upto_region 10 with (fail)
    go_still_tail 13, (by kernel_rfl)
    change wpList _ _ _ _ _ wr.drew
    have hc := in74 (tj - t0) S.i wr.drew
    rw [finB_in HIv.out] at hc
    have Hc := Hz hc
    clear hc
    go_wp2_with fail
    (with_reducible refine Hc.out.mono ?_)
    rintro e w3 ⟨rfl, fx⟩
    have fx2 := ((World.Fr.refl wr []).drew).trans fx (by simp)
    have HU := Hz (HU.out.still fx2)
    have k6 := cellFr fx2 k6 (by simp)
    have k7 := cellFr fx2 k7 (by simp)
    have hg6 := Nat.lt_of_lt_of_le hg6 fx2.size
    clear fx fx2 Hc e0 e1 e2 e3 e4 e5 e6 e7 e8 e9 e10 ef hzp k5 hg5
    obtain ⟨e0, e1, e2, e3, e4, e5, e6, e7, e8, e9, e10, ef⟩ := eleven (HU.out.fr.heap HBx.out (by simp))
    have hzp := lt_of_heap (HU.out.fr.heap HBx.out (by simp))
    cases hin : finB (tj - t0) S.i with
    | false =>
     have hst := Hst.out
     rw [hin, if_neg (by simp)] at hst
     rw [<- hst] at HU
     clear hin hst Hst
     go_wp2
     go_roundw
     case rel => exact ⟨q + 1, J + 1, _, _, by go_num, by have := HJ.out; omega, by have := Hlt2.out; have := HJ.out; omega, HU⟩
     case measure => simp [intOf]; have := Hlt2.out; omega
    | true =>
     have hst := Hst.out
     rw [hin, if_pos rfl] at hst
     have HSt := Hz hst
     clear hin hst Hst
     have f9 := (World.Fr.refl w3 []).alloc (.cells #[.slice y1 rj.vars.length y2, .slice y3 rj.rows.length y4] 34)
     have q9 := heap_alloc_at w3 (.cells #[.slice y1 rj.vars.length y2, .slice y3 rj.rows.length y4] 34) _ rfl
     have H49 := Hz (show p4 < w3.heap.size /\ p5 < w3.heap.size from ⟨lt_of_heap HU.out.b4, lt_of_heap HU.out.b5⟩)
     have HU := Hz (HU.out.still f9); have Q9 := Hz q9
     clear f9 q9
     go_upto_region 12 with (fail)
     generalize hWW : World.alloc w3 _ = w7 at *
     clear hWW k6 k7 hg6
     generalize w3.heap.size = p9 at *
     clear e0 e1 e2 e3 e4 e5 e6 e7 e8 e9 e10 ef hzp
     have HI0 : Hid (UB w w7 p4 p5 (.slice q1 (untilTo cf S.X t0 q).vars.length q2) (.slice q3 (untilTo cf S.X t0 q).rows.length q4) (untilTo cf S.X t0 q) /\ w7.heap[p9]? = some (.cells #[.slice y1 rj.vars.length y2, .slice y3 rj.rows.length y4] 34 (0, 0)) /\ TT w0 w7 (.agg #[.slice y1 rj.vars.length y2, .slice y3 rj.rows.length y4]) (heldU cf S.X rj ((S.X.pts.take q).take 0))) := Hz ⟨HU.out, Q9.out, by
      have : heldU cf S.X rj ((S.X.pts.take q).take 0) = rj := by
       rw [List.take_zero]
       unfold heldU
       split <;> rfl
      rw [this]
      exact .inl HRd.out⟩
     clear HU Q9
     obtain ⟨d0, d1, d2, d3, d4, d5, d6, d7, d8, d9, d10, df⟩ := eleven (HI0.out.1.fr.heap HBx.out (by simp))
     have hzq := lt_of_heap (HI0.out.1.fr.heap HBx.out (by simp))
     go_wp2
     go_loopw [10] (fun i wr => ∃ (m K : Nat) (ya yb : Value), i = .int .i64 K /\ o + m = K /\ m <= q /\ Hid (UB w wr p4 p5 (.slice q1 (untilTo cf S.X t0 q).vars.length q2) (.slice q3 (untilTo cf S.X t0 q).rows.length q4) (untilTo cf S.X t0 q) /\ wr.heap[p9]? = some (.cells #[ya, yb] 34 (0, 0)) /\ TT w0 wr (.agg #[ya, yb]) (heldU cf S.X rj ((S.X.pts.take q).take m)))) (fun i _ => (J - intOf i).toNat)
     case atStart => exact ⟨0, o, _, _, rfl, rfl, Nat.zero_le _, HI0⟩
     case round =>
      obtain ⟨m, K, ya, yb, rfl, hK, hm, HI2⟩ := hrel
      clear HI0 d0 d1 d2 d3 d4 d5 d6 d7 d8 d9 d10 df hzq
      obtain ⟨r1, r2, r3, r4, rfl, rfl⟩ := (HI2.out.2.2.rd (HH.out.trans HI2.out.1.fr (by simp))).forms
      obtain ⟨e0, e1, e2, e3, e4, e5, e6, e7, e8, e9, e10, ef⟩ := eleven (HI2.out.1.fr.heap HBx.out (by simp))
      have hzp := lt_of_heap (HI2.out.1.fr.heap HBx.out (by simp))
      have HKK := Hz hK
      clear hK
      by_cases hmj : m < q
      ·have hd : decide ((K : Int) < (J : Int)) = true := decide_eq_true (by have := HKK.out; have := HJ.out; omega)
       have hd2 : decide (K < J) = true := decide_eq_true (by have := HKK.out; have := HJ.out; omega)
       by_cases hk16 : S.kind = 16
       ·have hk16b : (S.kind == 16) = true := by simp [hk16]
        obtain ⟨lk, hlk⟩ : ∃ t, S.L[K]? = some t := ⟨S.L[K]'(by have := HN.out; have := HO.out.ll; have := HKK.out; have := HJ.out; have := Hlt2.out; omega), List.getElem?_eq_getElem _⟩
        have hpm : S.X.pts[m]? = some (S.pt K) := by
         have := S.pts_at (q := m) (by have := HN.out; have := Ho.out; have := HJ.out; have := Hlt2.out; omega)
         rw [Ho.out, HKK.out] at this
         exact this
        have hq2 : (S.X.pts.take q)[m]? = some (S.pt K) := by rw [List.getElem?_take, if_pos hmj]; exact hpm
        have hp2 : S.X.parts = 2 := by show (if S.kind = 16 then (2 : Int) else 1) = 2; rw [if_pos hk16]
        have hqg := HF.out.goodl hp2 _ (List.mem_of_getElem? hpm)
        rw [S.pt_tl hk16 hlk] at hqg
        have hhg := heldU_good HRC.out.ord HF.out (t := rj) HKg.out ((S.X.pts.take q).take m) (fun k hk => List.mem_of_mem_take (List.mem_of_mem_take hk))
        have hstep := heldU_step (cf := cf) (t := rj) hp2 hq2
        rw [S.pt_tl hk16 hlk, show S.X.nt = S.nt from rfl] at hstep
        obtain ⟨g8, off8, c8, z1, z2, z3, z4, hv8, hg8, k8, k9, hrd8⟩ := (H.out.still HI2.out.1.fr).l.at hlk
        rw [HO.out.ll, HN.out] at hv8
        cases hv8
        have hKI : (K : Int) < (N : Int) := by have := HKK.out; have := HJ.out; have := Hlt2.out; omega
        have hKn : (0 : Int) <= (K : Int) := by omega
        have hw4 : IntKind.i64.wrap ((K : Int) + 1) = (K : Int) + 1 := IntWalk.i64_in _ (by omega)
        have hc := held75 (nt := S.nt) HRC.out (HI2.out.2.2.rd (HH.out.trans HI2.out.1.fr (by simp)) |>.still (World.Fr.refl wr []).drew) (hrd8.still (HH.out.trans (HI2.out.1.fr.trans (World.Fr.refl wr []).drew (by simp)) (by simp))) (hhg.1.fits (by have := hhg.2.2; omega)) (hqg.1.fits (by have := hqg.2.2; omega)) (Nat.le_trans (Nat.mul_le_mul hhg.2.2 hqg.2.2) (by decide))
        rw [<- hstep] at hc
        obtain ⟨T', hT'⟩ : ∃ T, heldU cf S.X rj ((S.X.pts.take q).take (m + 1)) = T := ⟨_, rfl⟩
        rw [hT'] at hc
        have Hc := Hz hc; have HT' := Hz hT'
        obtain ⟨n0, n1, nf⟩ := two HI2.out.2.1
        have hz9 := lt_of_heap HI2.out.2.1
        clear hc hT' hstep hhg hqg hq2 hpm hlk hrd8 hp2 hk16
        go_upto_region 15 with (fail)
        go_still_tail 12, (by kernel_rfl)
        change wpList _ _ _ _ _ wr.drew
        go_wp2_with fail
        (with_reducible refine Hc.out.mono ?_)
        rintro e w12 ⟨v, rfl, ho⟩
        obtain ⟨u1, u2, u3, u4, rfl⟩ := ho.shape
        have hfo := ((World.Fr.refl wr []).drew).trans ho.fr (by simp)
        have q9b := hfo.heap HI2.out.2.1 (by simp)
        have h1 := ((World.Fr.refl w12 [p9]).setCell (a := ⟨p9, 0, none⟩) (.inl (by simp)) (.slice u1 T'.vars.length u2)).setCell (a := ⟨p9, 1, none⟩) (.inl (by simp)) (.slice u3 T'.rows.length u4)
        have HI3 : Hid (UB w ((w12.setCell ⟨p9, 0, none⟩ (.slice u1 T'.vars.length u2)).setCell ⟨p9, 1, none⟩ (.slice u3 T'.rows.length u4)) p4 p5 (.slice q1 (untilTo cf S.X t0 q).vars.length q2) (.slice q3 (untilTo cf S.X t0 q).rows.length q4) (untilTo cf S.X t0 q) /\ ((w12.setCell ⟨p9, 0, none⟩ (.slice u1 T'.vars.length u2)).setCell ⟨p9, 1, none⟩ (.slice u3 T'.rows.length u4)).heap[p9]? = some (.cells #[.slice u1 T'.vars.length u2, .slice u3 T'.rows.length u4] 34 (0, 0)) /\ TT w0 ((w12.setCell ⟨p9, 0, none⟩ (.slice u1 T'.vars.length u2)).setCell ⟨p9, 1, none⟩ (.slice u3 T'.rows.length u4)) (.agg #[.slice u1 T'.vars.length u2, .slice u3 T'.rows.length u4]) (heldU cf S.X rj ((S.X.pts.take q).take (m + 1)))) := Hz
         ⟨(HI2.out.1.still hfo).off h1 q9b (by have := H49.out; omega) (by have := H49.out; omega) (by have := H49.out; have := HP4.out; omega), heap_set_same (heap_set_same q9b 0 _) 1 _, by rw [HT'.out]; exact .inr (ho.sl.fr h1 (Odd.one q9b (by decide)))⟩
        obtain ⟨d0, d1, d2, d3, d4, d5, d6, d7, d8, d9, d10, df⟩ := eleven ((HI2.out.1.fr.trans hfo (by simp)).heap HBx.out (by simp))
        have hzq := lt_of_heap ((HI2.out.1.fr.trans hfo (by simp)).heap HBx.out (by simp))
        clear n0 n1 nf hz9
        obtain ⟨n0, n1, nf⟩ := two q9b
        have hz9 := lt_of_heap q9b
        clear ho h1 q9b Hc HI2 hfo e0 e1 e2 e3 e4 e5 e6 e7 e8 e9 e10 ef hzp k8 k9 hg8
        go_wp2
        go_roundw
        case rel => exact ⟨m + 1, K + 1, _, _, by go_num, by have := HKK.out; omega, by omega, HI3⟩
        case measure => simp [intOf]; have := HKK.out; have := HJ.out; omega
       ·have hk16b : (S.kind == 16) = false := by simpa using hk16
        have hp1 : S.X.parts = 1 := by show (if S.kind = 16 then (2 : Int) else 1) = 1; rw [if_neg hk16]
        have hheld : heldU cf S.X rj ((S.X.pts.take q).take m) = heldU cf S.X rj (S.X.pts.take q) := by rw [heldU_one hp1, heldU_one hp1]
        clear hp1 hk16
        have hI2 := HI2.out
        rw [hheld] at hI2
        obtain ⟨G, hG⟩ : ∃ G, heldU cf S.X rj (S.X.pts.take q) = G := ⟨_, rfl⟩
        have hgg := heldU_good HRC.out.ord HF.out (t := rj) HKg.out (S.X.pts.take q) (fun k hk => List.mem_of_mem_take hk)
        have hug := untilTo_good HRC.out.ord HF.out (now := t0) q
        have hbnd : (untilTo cf S.X t0 q).rows.length <= 600000 := Nat.le_trans hug.2.2 (Nat.le_trans (Nat.mul_le_mul_right 600 (show q <= 1000 by omega)) (by decide))
        rw [hG] at hI2 hgg
        have hun := runion43 HRC.out.rk HRC.out.rc HRC.out.ord hI2.1.sl.rd (hI2.2.2.rd (HH.out.trans hI2.1.fr (by simp))) (hug.1.fits (by omega)) (hgg.1.fits (by have := hgg.2.2; omega)) (by have := hgg.2.2; omega)
        have hst := HSt.out
        rw [hG] at hst
        rw [<- hst] at hun
        obtain ⟨nn, hnn⟩ : ∃ n, (unionT cf (untilTo cf S.X t0 q) G).1 = n := ⟨_, rfl⟩
        rw [hnn] at hun
        obtain ⟨T', hT'⟩ : ∃ T, untilTo cf S.X t0 (q + 1) = T := ⟨_, rfl⟩
        rw [hT'] at hun
        obtain ⟨U, hU⟩ : ∃ U, untilTo cf S.X t0 q = U := ⟨_, rfl⟩
        rw [hU] at hI2 hun
        obtain ⟨n0, n1, nf⟩ := two hI2.1.b5
        obtain ⟨m0, m1, mf⟩ := two hI2.2.1
        have hz5 := lt_of_heap hI2.1.b5
        have hz9 := lt_of_heap hI2.2.1
        have Hc := Hz hun; have HT' := Hz hT'; have HI4 := Hz hI2
        clear hun hst hnn hT' hug hgg hbnd hI2 hU hG HI2 HSt hheld
        go_wp2_with fail
        (with_reducible refine Hc.out.mono ?_)
        rintro e w12 ⟨v, rfl, ho⟩
        obtain ⟨u1, u2, u3, u4, rfl⟩ := ho.shape
        have hub := HI4.out.1.still ho.fr
        have h1 := ((World.Fr.refl w12 [p5]).setCell (a := ⟨p5, 0, none⟩) (.inl (by simp)) (.slice u1 T'.vars.length u2)).setCell (a := ⟨p5, 1, none⟩) (.inl (by simp)) (.slice u3 T'.rows.length u4)
        have HIn : Hid (UB w ((w12.setCell ⟨p5, 0, none⟩ (.slice u1 T'.vars.length u2)).setCell ⟨p5, 1, none⟩ (.slice u3 T'.rows.length u4)) p4 p5 (.slice u1 T'.vars.length u2) (.slice u3 T'.rows.length u4) (untilTo cf S.X t0 (q + 1))) := Hz
         ⟨hub.fr.trans h1 (fun k hk => .inr (by simp at hk; subst hk; have := H45.out; have := HP4.out; omega)), h1.heap hub.b4 (by simp; have := H45.out; omega), heap_set_same (heap_set_same hub.b5 0 _) 1 _, by rw [HT'.out]; exact ho.sl.fr h1 (Odd.one hub.b5 (by decide))⟩
        obtain ⟨d0, d1, d2, d3, d4, d5, d6, d7, d8, d9, d10, df⟩ := eleven (hub.fr.heap HBx.out (by simp))
        have hzq := lt_of_heap (hub.fr.heap HBx.out (by simp))
        clear n0 n1 nf hz5
        obtain ⟨n0, n1, nf⟩ := two hub.b5
        have hz5 := lt_of_heap hub.b5
        clear ho h1 hub Hc HI4 m0 m1 mf hz9 e0 e1 e2 e3 e4 e5 e6 e7 e8 e9 e10 ef hzp
        go_wp2
        go_roundw
        case rel => exact ⟨q + 1, J + 1, _, _, by go_num, by have := HJ.out; omega, by have := Hlt2.out; have := HJ.out; omega, HIn⟩
        case measure => simp [intOf]; have := Hlt2.out; omega
      ·have hd : decide ((K : Int) < (J : Int)) = false := decide_eq_false (by have := HKK.out; have := HJ.out; omega)
       have hd2 : decide (K < J) = false := decide_eq_false (by have := HKK.out; have := HJ.out; omega)
       have hheld : heldU cf S.X rj ((S.X.pts.take q).take m) = heldU cf S.X rj (S.X.pts.take q) := by rw [show m = q by omega, List.take_take, Nat.min_self]
       have hI2 := HI2.out
       rw [hheld] at hI2
       obtain ⟨G, hG⟩ : ∃ G, heldU cf S.X rj (S.X.pts.take q) = G := ⟨_, rfl⟩
       have hgg := heldU_good HRC.out.ord HF.out (t := rj) HKg.out (S.X.pts.take q) (fun k hk => List.mem_of_mem_take hk)
       have hug := untilTo_good HRC.out.ord HF.out (now := t0) q
       have hbnd : (untilTo cf S.X t0 q).rows.length <= 600000 := Nat.le_trans hug.2.2 (Nat.le_trans (Nat.mul_le_mul_right 600 (show q <= 1000 by omega)) (by decide))
       rw [hG] at hI2 hgg
       have hun := runion43 HRC.out.rk HRC.out.rc HRC.out.ord hI2.1.sl.rd (hI2.2.2.rd (HH.out.trans hI2.1.fr (by simp))) (hug.1.fits (by omega)) (hgg.1.fits (by have := hgg.2.2; omega)) (by have := hgg.2.2; omega)
       have hst := HSt.out
       rw [hG] at hst
       rw [<- hst] at hun
       obtain ⟨nn, hnn⟩ : ∃ n, (unionT cf (untilTo cf S.X t0 q) G).1 = n := ⟨_, rfl⟩
       rw [hnn] at hun
       obtain ⟨T', hT'⟩ : ∃ T, untilTo cf S.X t0 (q + 1) = T := ⟨_, rfl⟩
       rw [hT'] at hun
       obtain ⟨U, hU⟩ : ∃ U, untilTo cf S.X t0 q = U := ⟨_, rfl⟩
       rw [hU] at hI2 hun
       obtain ⟨n0, n1, nf⟩ := two hI2.1.b5
       obtain ⟨m0, m1, mf⟩ := two hI2.2.1
       have hz5 := lt_of_heap hI2.1.b5
       have hz9 := lt_of_heap hI2.2.1
       have Hc := Hz hun; have HT' := Hz hT'; have HI4 := Hz hI2
       clear hun hst hnn hT' hug hgg hbnd hI2 hU hG HI2 HSt hheld
       go_wp2_with fail
       (with_reducible refine Hc.out.mono ?_)
       rintro e w12 ⟨v, rfl, ho⟩
       obtain ⟨u1, u2, u3, u4, rfl⟩ := ho.shape
       have hub := HI4.out.1.still ho.fr
       have h1 := ((World.Fr.refl w12 [p5]).setCell (a := ⟨p5, 0, none⟩) (.inl (by simp)) (.slice u1 T'.vars.length u2)).setCell (a := ⟨p5, 1, none⟩) (.inl (by simp)) (.slice u3 T'.rows.length u4)
       have HIn : Hid (UB w ((w12.setCell ⟨p5, 0, none⟩ (.slice u1 T'.vars.length u2)).setCell ⟨p5, 1, none⟩ (.slice u3 T'.rows.length u4)) p4 p5 (.slice u1 T'.vars.length u2) (.slice u3 T'.rows.length u4) (untilTo cf S.X t0 (q + 1))) := Hz
        ⟨hub.fr.trans h1 (fun k hk => .inr (by simp at hk; subst hk; have := H45.out; have := HP4.out; omega)), h1.heap hub.b4 (by simp; have := H45.out; omega), heap_set_same (heap_set_same hub.b5 0 _) 1 _, by rw [HT'.out]; exact ho.sl.fr h1 (Odd.one hub.b5 (by decide))⟩
       obtain ⟨d0, d1, d2, d3, d4, d5, d6, d7, d8, d9, d10, df⟩ := eleven (hub.fr.heap HBx.out (by simp))
       have hzq := lt_of_heap (hub.fr.heap HBx.out (by simp))
       clear n0 n1 nf hz5
       obtain ⟨n0, n1, nf⟩ := two hub.b5
       have hz5 := lt_of_heap hub.b5
       clear ho h1 hub Hc HI4 m0 m1 mf hz9 e0 e1 e2 e3 e4 e5 e6 e7 e8 e9 e10 ef hzp
       go_wp2
       go_roundw
       case rel => exact ⟨q + 1, J + 1, _, _, by go_num, by have := HJ.out; omega, by have := Hlt2.out; have := HJ.out; omega, HIn⟩
       case measure => simp [intOf]; have := Hlt2.out; omega
   ·have hd : decide ((J : Int) < (N : Int)) = false := decide_eq_false (by omega)
    have hd2 : decide (J < N) = false := decide_eq_false hlt
    obtain rfl : q = N - o := by have := HJ.out; omega
    generalize hX : untilTo cf S.X t0 (N - o) = X at *
    have HX : Hid (T = X) := Hz HTl.out
    have h1 := ((World.Fr.refl wr [p4]).setCell (a := ⟨p4, 0, none⟩) (.inl (by simp)) (.slice q1 X.vars.length q2)).setCell (a := ⟨p4, 1, none⟩) (.inl (by simp)) (.slice q3 X.rows.length q4)
    have hfin := HU.out.sl.fr h1 (Odd.one HU.out.b4 (by decide))
    have hfr := HU.out.fr.trans h1 (fun k hk => .inr (by simp at hk; subst hk; exact Nat.le_of_eq HP4.out))
    have hb4 := heap_set_same (heap_set_same HU.out.b4 0 (.slice q1 X.vars.length q2)) 1 (.slice q3 X.rows.length q4)
    obtain ⟨m0, m1, mf⟩ := two HU.out.b4
    obtain ⟨n0, n1, nf⟩ := two HU.out.b5
    have hz4 := lt_of_heap HU.out.b4
    have hz5 := lt_of_heap HU.out.b5
    have Hfin : Hid (TT w0 ((wr.setCell ⟨p4, 0, none⟩ (.slice q1 X.vars.length q2)).setCell ⟨p4, 1, none⟩ (.slice q3 X.rows.length q4)) (.agg #[.slice q1 X.vars.length q2, .slice q3 X.rows.length q4]) X /\ w.Fr ((wr.setCell ⟨p4, 0, none⟩ (.slice q1 X.vars.length q2)).setCell ⟨p4, 1, none⟩ (.slice q3 X.rows.length q4)) []) := Hz ⟨.inr hfin, hfr⟩
    have Hc4 := Hz (two hb4)
    clear h1 hfin hfr hb4 HU hlt hq hX
    go_wp2
    obtain ⟨f0, f1, _⟩ := Hc4.out
    refine bodyPost_ret (v := .agg #[.slice q1 X.vars.length q2, .slice q3 X.rows.length q4]) (by simp [results, Tryz.results87, go_sem, f0, f1]) rfl ⟨_, rfl, by rw [HX.out]; exact Hfin.out.1, Hfin.out.2⟩
end
end Go.Proofs.YtbejmdlncnkaaaaGreat
