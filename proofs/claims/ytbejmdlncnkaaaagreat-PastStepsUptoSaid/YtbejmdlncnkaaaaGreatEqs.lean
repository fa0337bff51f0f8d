/-
  The walks of slices.Equal of rows, slices.EqualFunc of tables' rows, table.Same, table.Has. The walks of table.Same, table.Has. The walks over lists of names: slices.Index, Contains, Clone, table.places. The walks of table.places, slices.Clone of names.
-/
import Derived.Test.YtbejmdlncnkaaaaGreatChk
set_option maxRecDepth 100000
set_option maxHeartbeats 16000000
set_option linter.unusedSimpArgs false
namespace Go.Proofs.YtbejmdlncnkaaaaGreat
section
open Go.RowKit
open Classical in
noncomputable def eqB {α : Type} (a b : α) : Bool := decide (a = b)
theorem eqB_true {α : Type} {a b : α} (h : a = b) : eqB a b = true := by unfold eqB; simp [h]
theorem eqB_false {α : Type} {a b : α} (h : a ≠ b) : eqB a b = false := by unfold eqB; simp [h]
theorem toList_inj {a b : BA} (h : a.toList = b.toList) : a = b := by
 rw [ByteArray.toList_eq, ByteArray.toList_eq] at h
 cases a with | mk a => cases b with | mk b => simp at h; rw [h]
theorem eq_of_get {α : Type} {r s : List α} (hl : r.length = s.length) (h : ∀ (i : Nat) (a b : α), r[i]? = some a -> s[i]? = some b -> a = b) : r = s := by
 apply List.ext_getElem? 
 intro i
 rcases Nat.lt_or_ge i r.length with hi | hi
 ·have h1 := List.getElem?_eq_getElem hi
  have h2 := List.getElem?_eq_getElem (l := s) (i := i) (by omega)
  rw [h1, h2, h i _ _ h1 h2]
 ·rw [List.getElem?_eq_none hi, List.getElem?_eq_none (by omega)]
theorem V.differ {x y : V} (h : x ≠ y) : (x.k == y.k) = false ∨ (x.k = y.k /\ (x.n == y.n) = false) ∨ (x.k = y.k /\ x.n = y.n /\ (x.d == y.d) = false) ∨ (x.k = y.k /\ x.n = y.n /\ x.d = y.d /\ (x.s.toList == y.s.toList) = false) := by
 by_cases h1 : x.k = y.k
 ·by_cases h2 : x.n = y.n
  ·by_cases h3 : x.d = y.d
   ·refine .inr (.inr (.inr ⟨h1, h2, h3, beq_eq_false_iff_ne.2 fun h4 => h ?_⟩))
    have h5 := toList_inj h4
    cases x; cases y; simp_all
   ·exact .inr (.inr (.inl ⟨h1, h2, beq_eq_false_iff_ne.2 h3⟩))
  ·exact .inr (.inl ⟨h1, beq_eq_false_iff_ne.2 h2⟩)
 ·exact .inl (beq_eq_false_iff_ne.2 h1)
theorem equal59 {w : World} {v1 v2 : Value} {r s : Row} (h1 : RdRow w v1 r) (h2 : RdRow w v2 s) (hl : r.length <= 8000000000000000000) :
  Calls Tryz.prog 111 #[v1, v2] w fun e w' => e = .returned (.bool (eqB r s)) /\ w.Fr w' [] := by
 obtain ⟨a1, c1, rfl, _, _⟩ := h1.rd.shape
 obtain ⟨a2, c2, rfl, _, _⟩ := h2.rd.shape
 have H1 := Hz h1; have H2 := Hz h2; have Hl := Hz hl; clear h1 h2 hl
 generalize hR : eqB r s = R
 have HR := Hz hR; clear hR
 by_cases hn : r.length = s.length
 ·have Hn := Hz hn
  rw [<- hn] at H2 ⊢
  clear hn
  have hbb : ((r.length : Int) != (r.length : Int)) = false := by simp
  go_enter Tryz.func111, Tryz.ntmps111
  go_wp2
  go_loopw [13] (fun i wr => ∃ j : Nat, i = .int .i64 j /\ j <= r.length /\ Hid (∀ (i : Nat) (a b : V), i < j -> r[i]? = some a -> s[i]? = some b -> a = b) /\ Hid (w.Fr wr [])) (fun i _ => (r.length - intOf i).toNat)
  case atStart => exact ⟨0, rfl, Nat.zero_le _, Hz (fun i a b hi => by omega), Hz (World.Fr.refl w [])⟩
  case round =>
   obtain ⟨j, rfl, hj, HA, HF⟩ := hrel
   by_cases hlt : j < r.length
   ·obtain ⟨x, hx⟩ : ∃ x, r[j]? = some x := ⟨r[j], List.getElem?_eq_getElem (by omega)⟩
    obtain ⟨y, hy⟩ : ∃ y, s[j]? = some y := ⟨s[j]'(by have := Hn.out; omega), List.getElem?_eq_getElem (by have := Hn.out; omega)⟩
    obtain ⟨g, off, c, hv, hg, kx0, kx1, kx2, kx3⟩ := (H1.out.fr HF.out (by simp)).at hx
    have h2' := H2.out.fr HF.out (by simp)
    rw [Hn.out] at h2'
    obtain ⟨g2, off2, c2', hv2, hg2, ky0, ky1, ky2, ky3⟩ := h2'.at hy
    cases hv; cases hv2
    have hrI : (j : Int) < (r.length : Int) := by omega
    have hw1 : IntKind.i64.wrap ((j : Int) + 1) = (j : Int) + 1 := IntWalk.i64_in _ (by have := Hl.out; omega)
    have Hx := Hz hx; have Hy := Hz hy; clear hx hy h2'
    by_cases hxy : x = y
    ·subst hxy
     have hbs : (x.s.toList == x.s.toList) = true := beq_self_eq_true _
     go_wp2
     go_quiet (fail)
     go_wp2
     go_roundw
     case rel => exact ⟨j + 1, by go_num, by omega, Hz (fun k a b hk ha hb => by
      rcases Nat.lt_or_ge k j with h | h
      ·exact HA.out k a b h ha hb
      ·obtain rfl : k = j := by omega
       rw [Hx.out] at ha; rw [Hy.out] at hb
       cases ha; cases hb; rfl), Hz (HF.out.of_drewN _)⟩
     case measure => simp [intOf]; omega
    ·have hres : R = false := by
      rw [<- HR.out]
      exact eqB_false (fun h => hxy (by have := Hx.out; rw [h, Hy.out] at this; injection this with this; exact this.symm))
     subst hres
     obtain ⟨x1, x2, x3, x4⟩ := x
     obtain ⟨y1, y2, y3, y4⟩ := y
     have hdiff := V.differ hxy
     simp only at hdiff kx0 kx1 kx2 kx3 ky0 ky1 ky2 ky3
     clear hxy Hx Hy HR HA
     rcases hdiff with hb | ⟨rfl, hb⟩ | ⟨rfl, rfl, hb⟩ | ⟨rfl, rfl, rfl, hb⟩
     all_goals
      go_wp2
      go_quiet (fail)
      go_wp2
      go_ret
      exact ⟨rfl, HF.out.of_drewN _⟩
   ·have hres : R = true := by
     rw [<- HR.out]
     exact eqB_true (eq_of_get Hn.out (fun i a b ha hb => HA.out i a b (by have := (List.getElem?_eq_some_iff.1 ha).1; omega) ha hb))
    have hd : decide ((j : Int) < (r.length : Int)) = false := decide_eq_false (by omega)
    have hd2 : decide (j < r.length) = false := decide_eq_false hlt
    subst hres
    clear HA hlt hj HR
    go_wp2
    go_ret
    exact ⟨rfl, HF.out⟩
 ·have hres : R = false := by rw [<- HR.out]; exact eqB_false (fun h => hn (by rw [h]))
  subst hres
  have hbb : ((r.length : Int) == (s.length : Int)) = false := beq_eq_false_iff_ne.2 (by omega)
  have hbc : ((r.length : Int) != (s.length : Int)) = true := by simp; omega
  clear hn HR
  go_enter Tryz.func111, Tryz.ntmps111
  go_wp2
  go_ret
  exact ⟨rfl, World.Fr.refl w []⟩
theorem equal56 {w : World} {v1 v2 : Value} {r s : List BA} (h1 : RdStr w v1 r) (h2 : RdStr w v2 s) (hl : r.length <= 8000000000000000000) :
  Calls Tryz.prog 106 #[v1, v2] w fun e w' => e = .returned (.bool (eqB r s)) /\ w.Fr w' [] := by
 obtain ⟨a1, c1, rfl, _, _⟩ := h1.rd.shape
 obtain ⟨a2, c2, rfl, _, _⟩ := h2.rd.shape
 have H1 := Hz h1; have H2 := Hz h2; have Hl := Hz hl; clear h1 h2 hl
 generalize hR : eqB r s = R
 have HR := Hz hR; clear hR
 by_cases hn : r.length = s.length
 ·have Hn := Hz hn
  rw [<- hn] at H2 ⊢
  clear hn
  have hbb : ((r.length : Int) != (r.length : Int)) = false := by simp
  go_enter Tryz.func106, Tryz.ntmps106
  go_wp2
  go_loopw [13] (fun i wr => ∃ j : Nat, i = .int .i64 j /\ j <= r.length /\ Hid (∀ (i : Nat) (a b : BA), i < j -> r[i]? = some a -> s[i]? = some b -> a = b) /\ Hid (w.Fr wr [])) (fun i _ => (r.length - intOf i).toNat)
  case atStart => exact ⟨0, rfl, Nat.zero_le _, Hz (fun i a b hi => by omega), Hz (World.Fr.refl w [])⟩
  case round =>
   obtain ⟨j, rfl, hj, HA, HF⟩ := hrel
   by_cases hlt : j < r.length
   ·obtain ⟨x, hx⟩ : ∃ x, r[j]? = some x := ⟨r[j], List.getElem?_eq_getElem (by omega)⟩
    obtain ⟨y, hy⟩ : ∃ y, s[j]? = some y := ⟨s[j]'(by have := Hn.out; omega), List.getElem?_eq_getElem (by have := Hn.out; omega)⟩
    obtain ⟨g, off, c, hv, hg, kx0⟩ := (H1.out.fr HF.out (by simp)).at hx
    have h2' := H2.out.fr HF.out (by simp)
    rw [Hn.out] at h2'
    obtain ⟨g2, off2, c2', hv2, hg2, ky0⟩ := h2'.at hy
    cases hv; cases hv2
    have hrI : (j : Int) < (r.length : Int) := by omega
    have hw1 : IntKind.i64.wrap ((j : Int) + 1) = (j : Int) + 1 := IntWalk.i64_in _ (by have := Hl.out; omega)
    have Hx := Hz hx; have Hy := Hz hy; clear hx hy h2'
    by_cases hxy : x = y
    ·subst hxy
     have hbs : (x.toList == x.toList) = true := beq_self_eq_true _
     go_wp2
     go_quiet (fail)
     go_wp2
     go_roundw
     case rel => exact ⟨j + 1, by go_num, by omega, Hz (fun k a b hk ha hb => by
      rcases Nat.lt_or_ge k j with h | h
      ·exact HA.out k a b h ha hb
      ·obtain rfl : k = j := by omega
       rw [Hx.out] at ha; rw [Hy.out] at hb
       cases ha; cases hb; rfl), Hz (HF.out.of_drewN _)⟩
     case measure => simp [intOf]; omega
    ·have hres : R = false := by
      rw [<- HR.out]
      exact eqB_false (fun h => hxy (by have := Hx.out; rw [h, Hy.out] at this; injection this with this; exact this.symm))
     subst hres
     have hb : (x.toList == y.toList) = false := beq_eq_false_iff_ne.2 (fun h => hxy (toList_inj h))
     clear hxy Hx Hy HR HA
     go_wp2
     go_quiet (fail)
     go_wp2
     go_ret
     exact ⟨rfl, HF.out.of_drewN _⟩
   ·have hres : R = true := by
     rw [<- HR.out]
     exact eqB_true (eq_of_get Hn.out (fun i a b ha hb => HA.out i a b (by have := (List.getElem?_eq_some_iff.1 ha).1; omega) ha hb))
    have hd : decide ((j : Int) < (r.length : Int)) = false := decide_eq_false (by omega)
    have hd2 : decide (j < r.length) = false := decide_eq_false hlt
    subst hres
    clear HA hlt hj HR
    go_wp2
    go_ret
    exact ⟨rfl, HF.out⟩
 ·have hres : R = false := by rw [<- HR.out]; exact eqB_false (fun h => hn (by rw [h]))
  subst hres
  have hbb : ((r.length : Int) == (s.length : Int)) = false := beq_eq_false_iff_ne.2 (by omega)
  have hbc : ((r.length : Int) != (s.length : Int)) = true := by simp; omega
  clear hn HR
  go_enter Tryz.func106, Tryz.ntmps106
  go_wp2
  go_ret
  exact ⟨rfl, World.Fr.refl w []⟩
def Short (rs : List Row) : Prop := ∀ r, r ∈ rs -> r.length <= 8000000000000000000
end
section
open Go.RowKit
noncomputable def sameB (a b : Tb) : Bool := eqB a.vars b.vars && eqB a.rows b.rows
structure Small (t : Tb) : Prop where
 vars : t.vars.length <= 8000000000000000000
 rows : t.rows.length <= 8000000000000000000
 row : Short t.rows
end
section
open Go.RowKit
def idx (l : List BA) (x : BA) : Int := match l with | [] => -1 | a :: t => if x.toList == a.toList then 0 else (if idx t x < 0 then -1 else idx t x + 1)
theorem idx_range (l : List BA) (x : BA) : -1 <= idx l x /\ idx l x < l.length := by
 induction l with
 | nil => simp [idx]
 | cons a t ih =>
  unfold idx
  simp only [List.length_cons]
  split
  ·omega
  ·split <;> omega
theorem idx_neg {l : List BA} {x : BA} (h : ∀ y, y ∈ l -> (x.toList == y.toList) = false) : idx l x = -1 := by
 induction l with
 | nil => rfl
 | cons a t ih =>
  have h1 := h a (by simp)
  have h2 := ih (fun y hy => h y (by simp [hy]))
  unfold idx
  rw [h1, h2]
  rfl
theorem idx_at {l : List BA} {x : BA} (j : Nat) {y : BA} (hy : l[j]? = some y) (hxy : (x.toList == y.toList) = true) (h : ∀ (i : Nat) (a : BA), i < j -> l[i]? = some a -> (x.toList == a.toList) = false) : idx l x = j := by
 induction j generalizing l with
 | zero =>
  cases l with
  | nil => simp at hy
  | cons a t => simp at hy; subst hy; unfold idx; rw [hxy]; rfl
 | succ j ih =>
  cases l with
  | nil => simp at hy
  | cons a t =>
   have h1 := h 0 a (by omega) rfl
   have h2 := ih (l := t) (by simpa using hy) (fun i b hi hb => h (i + 1) b (by omega) (by simpa using hb))
   unfold idx
   rw [h1, h2]
   simp only [Bool.false_eq_true, if_false]
   rw [if_neg (by omega)]
   omega
theorem idx_mem {l : List BA} {x : BA} : 0 <= idx l x ↔ x ∈ l := by
 constructor
 ·intro h
  by_cases hm : ∃ y, y ∈ l /\ (x.toList == y.toList) = true
  ·obtain ⟨y, hy, hxy⟩ := hm
   have := toList_inj (beq_iff_eq.1 hxy)
   exact this ▸ hy
  ·have := idx_neg (l := l) (x := x) (fun y hy => by
    cases hb : x.toList == y.toList with
    | false => rfl
    | true => exact absurd ⟨y, hy, hb⟩ hm)
   omega
 ·intro h
  induction l with
  | nil => cases h
  | cons a t ih =>
   unfold idx
   split
   ·omega
   ·rename_i hne
    rcases List.mem_cons.1 h with rfl | h
    ·exact absurd (beq_self_eq_true _) hne
    ·have := ih h
     rw [if_neg (by omega)]
     omega
theorem index97 {w : World} {v : Value} {l : List BA} (x : BA) (h : RdStr w v l) (hl : l.length <= 8000000000000000000) :
  Calls Tryz.prog 142 #[v, .string x] w fun e w' => e = .returned (.int .i64 (idx l x)) /\ w = w' := by
 obtain ⟨a1, c1, rfl, _, _⟩ := h.rd.shape
 have H := Hz h; have Hl := Hz hl; clear h hl
 generalize hR : idx l x = R
 have HR := Hz hR; clear hR
 go_enter Tryz.func142, Tryz.ntmps142
 go_wp2
 go_loopw [8] (fun i wr => ∃ j : Nat, i = .int .i64 j /\ j <= l.length /\ Hid (∀ (i : Nat) (a : BA), i < j -> l[i]? = some a -> (x.toList == a.toList) = false) /\ wr = w) (fun i _ => (l.length - intOf i).toNat)
 case atStart => exact ⟨0, rfl, Nat.zero_le _, Hz (fun i a hi => by omega), rfl⟩
 case round =>
  obtain ⟨j, rfl, hj, HA, rfl⟩ := hrel
  by_cases hlt : j < l.length
  ·obtain ⟨y, hy⟩ : ∃ y, l[j]? = some y := ⟨l[j], List.getElem?_eq_getElem (by omega)⟩
   obtain ⟨g, off, c, hv, hg, kx⟩ := H.out.at hy
   cases hv
   have hrI : (j : Int) < (l.length : Int) := by omega
   have hw1 : IntKind.i64.wrap ((j : Int) + 1) = (j : Int) + 1 := IntWalk.i64_in _ (by have := Hl.out; omega)
   have Hy := Hz hy; clear hy
   cases hxy : x.toList == y.toList with
   | true =>
    have hres : R = (j : Int) := by rw [<- HR.out]; exact idx_at j Hy.out hxy HA.out
    subst hres
    go_wp2
    go_ret
    exact ⟨rfl, rfl⟩
   | false =>
    have Hxy := Hz hxy
    go_wp2
    go_roundw
    case rel => exact ⟨j + 1, by go_num, by omega, Hz (fun k a hk ha => by
     rcases Nat.lt_or_ge k j with h | h
     ·exact HA.out k a h ha
     ·obtain rfl : k = j := by omega
      rw [Hy.out] at ha
      cases ha; exact Hxy.out), trivial⟩
    case measure => simp [intOf]; omega
  ·have hres : R = -1 := by
    rw [<- HR.out]
    exact idx_neg (fun y hy => by
     obtain ⟨i, hi⟩ := List.getElem?_of_mem hy
     exact HA.out i y (by have := (List.getElem?_eq_some_iff.1 hi).1; omega) hi)
   have hd : decide ((j : Int) < (l.length : Int)) = false := decide_eq_false (by omega)
   have hd2 : decide (j < l.length) = false := decide_eq_false hlt
   subst hres
   clear HA hlt hj HR
   go_wp2
   go_ret
   exact ⟨rfl, rfl⟩
open Classical in
noncomputable def hasS (l : List BA) (x : BA) : Bool := decide (x ∈ l)
theorem contains67 {w : World} {v : Value} {l : List BA} (x : BA) (h : RdStr w v l) (hl : l.length <= 8000000000000000000) :
  Calls Tryz.prog 116 #[v, .string x] w fun e w' => e = .returned (.bool (hasS l x)) /\ w = w' := by
 have hc := index97 x h hl
 obtain ⟨a1, c1, rfl, _, _⟩ := h.rd.shape
 have hi := idx_mem (l := l) (x := x)
 have hres : decide (0 <= idx l x) = hasS l x := by unfold hasS; by_cases h : x ∈ l <;> simp [h] at hi ⊢ <;> omega
 have Hc := Hz hc; have Hres := Hz hres; clear hc h hl hres hi
 generalize idx l x = i at *
 go_enter Tryz.func116, Tryz.ntmps116
 go_wp2_with fail
 refine Hc.out.mono ?_
 rintro e w2 ⟨rfl, rfl⟩
 go_wp2
 go_ret
 rw [<- Hres.out]
 exact ⟨rfl, rfl⟩
end
section
open Go.RowKit
structure Own (w w' : World) (e : TypeId) (v : Value) (xs : List Value) : Prop where
 sl : w'.Sl e 1 v xs.length xs
 new : ∀ k, k ∈ v.blk -> w.heap.size <= k
 fr : w.Fr w' []
theorem Own.nil (w : World) (e : TypeId) : Own w w e (.slice none 0 0) [] := ⟨World.Sl.nil _ _ _, by simp [Value.blk], World.Fr.refl w []⟩
theorem Own.still {w w1 w2 : World} {e : TypeId} {v : Value} {xs : List Value} (h : Own w w1 e v xs) (hf : w1.Fr w2 []) : Own w w2 e v xs := ⟨h.sl.fr hf (by simp), h.new, h.fr.trans hf (by simp)⟩
theorem Own.appended {w w1 w2 : World} {e : TypeId} {v : Value} {xs : List Value} (h : Own w w1 e v xs) {x : Value} {g off c : Nat} (hs : w2.Sl e 1 (.slice (some ⟨g, off, none⟩) (xs.length + 1) c) (xs.length + 1) (xs ++ [x])) (hf : w1.Fr w2 v.blk) (hg : g ∈ v.blk ∨ g = w1.heap.size) :
  Own w w2 e (.slice (some ⟨g, off, none⟩) (xs.length + 1) c) (xs ++ [x]) := by
 refine ⟨by simpa using hs, fun k hk => ?_, h.fr.trans hf (fun j hj => .inr (h.new j hj))⟩
 simp [Value.blk] at hk
 subst hk
 exact hg.elim (h.new _) (fun hg => by have := h.fr.size; omega)
theorem Own.shape {w w1 : World} {e : TypeId} {v : Value} {xs : List Value} (h : Own w w1 e v xs) : ∃ a c, v = .slice a xs.length c := by
 obtain ⟨a, c, he, _⟩ := h.sl.shape
 exact ⟨a, c, he⟩
theorem infoI : (Tryz.prog.info? 3).map (fun i => (i.zero, i.size, i.bytes)) = some (some (.int .i64 0), 1, 8) := by kernel_rfl
theorem infoS : (Tryz.prog.info? 9).map (fun i => (i.zero, i.size, i.bytes)) = some (some (.string .empty), 1, 16) := by kernel_rfl
abbrev pcells (l want : List BA) : List Value := want.map fun x => .int .i64 (idx l x)
theorem places70 {w : World} {v1 v2 : Value} {l want : List BA} (h1 : RdStr w v1 l) (h2 : RdStr w v2 want) (hl : l.length <= 8000000000000000000) (hm : want.length <= 10000000000000) :
  Calls Tryz.prog 119 #[v1, v2] w fun e w' => ∃ v, e = .returned v /\ Own w w' 3 v (pcells l want) := by
 obtain ⟨a1, c1, rfl, _, _⟩ := h1.rd.shape
 obtain ⟨a2, c2, rfl, _, _⟩ := h2.rd.shape
 have H1 := Hz h1; have H2 := Hz h2; have Hl := Hz hl; have Hm := Hz hm; clear h1 h2 hl hm
 go_enter Tryz.func119, Tryz.ntmps119
 go_wp2
 go_loopw [10, 5] (fun i t wr => ∃ j : Nat, i = .int .i64 j /\ j <= want.length /\ Hid (Own w wr 3 t (pcells l (want.take j)))) (fun i _ _ => (want.length - intOf i).toNat)
 case atStart => exact ⟨0, rfl, Nat.zero_le _, Hz (Own.nil w 3)⟩
 case round =>
  obtain ⟨j, rfl, hj, HO⟩ := hrel
  obtain ⟨ta, tc, rfl⟩ := HO.out.shape
  by_cases hlt : j < want.length
  ·obtain ⟨y, hy⟩ : ∃ y, want[j]? = some y := ⟨want[j], List.getElem?_eq_getElem (by omega)⟩
   obtain ⟨g, off, c, hv, hg, kx⟩ := (H2.out.fr HO.out.fr (by simp)).at hy
   cases hv
   have hrI : (j : Int) < (want.length : Int) := by omega
   have hw1 : IntKind.i64.wrap ((j : Int) + 1) = (j : Int) + 1 := IntWalk.i64_in _ (by have := Hm.out; omega)
   have hc := index97 y (H1.out.fr HO.out.fr (by simp)) Hl.out
   have hsn : pcells l (want.take (j + 1)) = pcells l (want.take j) ++ [.int .i64 (idx l y)] := by
    rw [List.take_succ_eq_append_getElem hlt, (List.getElem?_eq_some_iff.1 hy).2]
    simp [pcells]
   have hpl : (pcells l (want.take j)).length = j := by simp; omega
   have Hc := Hz hc; have Hsn := Hz hsn; clear hc hy hsn
   rw [hpl] at HO ⊢
   generalize idx l y = z at *
   have Hpl := Hz hpl; clear hpl
   generalize pcells l (want.take j) = xs at *
   obtain ⟨i0, hi, hz0, hz1, hz2⟩ := info_parts infoI
   have hroom : j < 10000000000000 := by have := Hm.out; omega
   go_wp2_with (first | (go_at_call 142; refine Hc.out.mono ?_; rintro e w2 ⟨rfl, rfl⟩) | (at_builtin; refine wpList_append_one _ rfl (.tmp 14) (.tmp 18) 157 rfl 3 i0 (.int .i64 0) 1 8 Tryz.underlying157 hi hz0 hz1 hz2 rfl (.slice ta j tc) j xs rfl ?qhb wr.heap.size 1 [.int .i64 z] 3 rfl ?qB rfl rfl ⟨?qc1, ?qc2⟩ ?_))
   case qhb =>
    have := HO.out.sl
    rw [Hpl.out] at this
    exact this.alloc _
   case qB => exact heap_alloc_at _ _ _ (by simp)
   case qc1 => omega
   case qc2 => omega
   intro g2 off2 cap2 w3 hsl hfr hat hlt3
   have hown := (HO.out.still ((World.Fr.refl wr []).alloc (.cells #[.int .i64 z] 3))).appended (x := .int .i64 z) (g := g2) (off := off2) (c := cap2) (by rw [Hpl.out]; exact hsl) hfr (by simpa using hat)
   rw [Hpl.out, <- Hsn.out] at hown
   have Hown := Hz hown; clear hown hsl hfr hat kx
   go_wp2
   go_roundw
   case rel => exact ⟨j + 1, by go_num, by omega, Hown⟩
   case measure => simp [intOf]; omega
  ·have hd : decide ((j : Int) < (want.length : Int)) = false := decide_eq_false (by omega)
   have hd2 : decide (j < want.length) = false := decide_eq_false hlt
   have hjz : want.take j = want := List.take_of_length_le (by omega)
   rw [hjz] at HO ⊢
   clear hlt hj hjz
   go_wp2
   go_ret
   exact ⟨_, rfl, HO.out⟩
end
end Go.Proofs.YtbejmdlncnkaaaaGreat
