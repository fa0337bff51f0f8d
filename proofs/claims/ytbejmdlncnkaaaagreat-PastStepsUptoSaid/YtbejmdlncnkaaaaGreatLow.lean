/-
  How the program's tables lie in memory: values, rows, lists of names, tables, as they are read. The walks of rat.gcd, rat.size, value.fraction, value.Check (of what is no fraction), table.rises, table.checkRow. The walks of table.rises, table.checkRow. The document's Many and Light: how many rows tables have, and what they may make.
-/
import Derived.Test.YtbejmdlncnkaaaaGreatProg
import Derived.Test.YtbejmdlncnkaaaaGreatAppend
import Derived.WalkKit
import Derived.Outline
import Derived.Deep.QuietTactic
import Derived.BigQuiet
import Derived.WalkLawsBesides
import Derived.WalkSpells
import Derived.Deep.DeepCutAuto
import Derived.Deep.RegionLaw
import Derived.Deep.RegionWith
import Derived.Deep.DeepMust
import Derived.StillTailTactics
import Derived.Laws.EntriesVeiled
import Derived.Sort.Grow
set_option maxRecDepth 100000
set_option maxHeartbeats 16000000
set_option linter.unusedSimpArgs false
namespace Go
def World.Gr (w w' : World) : Prop := ∃ q os, w' = Sort.grow (w.drewN q) os
theorem World.Gr.refl (w : World) : w.Gr w := ⟨0, #[], by rw [Sort.grow_empty]; rfl⟩
theorem World.Gr.trans {a b c : World} (h : a.Gr b) (k : b.Gr c) : a.Gr c := by
 obtain ⟨q, os, rfl⟩ := h
 obtain ⟨r, os', rfl⟩ := k
 refine ⟨q + r, os ++ os', ?_⟩
 rw [<- World.drewN_drewN, <- Sort.grow_grow]
 rfl
theorem World.Gr.of_drewN {a b : World} (h : a.Gr b) (n : Nat) : a.Gr (b.drewN n) := h.trans ⟨n, #[], by rw [Sort.grow_empty]⟩
theorem World.Gr.drew {a b : World} (h : a.Gr b) : a.Gr b.drew := h.of_drewN 1
theorem World.Gr.alloc {a b : World} (h : a.Gr b) (o : Obj) : a.Gr (b.alloc o) := h.trans ⟨0, #[o], by rw [Sort.alloc_eq_grow]; rfl⟩
theorem World.Gr.fr {w w' : World} (h : w.Gr w') : w.Fr w' [] := by
 obtain ⟨q, os, rfl⟩ := h
 refine ⟨rfl, rfl, rfl, ?_, fun k hk _ => ?_⟩
 ·show w.heap.size <= (w.heap ++ os).size
  rw [Array.size_append]; omega
 ·show (w.heap ++ os)[k]? = w.heap[k]?
  rw [Array.getElem?_append_left hk]
end Go
namespace Go.Proofs.YtbejmdlncnkaaaaGreat
section
open Go.RowKit
structure V where
 k : Int
 n : Int
 d : Int
 s : ByteArray
abbrev BA := ByteArray
def inI64 (n : Int) : Prop := -9223372036854775808 <= n /\ n <= 9223372036854775807
structure V.wf (v : V) : Prop where
 k : inI64 v.k
 n : inI64 v.n
 d : inI64 v.d
 s : v.s.size <= 9223372036854775807
abbrev V.enc (v : V) : List Value := [.int .i64 v.k, .int .i64 v.n, .int .i64 v.d, .string v.s]
abbrev vv (v : V) : Value := .agg #[.int .i64 v.k, .int .i64 v.n, .int .i64 v.d, .string v.s]
abbrev Row := List V
structure RdRow (w : World) (h : Value) (r : Row) : Prop where
 rd : w.Rd 4 h r.length (r.flatMap V.enc)
 wf : ∀ v, v ∈ r -> v.wf
structure RdStr (w : World) (h : Value) (l : List BA) : Prop where
 rd : w.Rd 1 h l.length (l.map Value.string)
 wf : ∀ s, s ∈ l -> s.size <= 9223372036854775807
structure RdRows (w : World) (h : Value) (rs : List Row) (hs : List Value) : Prop where
 rd : w.Rd 1 h hs.length hs
 len : hs.length = rs.length
 row : ∀ (i : Nat) (hv : Value) (r : Row), hs[i]? = some hv -> rs[i]? = some r -> RdRow w hv r
structure Tb where
 vars : List BA
 rows : List Row
structure RdTab (w : World) (v : Value) (t : Tb) : Prop where
 ex : ∃ a b hs, v = .agg #[a, b] /\ RdStr w a t.vars /\ RdRows w b t.rows hs
theorem RdRow.fr {w w' : World} {h : Value} {r : Row} {L : List Nat} (hr : RdRow w h r) (hf : w.Fr w' L) (hL : ∀ k, k ∈ h.rblk -> k ∉ L) : RdRow w' h r := ⟨hr.rd.fr hf hL, hr.wf⟩
theorem RdStr.fr {w w' : World} {h : Value} {r : List BA} {L : List Nat} (hr : RdStr w h r) (hf : w.Fr w' L) (hL : ∀ k, k ∈ h.rblk -> k ∉ L) : RdStr w' h r := ⟨hr.rd.fr hf hL, hr.wf⟩
theorem RdRows.still {w w' : World} {h : Value} {rs : List Row} {hs : List Value} (hr : RdRows w h rs hs) (hf : w.Fr w' []) : RdRows w' h rs hs :=
 ⟨hr.rd.fr hf (by simp), hr.len, fun i hv r h1 h2 => (hr.row i hv r h1 h2).fr hf (by simp)⟩
theorem RdTab.still {w w' : World} {v : Value} {t : Tb} (hr : RdTab w v t) (hf : w.Fr w' []) : RdTab w' v t := by
 obtain ⟨a, b, hs, hv, h1, h2⟩ := hr.ex
 exact ⟨a, b, hs, hv, h1.fr hf (by simp), h2.still hf⟩
theorem flat4 (r : Row) (j : Nat) (v : V) (h : r[j]? = some v) (i : Nat) (hi : i < 4) : (r.flatMap V.enc)[j * 4 + i]? = v.enc[i]? := by
 induction r generalizing j with
 | nil => simp at h
 | cons a t ih =>
  cases j with
  | zero => simp at h; subst h; simp only [List.flatMap_cons, Nat.zero_mul, Nat.zero_add]; rw [List.getElem?_append_left (by simp [V.enc]; omega)]
  | succ j =>
   simp only [List.flatMap_cons]
   rw [List.getElem?_append_right (by simp [V.enc]; omega)]
   have := ih j (by simpa using h)
   rw [show (j + 1) * 4 + i - (V.enc a).length = j * 4 + i from by simp [V.enc]; omega]
   exact this
theorem RdRow.at {w : World} {h : Value} {r : Row} (hr : RdRow w h r) {j : Nat} {v : V} (hj : r[j]? = some v) : ∃ g off c, h = .slice (some ⟨g, off, none⟩) r.length c /\ g < w.heap.size /\
  w.cell? ⟨g, off + j * 4, none⟩ = some (.int .i64 v.k) /\ w.cell? ⟨g, off + j * 4 + 1, none⟩ = some (.int .i64 v.n) /\ w.cell? ⟨g, off + j * 4 + 2, none⟩ = some (.int .i64 v.d) /\ w.cell? ⟨g, off + j * 4 + 3, none⟩ = some (.string v.s) := by
 have hjl := (List.getElem?_eq_some_iff.1 hj).1
 obtain ⟨g, off, c, he, _, _, hg, hc⟩ := hr.rd.form (by omega)
 have key : ∀ i, i < 4 -> w.cell? ⟨g, off + j * 4 + i, none⟩ = v.enc[i]? := fun i hi => by
  have := hc (j * 4 + i) (by omega)
  rw [flat4 r j v hj i hi] at this
  rw [Nat.add_assoc]
  exact this
 exact ⟨g, off, c, he, hg, key 0 (by omega), key 1 (by omega), key 2 (by omega), key 3 (by omega)⟩
theorem RdStr.at {w : World} {h : Value} {r : List BA} (hr : RdStr w h r) {j : Nat} {v : BA} (hj : r[j]? = some v) : ∃ g off c, h = .slice (some ⟨g, off, none⟩) r.length c /\ g < w.heap.size /\ w.cell? ⟨g, off + j, none⟩ = some (.string v) := by
 have hjl := (List.getElem?_eq_some_iff.1 hj).1
 obtain ⟨g, off, c, he, _, _, hg, hc⟩ := hr.rd.form (by omega)
 refine ⟨g, off, c, he, hg, ?_⟩
 rw [hc j (by omega), List.getElem?_map, hj]
 rfl
theorem RdRows.at {w : World} {h : Value} {rs : List Row} {hs : List Value} (hr : RdRows w h rs hs) {j : Nat} {r : Row} (hj : rs[j]? = some r) : ∃ g off c a m, h = .slice (some ⟨g, off, none⟩) rs.length c /\ g < w.heap.size /\
  w.cell? ⟨g, off + j, none⟩ = some (.slice a r.length m) /\ RdRow w (.slice a r.length m) r := by
 have hjl := (List.getElem?_eq_some_iff.1 hj).1
 have hlen := hr.len
 obtain ⟨g, off, c, he, _, _, hg, hc⟩ := hr.rd.form (by omega)
 obtain ⟨hv, hhv⟩ : ∃ hv, hs[j]? = some hv := ⟨hs[j], List.getElem?_eq_getElem (by omega)⟩
 have hrow := hr.row j hv r hhv hj
 obtain ⟨a, m, rfl, _, _⟩ := hrow.rd.shape
 refine ⟨g, off, c, a, m, by rw [<- hlen]; exact he, hg, ?_, hrow⟩
 rw [hc j (by omega), hhv]
end
section
open Go.RowKit
def ratOk (n d : Int) : Prop := 0 < d /\ Nat.gcd n.natAbs d.natAbs = 1
open Classical in
noncomputable def vcheck (v : V) : Int :=
 if v.k = 1 then (if v.d = 0 /\ v.s.size = 0 then 0 else 20)
 else if v.k = 2 then (if v.s.size = 0 /\ ratOk v.n v.d then 0 else 20)
 else if v.k = 3 then (if v.n = 0 /\ v.d = 0 then (if 64 < v.s.size then 2 else 0) else 20)
 else 20
theorem toList_size (s : BA) : s.toList.length = s.size := by rw [ByteArray.toList_eq, Array.length_toList]; rfl
theorem isEmpty_size (s : BA) : s.toList.isEmpty = decide (s.size = 0) := by
 rw [<- toList_size]
 cases s.toList <;> simp
theorem check88 (v : V) (hk : v.k ≠ 2) (w : World) : Calls Tryz.prog 181 #[vv v] w fun e w' => e = .returned (.int .i64 (vcheck v)) /\ w.Gr w' := by
 obtain ⟨k, n, d, s⟩ := v
 simp only at hk
 by_cases h1 : k = 1
 ·subst h1
  clear hk
  go_enter Tryz.func181, Tryz.ntmps181
  go_wp2
  all_goals
   go_ret
   refine ⟨congrArg (fun x => Ending.returned (Value.int .i64 x)) ?_, (World.Gr.refl w).alloc _⟩
   simp_all [vcheck, isEmpty_size]
   done
 ·have h1b : (k == 1) = false := beq_eq_false_iff_ne.2 h1
  have h2b : (k == 2) = false := beq_eq_false_iff_ne.2 hk
  by_cases h3 : k = 3
  ·subst h3
   clear h1 h1b h2b hk
   go_enter Tryz.func181, Tryz.ntmps181
   go_wp2
   all_goals
    go_ret
    refine ⟨congrArg (fun x => Ending.returned (Value.int .i64 x)) ?_, (World.Gr.refl w).alloc _⟩
    simp_all [vcheck]
    try omega
    done
  ·have h3b : (k == 3) = false := beq_eq_false_iff_ne.2 h3
   have hv : vcheck ⟨k, n, d, s⟩ = 20 := by simp [vcheck, h1, hk, h3]
   have Hv := Hz hv; clear hv h1 hk h3
   go_enter Tryz.func181, Tryz.ntmps181
   go_wp2
   go_ret
   rw [Hv.out]
   exact ⟨rfl, (World.Gr.refl w).alloc _⟩
end
section
open Go.RowKit
abbrev ltS (a b : BA) : Bool := Op.bytesLess a.toList b.toList
def Rises (l : List BA) : Prop := ∀ (i : Nat) (a b : BA), l[i]? = some a -> l[i + 1]? = some b -> ltS a b = true
open Classical in
noncomputable def risesB (l : List BA) : Bool := decide (Rises l)
theorem risesB_true {l : List BA} (h : Rises l) : risesB l = true := by unfold risesB; simp [h]
theorem risesB_false {l : List BA} (h : ¬ Rises l) : risesB l = false := by unfold risesB; simp [h]
theorem rises47 {w : World} {v : Value} {l : List BA} (h : RdStr w v l) (hl : l.length <= 8000000000000000000) : Calls Tryz.prog 173 #[v] w fun e w' => e = .returned (.bool (risesB l)) /\ w.Fr w' [] := by
 obtain ⟨va, vc, rfl, _, _⟩ := h.rd.shape
 have H := Hz h; have Hl := Hz hl; clear h hl
 go_enter Tryz.func173, Tryz.ntmps173
 go_wp2
 go_loopw [3] (fun i wr => ∃ m : Nat, i = .int .i64 ((m : Int) + 1) /\ (m = 0 ∨ m + 1 <= l.length) /\ Hid (∀ (k : Nat) (a b : BA), k < m -> l[k]? = some a -> l[k + 1]? = some b -> ltS a b = true) /\ Hid (w.Fr wr [])) (fun i _ => (l.length + 1 - intOf i).toNat)
 case atStart => exact ⟨0, rfl, .inl rfl, Hz (fun k a b hk => by omega), Hz (World.Fr.refl w [])⟩
 case round =>
  obtain ⟨m, rfl, hm, HA, HF⟩ := hrel
  by_cases hlt : m + 1 < l.length
  ·have hltI : (m : Int) + 1 < (l.length : Int) := by omega
   obtain ⟨x, hx⟩ : ∃ x, l[m]? = some x := ⟨l[m], List.getElem?_eq_getElem (by omega)⟩
   obtain ⟨y, hy⟩ : ∃ y, l[m + 1]? = some y := ⟨l[m + 1], List.getElem?_eq_getElem (by omega)⟩
   have hr := H.out.fr HF.out (by simp)
   obtain ⟨g, off, c, hv, hg, kx⟩ := hr.at hx
   obtain ⟨g2, off2, c2, hv2, _, ky⟩ := hr.at hy
   cases hv; cases hv2
   have hs1 : IntKind.i64.wrap (m : Int) = (m : Int) := IntWalk.i64_in _ (by have := Hl.out; omega)
   have hw1 : IntKind.i64.wrap ((m : Int) + 1 + 1) = ((m + 1 : Nat) : Int) + 1 := by rw [IntWalk.i64_in _ (by have := Hl.out; omega)]; omega
   have hmI : (m : Int) < (l.length : Int) := by omega
   have Hx := Hz hx; have Hy := Hz hy; clear hx hy hr
   go_wp2
   cases hxy : ltS x y with
   | true =>
    have hb : Op.bytesLess x.toList y.toList = true := hxy
    go_quiet (fail)
    go_wp2
    go_roundw
    case rel => exact ⟨m + 1, by go_num, by omega, Hz (fun k a b hk ha hb' => by
     rcases Nat.lt_or_ge k m with h | h
     ·exact HA.out k a b h ha hb'
     ·obtain rfl : k = m := by omega
      rw [Hx.out] at ha; rw [Hy.out] at hb'
      cases ha; cases hb'; exact hxy), Hz (HF.out.of_drewN _)⟩
    case measure => simp [intOf]; omega
   | false =>
    have hb : Op.bytesLess x.toList y.toList = false := hxy
    have hres : risesB l = false := risesB_false (fun h => by have := h m x y Hx.out Hy.out; rw [hxy] at this; cases this)
    have Hres := Hz hres; clear hres hxy
    go_quiet (fail)
    go_wp2
    go_ret
    rw [Hres.out]
    exact ⟨rfl, HF.out.of_drewN _⟩
  ·have hd : decide ((m : Int) + 1 < (l.length : Int)) = false := decide_eq_false (by omega)
   have hres : risesB l = true := risesB_true (fun k a b ha hb => by
    have := (List.getElem?_eq_some_iff.1 hb).1
    exact HA.out k a b (by omega) ha hb)
   have Hres := Hz hres; clear hres hlt HA
   go_wp2
   go_ret
   rw [Hres.out]
   exact ⟨rfl, HF.out⟩
end
section
open Go.RowKit
def Lens (w : World) (g off : Nat) (ls : List Nat) : Prop := ∀ (i n : Nat), ls[i]? = some n -> ∃ a c, w.cell? ⟨g, off + i * 2 + 1, none⟩ = some (.slice a n c)
theorem many42 {w : World} {g off cap : Nat} {ls : List Nat} (h : Lens w g off ls) (hg : g < w.heap.size) (hs : ls.sum <= 8000000000000000000) (hl : ls.length <= 8000000000000000000) :
  Calls Tryz.prog 57 #[.slice (some ⟨g, off, none⟩) ls.length cap] w fun e w' => e = .returned (.int .i64 (ls.sum : Int)) /\ w = w' := by
 have H := Hz h; have Hs := Hz hs; have Hl := Hz hl; clear h hs hl
 go_enter Tryz.func57, Tryz.ntmps57
 go_wp2
 go_loopw [3, 4] (fun n i wr => ∃ (j m : Nat), i = .int .i64 j /\ n = .int .i64 m /\ j <= ls.length /\ Hid ((ls.take j).sum = m) /\ wr = w) (fun _ i _ => (ls.length - intOf i).toNat)
 case atStart => exact ⟨0, 0, rfl, rfl, Nat.zero_le _, Hz (by simp), rfl⟩
 case round =>
  obtain ⟨j, m, rfl, rfl, hj, HM, rfl⟩ := hrel
  by_cases hlt : j < ls.length
  ·obtain ⟨k, hk⟩ : ∃ k, ls[j]? = some k := ⟨ls[j], List.getElem?_eq_getElem hlt⟩
   obtain ⟨a, c, kx⟩ := H.out j k hk
   have hjI : (j : Int) < (ls.length : Int) := by omega
   have hw1 : IntKind.i64.wrap ((j : Int) + 1) = (j : Int) + 1 := IntWalk.i64_in _ (by have := Hl.out; omega)
   have hsn : (ls.take (j + 1)).sum = m + k := by
    rw [List.take_succ_eq_append_getElem hlt, (List.getElem?_eq_some_iff.1 hk).2, List.sum_append, HM.out]; simp
   have hle : m + k <= 8000000000000000000 := by
    rw [<- hsn]
    refine Nat.le_trans ?_ Hs.out
    conv => rhs; rw [<- List.take_append_drop (j + 1) ls, List.sum_append]
    omega
   have hw2 : IntKind.i64.wrap ((m : Int) + (k : Int)) = (m : Int) + (k : Int) := IntWalk.i64_in _ (by omega)
   have Hsn := Hz hsn; clear hsn hle hk
   go_wp2
   go_roundw
   case rel => exact ⟨j + 1, m + k, by go_num, by go_num, by omega, Hsn, trivial⟩
   case measure => simp [intOf]; omega
  ·have hd : decide ((j : Int) < (ls.length : Int)) = false := decide_eq_false (by omega)
   have hd2 : decide (j < ls.length) = false := decide_eq_false hlt
   have hm := HM.out
   rw [List.take_of_length_le (by omega)] at hm
   have Hm := Hz hm; clear hm HM hlt hj
   go_wp2
   go_ret
   exact ⟨by rw [Hm.out]; rfl, rfl⟩
end
end Go.Proofs.YtbejmdlncnkaaaaGreat
