/-
  How the library's words for a sorted row ('Holds', 'sortWorld') meet this work's ('World.Sl', 'World.Fr'). Over any program, no condition. The walks of slices.Clone and slices.Sort of names, table.unlike. The walks of slices.DeleteFunc of names with the program's closures, table.shared. The walks of table.both, table.True. The walks of table.made's second closure, slices.Clone of a row, slices.Index and Contains of numbers. The walk of table.made's first closure, and what slices.SortFunc makes of the places of names with it. The order of names is total, in the words of the sort. What slices.SortFunc makes of a table's rows with value.CompareRow. Stores into a slice of the call's own, and what slices.CompactFunc leaves. Over any program, no condition. slices.CompactFunc of a table's rows: what is kept, plainly. The walk of slices.CompactFunc of a table's rows.
-/
import Derived.Test.YtbejmdlncnkaaaaGreatEqs
import Derived.Shelf.GgSortFunc.Insertion
import Derived.Lib.SliceRun
set_option maxRecDepth 100000
set_option maxHeartbeats 16000000
set_option linter.unusedSimpArgs false
namespace Go
open Go.Sort Go.Proofs
section
variable {α : Type} [Inhabited α] {enc : α -> Value} {w : World} {e : TypeId} {g off c : Nat} {l : List α}
theorem getBang (l : List α) (j : Nat) (hj : j < l.length) : l.toArray[j]! = l[j] := by
 rw [getElem!_pos l.toArray j (by simpa using hj)]
 simp
theorem World.Sl.holds (h : w.Sl e 1 (.slice (some ⟨g, off, none⟩) l.length c) l.length (l.map enc)) : Holds enc w g off l.toArray := by
 intro j hj
 have hj' : j < l.length := by simpa using hj
 refine ⟨?_, h.free _⟩
 rw [h.cells rfl j (by omega), getBang l j hj']
 simp [hj']
omit [Inhabited α] in
theorem World.Sl.base_lt (h : w.Sl e 1 (.slice (some ⟨g, off, none⟩) l.length c) l.length (l.map enc)) : g < w.heap.size := h.lt g (by simp [Value.blk])
theorem World.Sl.sorted (h : w.Sl e 1 (.slice (some ⟨g, off, none⟩) l.length c) l.length (l.map enc)) (d : Array α) (hd : d.size = l.length) (m : Nat) (os : Array Obj) :
  (sortWorld enc w g off m d os).Sl e 1 (.slice (some ⟨g, off, none⟩) l.length c) l.length (d.toList.map enc) /\ w.Fr (sortWorld enc w g off m d os) [g] := by
 have hg := h.base_lt
 obtain ⟨hlen, h2⟩ := h
 rcases h2 with ⟨h0, _⟩ | ⟨g', off', cap', cur, he, hb, hc, hm, hfit, htake⟩
 ·cases h0
 cases he
 have hheap : ∀ k, k < w.heap.size -> (sortWorld enc w g off m d os).heap[k]? = (w.heap.modify g (onCells (putCells enc off d)))[k]? := fun k hk => by
  show ((w.heap.modify g (onCells (putCells enc off d))) ++ os)[k]? = _
  rw [Array.getElem?_append_left (by simpa using hk)]
 have hsize : w.heap.size <= (sortWorld enc w g off m d os).heap.size := by
  show w.heap.size <= ((w.heap.modify g (onCells (putCells enc off d))) ++ os).size
  simp
 refine ⟨⟨by simp [hd], .inr ⟨g, off, c, putCells enc off d cur, rfl, ?_, hc, hm, by simpa [putCells] using hfit, ?_⟩⟩, rfl, rfl, rfl, hsize, fun k hk hn => ?_⟩
 ·rw [hheap g hg, Array.getElem?_modify]
  simp [hb, onCells]
 ·apply List.ext_getElem?
  intro j
  rcases Nat.lt_or_ge j l.length with hj | hj
  ·have hcur : off + j < cur.size := by omega
   rw [List.getElem?_take, if_pos (by omega), List.getElem?_drop, Array.getElem?_toList]
   unfold putCells
   rw [Array.getElem?_mapIdx]
   rw [Array.getElem?_eq_getElem hcur]
   simp only [Option.map_some]
   rw [if_pos ⟨by omega, by omega⟩]
   have hjd : j < d.size := by omega
   rw [List.getElem?_map, Array.getElem?_toList, Array.getElem?_eq_getElem hjd]
   simp only [Option.map_some, Nat.add_sub_cancel_left]
   rw [getElem!_pos d j hjd]
  ·rw [List.getElem?_take, if_neg (by omega), List.getElem?_eq_none (by simp; omega)]
 ·rw [hheap k hk, Array.getElem?_modify]
  rw [if_neg (fun h => hn (by simp [<- h]))]
end
end Go
namespace Go.Proofs.YtbejmdlncnkaaaaGreat
section
open Go.RowKit
theorem one_strings (l : List BA) : (l.map Value.string).all Value.oneCell' = true := by simp [List.all_eq_true, Value.oneCell']
theorem clone65 {w : World} {v : Value} {l : List BA} (h : RdStr w v l) (hl : l.length <= 8796093021952) :
  Calls Tryz.prog 114 #[v] w fun e w' => ∃ v', e = .returned v' /\ Own w w' 9 v' (l.map Value.string) := by
 obtain ⟨a, c, rfl, _, _⟩ := h.rd.shape
 have H := Hz h; have Hl := Hz hl; clear h hl
 have q22 : ∀ (w : World) (a : Option Addr) (n c n' c' : Nat), (binOp .eql 24 (.slice a n c) (.slice none n' c')).run Tryz.prog w = .ok (.bool a.isNone) w := fun w a n c n' c' => Lib.run_eql_slice_nil w _ _ a n c n' c' Tryz.underlying24
 cases a with
 | none =>
  have hl0 : l = [] := by
   rcases H.out.rd.2 with ⟨h0, _⟩ | ⟨g, off, cap, he, _⟩
   ·exact List.eq_nil_of_length_eq_zero h0
   ·cases he
  subst hl0
  go_enter Tryz.func114, Tryz.ntmps114
  go_wp2
  go_ret
  exact ⟨_, rfl, Own.nil w 9⟩
 | some a =>
  obtain ⟨i0, hi, hz0, hz1, hz2⟩ := info_parts infoS
  have hroom : l.length <= 8796093021952 := Hl.out
  go_enter Tryz.func114, Tryz.ntmps114
  go_wp2_with (at_builtin; refine wpList_append_src _ rfl (.tmp 5) (.tmp 6) 24 rfl 9 i0 (.string .empty) 1 16 Tryz.underlying24 hi hz0 hz1 hz2 rfl (.slice (some ⟨w.heap.size, 0, none⟩) 0 0) 0 [] rfl ?qs0 (.slice (some a) l.length c) l.length (l.map Value.string) rfl ?qs1 (one_strings l) ⟨?qr1, ?qr2⟩ ?_)
  case qs0 => exact World.Sl.lit w 9 #[] 0 1 (by simp [maxLen]) rfl
  case qs1 => exact (H.out.fr ((World.Fr.refl w []).alloc _) (by simp)).rd
  case qr1 => omega
  case qr2 => omega
  intro v' w1 hs hf hb
  obtain ⟨a1, c1, rfl, _, _⟩ := hs.shape
  try simp only [Nat.zero_add, List.nil_append] at hs
  have hown : Own w w1 9 (.slice a1 l.length c1) (l.map Value.string) := by
   refine ⟨?_, fun k hk => ?_, ((World.Fr.refl w []).alloc _).trans hf (fun j hj => ?_)⟩
   ·simpa using hs
   ·rcases hb k hk with h | h
    ·simp [Value.blk] at h; omega
    ·omega
   ·simp [Value.blk] at hj; exact .inr (by omega)
  have Hown := Hz hown; clear hown hs hf hb
  go_wp2
  go_ret
  exact ⟨_, rfl, Hown.out⟩
def sortS (l : List BA) : List BA := ((l.map (·.data.toList)).mergeSort fun x y => decide (x <= y)).map fun x => ⟨x.toArray⟩
theorem sortS_len (l : List BA) : (sortS l).length = l.length := by simp [sortS]
theorem sort106 {w : World} {v : Value} {l : List BA} (h : w.Sl 9 1 v l.length (l.map Value.string)) (hl : l.length <= 8796093021952) :
  Calls Tryz.prog 152 #[v] w fun e w' => e = .returned (.tuple #[]) /\ w'.Sl 9 1 v (sortS l).length ((sortS l).map Value.string) /\ w.Fr w' v.blk := by
 by_cases h0 : l.length = 0
 ·obtain rfl := List.eq_nil_of_length_eq_zero h0
  obtain ⟨a, c, rfl, _, _⟩ := h.shape
  refine (Tryz.slices_Sort_string_none a c w).mono fun e w' ⟨he, hw⟩ => ⟨he, ?_, ?_⟩
  ·subst hw; simpa [sortS] using h
  ·subst hw; exact World.Fr.refl _ _
 ·obtain ⟨g, off, c, rfl, _, _, hg, _, _⟩ := h.form (by omega)
  have hx : (l.map (·.data.toList)).map Go.Proofs.encStr = l.map Value.string := by
   rw [List.map_map]
   exact List.map_congr_left fun s _ => rfl
  have hlen : (l.map (·.data.toList)).length = l.length := by simp
  have h' : w.Sl 9 1 (.slice (some ⟨g, off, none⟩) (l.map (·.data.toList)).length c) (l.map (·.data.toList)).length ((l.map (·.data.toList)).map Go.Proofs.encStr) := by rw [hx, hlen]; exact h
  have hc := Tryz.slices_Sort_string g off c (l.map (·.data.toList)) w h'.holds hg (by rw [hlen]; omega)
  rw [hlen] at hc
  refine hc.mono fun e w' ⟨he, n, os, hw⟩ => ?_
  obtain ⟨h1, h2⟩ := h'.sorted (((l.map (·.data.toList)).mergeSort fun x y => decide (x <= y)).toArray) (by simp) n os
  have hw' : w' = Go.Proofs.sortWorld Go.Proofs.encStr w g off n (((l.map (·.data.toList)).mergeSort fun x y => decide (x <= y)).toArray) os := hw
  rw [<- hw'] at h1 h2
  refine ⟨he, ?_, by simpa [Value.blk] using h2⟩
  have hy : (sortS l).map Value.string = ((l.map (·.data.toList)).mergeSort fun x y => decide (x <= y)).map Go.Proofs.encStr := by
   unfold sortS
   rw [List.map_map]
   exact List.map_congr_left fun s _ => rfl
  rw [sortS_len, hy]
  rw [hlen] at h1
  simpa using h1
theorem Own.rd {w w1 : World} {v : Value} {l : List BA} (h : Own w w1 9 v (l.map Value.string)) (hw : ∀ s, s ∈ l -> s.size <= 9223372036854775807) : RdStr w1 v l := by
 have := h.sl.rd
 rw [List.length_map] at this
 exact ⟨this, hw⟩
theorem sortS_mem {l : List BA} {s : BA} (h : s ∈ sortS l) : s ∈ l := by
 unfold sortS at h
 obtain ⟨x, hx, rfl⟩ := List.mem_map.1 h
 obtain ⟨y, hy, rfl⟩ := List.mem_map.1 ((List.mergeSort_perm _ _).mem_iff.1 hx)
 exact hy
theorem unlike78 {w : World} {v : Value} {l : List BA} (h : RdStr w v l) (hl : l.length <= 8796093021952) :
  Calls Tryz.prog 150 #[v] w fun e w' => e = .returned (.bool (risesB (sortS l))) /\ w.Fr w' [] := by
 have hc := clone65 h hl
 have hwf := h.wf
 obtain ⟨a, c, rfl, _, _⟩ := h.rd.shape
 have Hc := Hz hc; have Hl := Hz hl; have Hwf := Hz hwf; clear hc hl h hwf
 go_enter Tryz.func150, Tryz.ntmps150
 go_wp2_with fail
 refine Hc.out.mono ?_
 rintro e w1 ⟨v1, rfl, ho⟩
 obtain ⟨a1, c1, rfl⟩ := ho.shape
 rw [List.length_map] at ho ⊢
 have hs := sort106 (l := l) (v := .slice a1 l.length c1) (by have := ho.sl; rw [List.length_map] at this; exact this) Hl.out
 have Hs := Hz hs; have Ho := Hz ho; clear hs ho
 go_wp2_with fail
 refine Hs.out.mono ?_
 rintro e w2 ⟨rfl, hs2, hf2⟩
 have hrd : RdStr w2 (.slice a1 l.length c1) (sortS l) := by
  refine ⟨?_, fun s hs => Hwf.out s (sortS_mem hs)⟩
  have := hs2.rd
  rw [sortS_len] at this ⊢
  exact this
 have hr := rises47 hrd (by rw [sortS_len]; have := Hl.out; omega)
 have Hr := Hz hr; have Hf := Hz (Ho.out.fr.trans hf2 (fun j hj => .inr (Ho.out.new j hj))); clear hr hrd hs2 hf2
 go_wp2_with fail
 refine Hr.out.mono ?_
 rintro e w3 ⟨rfl, hf3⟩
 have Hf3 := Hz (Hf.out.trans hf3 (by simp)); clear hf3
 go_wp2
 go_ret
 exact ⟨rfl, Hf3.out⟩
end
section
open Go.RowKit
structure Tells (g : Nat) (cb : Array Value) (p : BA -> Bool) (w : World) (M : List Nat) : Prop where
 eg : ∀ args w, (callFunc g args).run Tryz.prog w = .ok (.enter g args) w
 call : ∀ W x, w.Fr W M -> Calls Tryz.prog g (#[.string x] ++ cb) W fun e W' => e = .returned (.bool (p x)) /\ W = W'
theorem del64 {w : World} {v : Value} {l : List BA} {g : Nat} {cb : Array Value} {p : BA -> Bool} (h : w.Sl 9 1 v l.length (l.map Value.string)) (hl : l.length <= 8796093021952) (hp : Tells g cb p w v.blk) :
  Calls Tryz.prog 113 #[v, .func (.func g) #[] cb] w fun e w' => ∃ v', e = .returned v' /\ w'.Sl 9 1 v' (l.filter fun x => !p x).length ((l.filter fun x => !p x).map Value.string) /\ (∀ k, k ∈ v'.blk -> k ∈ v.blk) /\ w.Fr w' v.blk := by
 by_cases h0 : l.length = 0
 ·obtain rfl := List.eq_nil_of_length_eq_zero h0
  obtain ⟨a, c, rfl, _, _⟩ := h.shape
  have hi := fun w => Tryz.slices_IndexFunc_empty (α := BA) a c (.func (.func g) #[] cb) w
  have H := Hz h; have Hi := Hz hi; clear h hl hp hi h0
  simp only [List.length_nil] at *
  go_enter Tryz.func113, Tryz.ntmps113
  go_wp2_with fail
  refine (Hi.out _).mono ?_
  rintro e w1 ⟨rfl, rfl⟩
  go_wp2
  go_ret
  exact ⟨_, rfl, H.out, fun k hk => hk, World.Fr.refl _ _⟩
 ·obtain ⟨gb, off, c, rfl, hcap, _, hg, _, _⟩ := h.form (by omega)
  have hpa : PredAt Tryz.prog g cb Value.string p w := fun W x hb => (hp.call W x (World.Fr.of_below hb _)).mono fun e W' ⟨he, hw⟩ => ⟨he, 0, by rw [<- hw]; rfl⟩
  have hpo : PredOver Tryz.prog g cb Value.string p gb off l.toArray.size w := fun n os dk x hs => by
   refine (hp.call _ x ?_).mono fun e W' ⟨he, hw⟩ => ⟨he, 0, by rw [<- hw]; rfl⟩
   have := (h.sorted dk (by simpa using hs) n os).2
   simpa [Value.blk] using this
  have hc := Tryz.slices_DeleteFunc Value.string (fun _ => rfl) p g cb hp.eg (ByteArray.empty) (fun w => by kernel_rfl) gb off c l.toArray w hpa hpo h.holds (by simp; omega) (by simpa using hcap)
  have e1 : l.toArray.size = l.length := by simp
  rw [e1] at hc
  refine hc.mono fun e w' ⟨he, q, hw⟩ => ?_
  obtain ⟨h1, h2⟩ := h.sorted (((l.filter fun x => !p x) ++ List.replicate (l.length - (l.filter fun x => !p x).length) ByteArray.empty).toArray) (by
   have := List.length_filter_le (fun x => !p x) l
   simp only [List.size_toArray, List.length_append, List.length_replicate]
   omega) q #[]
  have hw' : w' = Go.Proofs.sortWorld Value.string w gb off q (((l.filter fun x => !p x) ++ List.replicate (l.length - (l.filter fun x => !p x).length) ByteArray.empty).toArray) #[] := by
   rw [hw]
   unfold Go.Proofs.sortWorld
   rw [Sort.grow_empty]
  rw [<- hw'] at h1 h2
  have hfl := List.length_filter_le (fun x => !p x) l
  have h3 := h1.take (l.filter fun x => !p x).length hfl
  refine ⟨_, he, ?_, fun k hk => by simpa [Value.blk] using hk, by simpa [Value.blk] using h2⟩
  have e2 : ((((l.filter fun x => !p x) ++ List.replicate (l.length - (l.filter fun x => !p x).length) ByteArray.empty).toArray.toList.map Value.string).take ((l.filter fun x => !p x).length * 1)) = (l.filter fun x => !p x).map Value.string := by
   simp only [Nat.mul_one, List.map_append]
   rw [List.take_append_of_le_length (by simp), List.take_of_length_le (by simp)]
  rw [e2] at h3
  exact h3
theorem one1 {w : World} {p : Nat} {t : TypeId} {a : Value} (hh : w.heap[p]? = some (.cells #[a] t (0, 0))) : w.cell? ⟨p, 0, none⟩ = some a := by simp [World.cell?, hh]
theorem tells95 {w : World} {v : Value} {l : List BA} {M : List Nat} (cb : Nat) (h : RdStr w v l) (hl : l.length <= 8796093021952) (hb : w.heap[cb]? = some (.cells #[v] 24 (0, 0))) (hcb : cb ∉ M) (hM : ∀ k, k ∈ v.rblk -> k ∉ M) :
  Tells 168 #[.pointer (some ⟨cb, 0, none⟩)] (fun x => !hasS l x) w M := by
 refine ⟨fun args w => by kernel_rfl, fun W x hf => ?_⟩
 have hc := contains67 x (h.fr hf hM) (by omega)
 have hcell := one1 (hf.heap hb hcb)
 obtain ⟨a, c, rfl, _, _⟩ := h.rd.shape
 have Hc := Hz hc; clear hc h hb hM hf
 generalize hasS l x = b at *
 go_enter Tryz.func168, Tryz.ntmps168
 go_wp2_with fail
 refine Hc.out.mono ?_
 rintro e w1 ⟨rfl, rfl⟩
 go_wp2
 go_ret
 exact ⟨rfl, rfl⟩
theorem tells66 {w : World} {v u : Value} {l : List BA} {M : List Nat} (cb : Nat) (h : RdStr w v l) (hl : l.length <= 8796093021952) (hb : w.heap[cb]? = some (.cells #[v, u] 34 (0, 0))) (hcb : cb ∉ M) (hM : ∀ k, k ∈ v.rblk -> k ∉ M) :
  Tells 115 #[.pointer (some ⟨cb, 0, none⟩)] (fun x => hasS l x) w M := by
 refine ⟨fun args w => by kernel_rfl, fun W x hf => ?_⟩
 have hc := contains67 x (h.fr hf hM) (by omega)
 obtain ⟨hcell, _, _⟩ := two (hf.heap hb hcb)
 obtain ⟨a, c, rfl, _, _⟩ := h.rd.shape
 have Hc := Hz hc; clear hc h hb hM hf
 go_enter Tryz.func115, Tryz.ntmps115
 go_wp2_with fail
 refine Hc.out.mono ?_
 rintro e w1 ⟨rfl, rfl⟩
 go_wp2
 go_ret
 exact ⟨rfl, rfl⟩
noncomputable def sharedL (a b : List BA) : List BA := a.filter fun x => hasS b x
theorem shared63 {w : World} {v1 v2 : Value} {a b : List BA} (h1 : RdStr w v1 a) (h2 : RdStr w v2 b) (ha : a.length <= 8796093021952) (hb : b.length <= 8796093021952) :
  Calls Tryz.prog 112 #[v1, v2] w fun e w' => ∃ v, e = .returned v /\ Own w w' 9 v ((sharedL a b).map Value.string) := by
 obtain ⟨a1, c1, rfl, _, _⟩ := h1.rd.shape
 obtain ⟨a2, c2, rfl, _, _⟩ := h2.rd.shape
 have hbox := heap_alloc_at w (.cells #[.slice a2 b.length c2] 24) _ rfl
 have hf0 := (World.Fr.refl w []).alloc (.cells #[.slice a2 b.length c2] 24)
 have hc := clone65 (h1.fr hf0 (by simp)) ha
 have H2 := Hz h2; have Ha := Hz ha; have Hb := Hz hb; have Hbox := Hz hbox; have Hf0 := Hz hf0; have Hc := Hz hc; clear h1 h2 ha hb hbox hf0 hc
 go_enter Tryz.func112, Tryz.ntmps112
 go_wp2_with fail
 refine Hc.out.mono ?_
 rintro e w1 ⟨v3, rfl, ho⟩
 obtain ⟨a3, c3, rfl⟩ := ho.shape
 rw [List.length_map] at ho ⊢
 have hnew : ∀ k, k ∈ (Value.slice a3 a.length c3).blk -> w.heap.size + 1 <= k := fun k hk => by have := ho.new k hk; simpa using this
 have hb2 := H2.out.fr Hf0.out (by simp)
 have ht := tells95 (M := (Value.slice a3 a.length c3).blk) w.heap.size (hb2.fr ho.fr (by simp)) Hb.out (ho.fr.heap Hbox.out (by simp)) (fun hk => by have := hnew _ hk; omega) (fun k hk hk2 => by have := hnew _ hk2; have := H2.out.rd.lt k hk; omega)
 have hd := del64 (l := a) (by have := ho.sl; rw [List.length_map] at this; exact this) Ha.out ht
 have hnn : (a.filter fun x => !(!hasS b x)) = sharedL a b := by unfold sharedL; simp
 rw [hnn] at hd
 have Hd := Hz hd; have Ho := Hz ho; have Hnew := Hz hnew; clear hd ho ht hb2 hnew
 go_wp2_with fail
 refine Hd.out.mono ?_
 rintro e w2 ⟨v4, rfl, hs4, hb4, hf4⟩
 obtain ⟨a4, c4, rfl, _, _⟩ := hs4.shape
 have hfin : Own w w2 9 (.slice a4 (sharedL a b).length c4) ((sharedL a b).map Value.string) :=
  ⟨by rw [List.length_map]; exact hs4, fun k hk => by have := Hnew.out k (hb4 k hk); omega, (Hf0.out.trans Ho.out.fr (by simp)).trans hf4 (fun j hj => .inr (by have := Hnew.out j hj; omega))⟩
 have Hfin := Hz hfin; clear hfin hs4 hb4 hf4
 go_wp2
 go_ret
 exact ⟨_, rfl, Hfin.out⟩
end
section
open Go.RowKit
structure Known (okv : V -> Prop) (cf : V -> V -> Int) : Prop where
 chk : ChkOk okv
 cmp : CmpOk okv cf
def TabOf (okv : V -> Prop) (t : Tb) : Prop := ∀ r, r ∈ t.rows -> ∀ x, x ∈ r -> okv x
noncomputable def bothE (cf : V -> V -> Int) (a b : Tb) : Int := if tcheck cf a = 0 then tcheck cf b else tcheck cf a
theorem check15' {okv : V -> Prop} {cf : V -> V -> Int} (hK : Known okv cf) {w : World} {v : Value} {t : Tb} (h : RdTab w v t) (ho : TabOf okv t) (hs : Small t) :
  Calls Tryz.prog 128 #[v] w fun e w' => e = .returned (.int .i64 (tcheck cf t)) /\ w.Fr w' [] := check15 hK.chk hK.cmp h ho hs.vars hs.rows hs.row
theorem RdTab.agg {w : World} {v : Value} {t : Tb} (h : RdTab w v t) : ∃ a b, v = .agg #[a, b] := by
 obtain ⟨a, b, hs, hv, _⟩ := h.ex
 exact ⟨a, b, hv⟩
theorem both62 {okv : V -> Prop} {cf : V -> V -> Int} (hK : Known okv cf) {w : World} {v1 v2 : Value} {s t : Tb} (h1 : RdTab w v1 s) (h2 : RdTab w v2 t) (ho1 : TabOf okv s) (ho2 : TabOf okv t) (hs1 : Small s) (hs2 : Small t) :
  Calls Tryz.prog 105 #[v1, v2] w fun e w' => e = .returned (.int .i64 (bothE cf s t)) /\ w.Fr w' [] := by
 have hc1 := fun w' (hf : w.Fr w' []) => check15' hK (h1.still hf) ho1 hs1
 have hc2 := fun w' (hf : w.Fr w' []) => check15' hK (h2.still hf) ho2 hs2
 obtain ⟨x1, y1, rfl⟩ := h1.agg
 obtain ⟨x2, y2, rfl⟩ := h2.agg
 obtain ⟨xa, xb, xhs, hxe, hxv, hxr⟩ := h1.ex
 cases hxe
 obtain ⟨ya, yb, yhs, hye, hyv, hyr⟩ := h2.ex
 cases hye
 obtain ⟨a1, c1, rfl, _, _⟩ := hxv.rd.shape
 obtain ⟨a2, c2, rfl, _, _⟩ := hxr.rd.shape
 obtain ⟨a3, c3, rfl, _, _⟩ := hyv.rd.shape
 obtain ⟨a4, c4, rfl, _, _⟩ := hyr.rd.shape
 have Hc1 := Hz hc1; have Hc2 := Hz hc2; clear hc1 hc2 h1 h2 ho1 ho2 hs1 hs2 hxv hxr hyv hyr hK
 generalize hR : bothE cf s t = R
 have HR := Hz hR; clear hR
 have q1 := heap_alloc_some (heap_alloc_at w (.cells #[.slice a1 s.vars.length c1, .slice a2 xhs.length c2] 34) _ rfl) (.cells #[.slice a3 t.vars.length c3, .slice a4 yhs.length c4] 34)
 have q2 : ((w.alloc (.cells #[.slice a1 s.vars.length c1, .slice a2 xhs.length c2] 34)).alloc (.cells #[.slice a3 t.vars.length c3, .slice a4 yhs.length c4] 34)).heap[w.heap.size + 1]? = some (.cells #[.slice a3 t.vars.length c3, .slice a4 yhs.length c4] 34) := heap_alloc_at _ _ _ (by simp)
 have q3 := ((World.Fr.refl w []).alloc (.cells #[.slice a1 s.vars.length c1, .slice a2 xhs.length c2] 34)).alloc (.cells #[.slice a3 t.vars.length c3, .slice a4 yhs.length c4] 34)
 go_enter Tryz.func105, Tryz.ntmps105
 go_upto_region 1 with (fail)
 generalize hW : World.alloc (World.alloc w _) _ = W at *
 clear hW
 obtain ⟨p0, p1, pf⟩ := two q1
 obtain ⟨r0, r1, rf⟩ := two q2
 have Q2 := Hz q2; have Q3 := Hz q3; clear q1 q2 q3
 go_wp2_with fail
 refine (Hc1.out _ Q3.out).mono ?_
 rintro e w1 ⟨rfl, hf1⟩
 have q2 := hf1.heap Q2.out (by simp)
 have Q4 := Hz (Q3.out.trans hf1 (by simp))
 clear p0 p1 pf r0 r1 rf hf1 Q2 Q3
 obtain ⟨r0, r1, rf⟩ := two q2
 clear q2
 by_cases h0 : tcheck cf s = 0
 ·have hres : R = tcheck cf t := by rw [<- HR.out, bothE, if_pos h0]
  subst hres
  rw [h0]
  clear h0 HR
  go_wp2_with fail
  refine (Hc2.out _ Q4.out).mono ?_
  rintro e w2 ⟨rfl, hf2⟩
  have Q5 := Hz (Q4.out.trans hf2 (by simp)); clear hf2
  go_wp2
  go_ret
  exact ⟨rfl, Q5.out⟩
 ·have hres : R = tcheck cf s := by rw [<- HR.out, bothE, if_neg h0]
  subst hres
  have h0b : (tcheck cf s == 0) = false := beq_eq_false_iff_ne.2 h0
  clear h0 HR
  go_wp2
  go_ret
  exact ⟨rfl, Q4.out⟩
end
section
open Go.RowKit
theorem same103 {w : World} {v1 v2 : Value} {r s : Row} (h1 : RdRow w v1 r) (h2 : RdRow w v2 s) (hl : r.length <= 8000000000000000000) :
  Calls Tryz.prog 166 #[v1, v2] w fun e w' => e = .returned (.bool (eqB r s)) /\ w.Fr w' [] := by
 have hc := equal59 h1 h2 hl
 obtain ⟨a1, c1, rfl, _, _⟩ := h1.rd.shape
 obtain ⟨a2, c2, rfl, _, _⟩ := h2.rd.shape
 have Hc := Hz hc; clear hc h1 h2 hl
 go_enter Tryz.func166, Tryz.ntmps166
 go_wp2_with fail
 refine Hc.out.mono ?_
 rintro e w2 ⟨rfl, hf⟩
 have Hf := Hz hf; clear hf
 go_wp2
 go_ret
 exact ⟨rfl, Hf.out⟩
theorem infoV : (Tryz.prog.info? 83).map (fun i => (i.zero, i.size, i.bytes)) = some (some (.agg #[.int .i64 0, .int .i64 0, .int .i64 0, .string .empty]), 4, 40) := by kernel_rfl
theorem one_row (r : Row) : (r.flatMap V.enc).all Value.oneCell' = true := by
 induction r with
 | nil => rfl
 | cons a t ih => simp only [List.flatMap_cons, List.all_append, ih]; rfl
structure OwnRow (w w' : World) (v : Value) (r : Row) : Prop where
 sl : w'.Sl 83 4 v r.length (r.flatMap V.enc)
 new : ∀ k, k ∈ v.blk -> w.heap.size <= k
 fr : w.Fr w' []
theorem clone72 {w : World} {v : Value} {r : Row} (h : RdRow w v r) (hl : r.length <= 3518437208780) :
  Calls Tryz.prog 121 #[v] w fun e w' => ∃ v', e = .returned v' /\ OwnRow w w' v' r := by
 obtain ⟨a, c, rfl, _, _⟩ := h.rd.shape
 have H := Hz h; have Hl := Hz hl; clear h hl
 have q32 : ∀ (w : World) (a : Option Addr) (n c n' c' : Nat), (binOp .eql 81 (.slice a n c) (.slice none n' c')).run Tryz.prog w = .ok (.bool a.isNone) w := fun w a n c n' c' => Lib.run_eql_slice_nil w _ _ a n c n' c' Tryz.underlying81
 cases a with
 | none =>
  have hl0 : r = [] := by
   rcases H.out.rd.2 with ⟨h0, _⟩ | ⟨g, off, cap, he, _⟩
   ·exact List.eq_nil_of_length_eq_zero h0
   ·cases he
  subst hl0
  go_enter Tryz.func121, Tryz.ntmps121
  go_wp2
  go_ret
  exact ⟨_, rfl, ⟨World.Sl.nil _ _ _, by simp [Value.blk], World.Fr.refl w []⟩⟩
 | some a =>
  obtain ⟨i0, hi, hz0, hz1, hz2⟩ := info_parts infoV
  have hroom : r.length <= 3518437208780 := Hl.out
  go_enter Tryz.func121, Tryz.ntmps121
  go_wp2_with (at_builtin; refine wpList_append_src _ rfl (.tmp 5) (.tmp 6) 81 rfl 83 i0 (.agg #[.int .i64 0, .int .i64 0, .int .i64 0, .string .empty]) 4 40 Tryz.underlying81 hi hz0 hz1 hz2 rfl (.slice (some ⟨w.heap.size, 0, none⟩) 0 0) 0 [] rfl ?qs0 (.slice (some a) r.length c) r.length (r.flatMap V.enc) rfl ?qs1 (one_row r) ⟨?qr1, ?qr2⟩ ?_)
  case qs0 => exact World.Sl.lit w 83 #[] 0 4 (by simp [maxLen]) rfl
  case qs1 => exact (H.out.fr ((World.Fr.refl w []).alloc _) (by simp)).rd
  case qr1 => omega
  case qr2 => omega
  intro v' w1 hs hf hb
  obtain ⟨a1, c1, rfl, _, _⟩ := hs.shape
  try simp only [Nat.zero_add, List.nil_append] at hs
  have hown : OwnRow w w1 (.slice a1 r.length c1) r := by
   refine ⟨?_, fun k hk => ?_, ((World.Fr.refl w []).alloc _).trans hf (fun j hj => ?_)⟩
   ·simpa using hs
   ·rcases hb k hk with h | h
    ·simp [Value.blk] at h; omega
    ·omega
   ·simp [Value.blk] at hj; exact .inr (by omega)
  have Hown := Hz hown; clear hown hs hf hb
  go_wp2
  go_ret
  exact ⟨_, rfl, Hown.out⟩
end
section
open Go.RowKit
def pcmp (l : List BA) (i j : Fin l.length) : Int := if ltS l[i] l[j] = true then -1 else 1
theorem order100 {w : World} {v : Value} {l : List BA} (h : RdStr w v l) (cb : Nat) (hb : w.heap[cb]? = some (.cells #[v] 24 (0, 0))) (i j : Fin l.length) :
  Calls Tryz.prog 162 #[.int .i64 (i.1 : Int), .int .i64 (j.1 : Int), .pointer (some ⟨cb, 0, none⟩)] w fun e w' => e = .returned (.int .i64 (pcmp l i j)) /\ ∃ q, w' = w.drewN q := by
 obtain ⟨i, hi⟩ := i
 obtain ⟨j, hj⟩ := j
 have hx : l[i]? = some l[i] := List.getElem?_eq_getElem hi
 have hy : l[j]? = some l[j] := List.getElem?_eq_getElem hj
 obtain ⟨g, off, c, hv, hg, kx⟩ := h.at hx
 obtain ⟨g2, off2, c2, hv2, hg2, ky⟩ := h.at hy
 subst hv
 cases hv2
 have hcell := one1 hb
 have hiI : (i : Int) < (l.length : Int) := by omega
 have hjI : (j : Int) < (l.length : Int) := by omega
 have hcf : pcmp l ⟨i, hi⟩ ⟨j, hj⟩ = if ltS l[i] l[j] = true then -1 else 1 := rfl
 rw [hcf]
 clear hcf hx hy h hb
 generalize l[i] = x at *
 generalize l[j] = y at *
 cases hlt : ltS x y with
 | true =>
  have hb : Op.bytesLess x.toList y.toList = true := hlt
  rw [if_pos rfl]
  clear hlt
  go_enter Tryz.func162, Tryz.ntmps162
  go_wp2
  go_quiet (fail)
  go_wp2
  go_ret
  exact ⟨rfl, _, rfl⟩
 | false =>
  have hb : Op.bytesLess x.toList y.toList = false := hlt
  rw [if_neg (by simp)]
  clear hlt
  go_enter Tryz.func162, Tryz.ntmps162
  go_wp2
  go_quiet (fail)
  go_wp2
  go_ret
  exact ⟨rfl, _, rfl⟩
end
section
open Go.RowKit Go.Sort
theorem less_irrefl : ∀ x : List UInt8, Op.bytesLess x x = false
 | [] => rfl
 | a :: x => by simp [Op.bytesLess, less_irrefl x]
theorem less_trans : ∀ x y z : List UInt8, Op.bytesLess x y = true -> Op.bytesLess y z = true -> Op.bytesLess x z = true
 | _, _, [], _, h => by simp [Op.bytesLess] at h
 | [], _, _ :: _, _, _ => by simp [Op.bytesLess]
 | _ :: _, [], _, h, _ => by simp [Op.bytesLess] at h
 | a :: x, b :: y, c :: z, h1, h2 => by
  simp only [Op.bytesLess, Bool.or_eq_true, decide_eq_true_eq, Bool.and_eq_true, beq_iff_eq] at h1 h2 ⊢
  rcases h1 with h1 | ⟨rfl, h1⟩
  ·rcases h2 with h2 | ⟨rfl, h2⟩
   ·exact .inl (UInt8.lt_trans h1 h2)
   ·exact .inl h1
  ·rcases h2 with h2 | ⟨rfl, h2⟩
   ·exact .inl h2
   ·exact .inr ⟨rfl, less_trans x y z h1 h2⟩
theorem less_total : ∀ x y : List UInt8, Op.bytesLess x y = false -> Op.bytesLess y x = false -> x = y
 | [], [], _, _ => rfl
 | [], _ :: _, h, _ => by simp [Op.bytesLess] at h
 | _ :: _, [], _, h => by simp [Op.bytesLess] at h
 | a :: x, b :: y, h1, h2 => by
  simp only [Op.bytesLess, Bool.or_eq_false_iff, decide_eq_false_iff_not, Bool.and_eq_false_iff, beq_eq_false_iff_ne] at h1 h2
  have hab : a = b := by
   have h3 := h1.1
   have h4 := h2.1
   exact UInt8.le_antisymm (UInt8.not_lt.1 h4) (UInt8.not_lt.1 h3)
  subst hab
  have e1 := h1.2.resolve_left (by simp)
  have e2 := h2.2.resolve_left (by simp)
  rw [less_total x y e1 e2]
theorem ltS_irrefl (x : BA) : ltS x x = false := less_irrefl _
theorem ltS_trans {x y z : BA} (h1 : ltS x y = true) (h2 : ltS y z = true) : ltS x z = true := less_trans _ _ _ h1 h2
theorem ltS_total {x y : BA} (h1 : ltS x y = false) (h2 : ltS y x = false) : x = y := toList_inj (less_total _ _ h1 h2)
theorem ltS_ntrans {x y z : BA} (h1 : ltS x y = false) (h2 : ltS y z = false) : ltS x z = false := by
 cases h3 : ltS x z with
 | false => rfl
 | true =>
  cases h4 : ltS z y with
  | true => rw [ltS_trans h3 h4] at h1; cases h1
  | false =>
   have := ltS_total h2 h4
   subst this
   rw [h3] at h1; cases h1
theorem lt_pcmp (l : List BA) (i j : Fin l.length) : ltOf (pcmp l) i j = ltS l[i] l[j] := by
 unfold ltOf pcmp
 cases ltS l[i] l[j] <;> simp
theorem pcmp_swo (l : List BA) : SWO (ltOf (pcmp l)) :=
 ⟨fun x => by rw [lt_pcmp]; exact ltS_irrefl _, fun x y z h1 h2 => by rw [lt_pcmp] at *; exact ltS_trans h1 h2, fun x y z h1 h2 => by rw [lt_pcmp] at *; exact ltS_ntrans h1 h2⟩
end
section
open Go.RowKit Go.Sort
abbrev encP {n : Nat} (i : Fin n) : Value := .int .i64 (i.1 : Int)
theorem perm_whole {α : Type} [Inhabited α] {d d' : Array α} (h : PermIn 0 d.size d d') : d'.toList.Perm d.toList /\ d'.size = d.size := by
 obtain ⟨h1, _, h3⟩ := h
 refine ⟨?_, h1⟩
 have e1 : d.extract 0 d.size = d := by simp
 have e2 : d'.extract 0 d.size = d' := by rw [<- h1]; simp
 rw [e1, e2] at h3
 exact h3
theorem sorted_pairs {α : Type} [Inhabited α] {lt : α -> α -> Bool} {d : Array α} (h : SortedIn lt 0 d.size d) : d.toList.Pairwise fun x y => lt y x = false := by
 rw [List.pairwise_iff_getElem]
 intro i j hi hj hij
 have hi' : i < d.size := by simpa using hi
 have hj' : j < d.size := by simpa using hj
 have := h i j (by omega) hij hj'
 rw [getElem!_pos d i hi', getElem!_pos d j hj'] at this
 simpa using this
theorem sort99 {w : World} {v v2 : Value} {l : List BA} (hne : 0 < l.length) (hl : l.length <= 8796093021952) (h : w.Sl 3 1 v l.length ((List.finRange l.length).map encP)) (hr : RdStr w v2 l) (cb : Nat) (hb : w.heap[cb]? = some (.cells #[v2] 24 (0, 0))) (hcb : cb ∉ v.blk) (hv2 : ∀ k, k ∈ v2.rblk -> k ∉ v.blk) :
  Calls Tryz.prog 161 #[v, .func (.func 162) #[] #[.pointer (some ⟨cb, 0, none⟩)]] w fun e w' => e = .returned (.tuple #[]) /\ ∃ os : List (Fin l.length), os.Perm (List.finRange l.length) /\ (os.Pairwise fun x y => ltS l[y] l[x] = false) /\ w'.Sl 3 1 v l.length (os.map encP) /\ w.Fr w' v.blk := by
 haveI : Inhabited (Fin l.length) := ⟨⟨0, hne⟩⟩
 have hfl : (List.finRange l.length).length = l.length := by simp
 obtain ⟨g, off, c, rfl, _, _, hg, _, _⟩ := h.form hne
 have h' : w.Sl 3 1 (.slice (some ⟨g, off, none⟩) (List.finRange l.length).length c) (List.finRange l.length).length ((List.finRange l.length).map encP) := by rw [hfl]; exact h
 have e1 : (List.finRange l.length).toArray.size = l.length := by simp
 have hcmp : CmpLays1 Tryz.prog 162 #[.pointer (some ⟨cb, 0, none⟩)] encP (pcmp l) g off (List.finRange l.length).toArray.size w := fun m os dk hs x y => by
  have hf := (h'.sorted dk (by rw [hs, e1, hfl]) m os).2
  refine (order100 (hr.fr hf (fun k hk hk2 => hv2 k hk (by simpa [Value.blk] using hk2))) cb (hf.heap hb (fun hk => hcb (by simpa [Value.blk] using hk))) x y).mono fun e w' ⟨he, q, hw⟩ => ⟨he, q, #[], by rw [hw, Sort.grow_empty]⟩
 have hc := Tryz.slices_SortFunc encP (fun _ => rfl) (pcmp l) (pcmp_swo l) 162 #[.pointer (some ⟨cb, 0, none⟩)] g off c (List.finRange l.length).toArray w (fun args w => by kernel_rfl) hcmp h'.holds hg (by rw [e1]; omega)
 rw [e1] at hc
 refine hc.mono fun e w' ⟨he, d', n, os, hp, hs, hw⟩ => ⟨he, d'.toList, ?_⟩
 have hp' := perm_whole (d := (List.finRange l.length).toArray) (by rw [e1]; exact hp)
 have hsz : d'.size = l.length := by rw [hp'.2, e1]
 obtain ⟨h1, h2⟩ := h'.sorted d' (by rw [hsz, hfl]) n os
 rw [<- hw, hfl] at h1
 rw [<- hw] at h2
 refine ⟨hp'.1, ?_, h1, by simpa [Value.blk] using h2⟩
 have hs' := sorted_pairs (lt := ltOf (pcmp l)) (by rw [hsz]; exact hs)
 exact hs'.imp fun {x y} hxy => by rw [lt_pcmp] at hxy; exact hxy
end
section
open Go.RowKit Go.Sort
def RowOrd (okv : V -> Prop) (cf : V -> V -> Int) : Prop := SWO (fun (p q : { r : Row // ∀ x, x ∈ r -> okv x }) => decide (rcmp cf p.1 q.1 < 0))
structure HdRow (okv : V -> Prop) (w : World) (B : List Nat) (p : Value × Row) : Prop where
 rd : RdRow w p.1 p.2
 off : ∀ k, k ∈ p.1.rblk -> k ∉ B
 ok : ∀ x, x ∈ p.2 -> okv x
 short : p.2.length <= 8000000000000000000
theorem HdRow.one {okv : V -> Prop} {w : World} {B : List Nat} {p : Value × Row} (h : HdRow okv w B p) : p.1.oneCell' = true := by
 obtain ⟨a, c, he, _⟩ := h.rd.rd.shape
 rw [he]; rfl
theorem sort101 {okv : V -> Prop} {cf : V -> V -> Int} (hK : CmpOk okv cf) (hO : RowOrd okv cf) {w : World} {v : Value} (ps : List (Value × Row)) (h : w.Sl 81 1 v ps.length (ps.map (·.1))) (hp : ∀ p, p ∈ ps -> HdRow okv w v.blk p) (hl : ps.length <= 8796093021952) :
  Calls Tryz.prog 163 #[v, .func (.func 164) #[] #[]] w fun e w' => e = .returned (.tuple #[]) /\ ∃ qs : List (Value × Row), qs.Perm ps /\ (qs.Pairwise fun x y => ¬ rcmp cf y.2 x.2 < 0) /\ w'.Sl 81 1 v ps.length (qs.map (·.1)) /\ w.Fr w' v.blk := by
 by_cases h0 : ps.length = 0
 ·obtain rfl := List.eq_nil_of_length_eq_zero h0
  obtain ⟨a, c, rfl, _, _⟩ := h.shape
  refine (Tryz.slices_SortFunc_none_f101 (α := Nat) a c _ w).mono fun e w' ⟨he, hw⟩ => ⟨he, [], List.Perm.refl _, List.Pairwise.nil, ?_, ?_⟩
  ·subst hw; exact h
  ·subst hw; exact World.Fr.refl _ _
 ·obtain ⟨g, off, c, rfl, _, _, hg, _, _⟩ := h.form (by omega)
  have hblk : (Value.slice (some ⟨g, off, none⟩) ps.length c).blk = [g] := rfl
  rw [hblk] at hp ⊢
  obtain ⟨p0, t, rfl⟩ : ∃ p0 t, ps = p0 :: t := by cases ps with | nil => simp at h0 | cons a t => exact ⟨a, t, rfl⟩
  haveI : Inhabited { p : Value × Row // HdRow okv w [g] p } := ⟨⟨p0, hp p0 (by simp)⟩⟩
  generalize hps : p0 :: t = ps at *
  let L : List { p : Value × Row // HdRow okv w [g] p } := ps.pmap (fun p hq => ⟨p, hq⟩) hp
  have hL : L.map (·.1) = ps := by simp [L, List.map_pmap]
  have hLl : L.length = ps.length := by simp [L]
  let enc : { p : Value × Row // HdRow okv w [g] p } -> Value := fun p => p.1.1
  have hLe : L.map enc = ps.map (·.1) := by rw [<- hL, List.map_map]; rfl
  have h' : w.Sl 81 1 (.slice (some ⟨g, off, none⟩) L.length c) L.length (L.map enc) := by rw [hLl, hLe]; exact h
  have e1 : L.toArray.size = ps.length := by simp [hLl]
  let cmp : { p : Value × Row // HdRow okv w [g] p } -> { p : Value × Row // HdRow okv w [g] p } -> Int := fun p q => rcmp cf p.1.2 q.1.2
  have hswo : SWO (ltOf cmp) := by
   refine ⟨fun x => ?_, fun x y z h1 h2 => ?_, fun x y z h1 h2 => ?_⟩
   ·exact hO.irrefl ⟨x.1.2, x.2.ok⟩
   ·exact hO.trans ⟨x.1.2, x.2.ok⟩ ⟨y.1.2, y.2.ok⟩ ⟨z.1.2, z.2.ok⟩ h1 h2
   ·exact hO.ntrans ⟨x.1.2, x.2.ok⟩ ⟨y.1.2, y.2.ok⟩ ⟨z.1.2, z.2.ok⟩ h1 h2
  have hcmp : CmpLays1 Tryz.prog 164 #[] enc cmp g off L.toArray.size w := fun m os dk hs x y => by
   have hf := (h'.sorted dk (by rw [hs, e1, hLl]) m os).2
   refine (compareRow49 hK (x.2.rd.fr hf x.2.off) (y.2.rd.fr hf y.2.off) x.2.ok y.2.ok x.2.short).mono fun e w' ⟨he, hw⟩ => ⟨he, hw⟩
  have hc := Tryz.slices_SortFunc_f101 enc (fun p => p.2.one) cmp hswo 164 #[] g off c L.toArray w (fun args w => by kernel_rfl) hcmp h'.holds hg (by rw [e1]; omega)
  rw [e1] at hc
  refine hc.mono fun e w' ⟨he, d', n, os, hpm, hs, hw⟩ => ⟨he, d'.toList.map (·.1), ?_⟩
  have hp' := perm_whole (d := L.toArray) (by rw [e1]; exact hpm)
  have hsz : d'.size = ps.length := by rw [hp'.2, e1]
  obtain ⟨h1, h2⟩ := h'.sorted d' (by rw [hsz, hLl]) n os
  rw [<- hw, hLl] at h1
  rw [<- hw] at h2
  refine ⟨?_, ?_, ?_, h2⟩
  ·have := hp'.1.map (·.1)
   rw [<- hL]
   exact this
  ·have hs' := sorted_pairs (lt := ltOf cmp) (by rw [hsz]; exact hs)
   rw [List.pairwise_map]
   exact hs'.imp fun {x y} hxy => by
    have : decide (rcmp cf y.1.2 x.1.2 < 0) = false := hxy
    simpa using this
  ·rw [List.map_map]
   exact h1
end
end Go.Proofs.YtbejmdlncnkaaaaGreat
namespace Go
theorem World.Sl.set {w : World} {e : TypeId} {g off n c : Nat} {xs : List Value} (h : w.Sl e 1 (.slice (some ⟨g, off, none⟩) n c) n xs) (k : Nat) (hk : k < n) (v : Value) :
  (w.setCell ⟨g, off + k, none⟩ v).Sl e 1 (.slice (some ⟨g, off, none⟩) n c) n (xs.set k v) /\ w.Fr (w.setCell ⟨g, off + k, none⟩ v) [g] := by
 obtain ⟨hlen, h2⟩ := h
 rcases h2 with ⟨h0, _⟩ | ⟨g', off', cap', cur, he, hb, hc, hm, hfit, htake⟩
 ·cases h0
 cases he
 refine ⟨⟨by simpa using hlen, .inr ⟨g, off, c, cur.setIfInBounds (off + k) v, rfl, heap_set_same hb (off + k) v, hc, hm, by simpa using hfit, ?_⟩⟩, (World.Fr.refl w [g]).setCell (by simp) _⟩
 subst htake
 apply List.ext_getElem?
 intro j
 rw [List.getElem?_set]
 simp only [List.getElem?_take, List.getElem?_drop, Nat.mul_one, List.length_take, List.length_drop, Array.getElem?_toList, Array.getElem?_setIfInBounds, Array.length_toList]
 have : off + k < cur.size := by omega
 by_cases hj : j < n
 ·by_cases hjk : k = j
  ·subst hjk
   simp [hj, this]
   omega
  ·simp [hj, hjk]
 ·simp [hj]
  omega
theorem World.Sl.sets {e : TypeId} {g off n c : Nat} (vs : List Value) : ∀ {w : World} {xs : List Value} (k : Nat), w.Sl e 1 (.slice (some ⟨g, off, none⟩) n c) n xs -> k + vs.length <= n ->
  ∃ ys, (w.setCells g (off + k) vs).Sl e 1 (.slice (some ⟨g, off, none⟩) n c) n ys /\ ys.take k = xs.take k /\ w.Fr (w.setCells g (off + k) vs) [g] := by
 induction vs with
 | nil => intro w xs k h _; exact ⟨xs, h, rfl, World.Fr.refl _ _⟩
 | cons v r ih =>
  intro w xs k h hk
  simp only [List.length_cons] at hk
  obtain ⟨h1, h2⟩ := h.set k (by omega) v
  obtain ⟨ys, h3, h4, h5⟩ := ih (k + 1) h1 (by omega)
  refine ⟨ys, h3, ?_, h2.trans h5 (fun j hj => .inl hj)⟩
  have e1 : ys.take k = (ys.take (k + 1)).take k := by rw [List.take_take]; congr 1; omega
  rw [e1, h4, List.take_take]
  have : min k (k + 1) = k := by omega
  rw [this, List.take_set_of_le (by omega)]
end Go
namespace Go.Proofs.YtbejmdlncnkaaaaGreat
section
open Go.RowKit
abbrev HR := Value × Row
noncomputable def keep : Option Row -> List HR -> List HR
 | _, [] => []
 | p, x :: t => if eqB p (some x.2) = true then keep (some x.2) t else x :: keep (some x.2) t
noncomputable def compactP (ps : List HR) : List HR := keep none ps
def lastRow (p : Option Row) (l : List HR) : Option Row := match l.getLast? with | none => p | some x => some x.2
theorem keep_append (p : Option Row) (l m : List HR) : keep p (l ++ m) = keep p l ++ keep (lastRow p l) m := by
 induction l generalizing p with
 | nil => rfl
 | cons x t ih =>
  have e : lastRow p (x :: t) = lastRow (some x.2) t := by
   unfold lastRow
   cases t with
   | nil => rfl
   | cons y t => simp [List.getLast?_cons_cons]; cases h : (y :: t).getLast? with
    | none => simp at h
    | some z => rfl
  simp only [List.cons_append, keep]
  split
  ·rw [ih, e]
  ·rw [ih, e]; rfl
theorem compact_take_eq (ps : List HR) (m : Nat) {x y : HR} (hx : ps[m]? = some x) (hy : ps[m + 1]? = some y) (h : x.2 = y.2) :
  compactP (ps.take (m + 2)) = compactP (ps.take (m + 1)) := by
 have hl := (List.getElem?_eq_some_iff.1 hy).1
 have e1 : ps.take (m + 2) = ps.take (m + 1) ++ [y] := by
  rw [List.take_succ_eq_append_getElem hl, (List.getElem?_eq_some_iff.1 hy).2]
 have e2 : lastRow none (ps.take (m + 1)) = some x.2 := by
  unfold lastRow
  have hl' := (List.getElem?_eq_some_iff.1 hx).1
  rw [List.take_succ_eq_append_getElem hl', (List.getElem?_eq_some_iff.1 hx).2]
  simp
 unfold compactP
 rw [e1, keep_append, e2]
 simp [keep, eqB_true (show some x.2 = some y.2 by rw [h])]
theorem compact_take_ne (ps : List HR) (m : Nat) {x y : HR} (hx : ps[m]? = some x) (hy : ps[m + 1]? = some y) (h : x.2 ≠ y.2) :
  compactP (ps.take (m + 2)) = compactP (ps.take (m + 1)) ++ [y] := by
 have hl := (List.getElem?_eq_some_iff.1 hy).1
 have e1 : ps.take (m + 2) = ps.take (m + 1) ++ [y] := by
  rw [List.take_succ_eq_append_getElem hl, (List.getElem?_eq_some_iff.1 hy).2]
 have e2 : lastRow none (ps.take (m + 1)) = some x.2 := by
  unfold lastRow
  have hl' := (List.getElem?_eq_some_iff.1 hx).1
  rw [List.take_succ_eq_append_getElem hl', (List.getElem?_eq_some_iff.1 hx).2]
  simp
 unfold compactP
 rw [e1, keep_append, e2]
 simp [keep, eqB_false (show some x.2 ≠ some y.2 from fun e => h (by injection e))]
theorem compact_one (ps : List HR) (h : 0 < ps.length) : compactP (ps.take 1) = ps.take 1 := by
 cases ps with
 | nil => simp at h
 | cons a t => simp [compactP, keep, eqB_false (show none ≠ some a.2 by simp)]
theorem compact_small (ps : List HR) (h : ps.length < 2) : compactP ps = ps := by
 match ps, h with
 | [], _ => rfl
 | [a], _ => simp [compactP, keep, eqB_false (show none ≠ some a.2 by simp)]
end
section
open Go.RowKit
structure Hr (w : World) (B : List Nat) (p : HR) : Prop where
 rd : RdRow w p.1 p.2
 off : ∀ k, k ∈ p.1.rblk -> k ∉ B
 short : p.2.length <= 8000000000000000000
theorem cells_step (A B : List Value) (y : Value) (h : A.length < B.length) : (A ++ B.drop A.length).set A.length y = (A ++ [y]) ++ B.drop (A.length + 1) := by
 rw [List.set_append_right _ _ (Nat.le_refl _), Nat.sub_self, List.drop_eq_getElem_cons h, List.append_assoc]
 rfl
theorem cells_at (A B : List Value) (i : Nat) (h : A.length <= i) : (A ++ B.drop A.length)[i]? = B[i]? := by
 rw [List.getElem?_append_right h, List.getElem?_drop]
 congr 1; omega
structure Packed (w wr : World) (v : Value) (g : Nat) (ps : List HR) (m : Nat) (C : List HR) : Prop where
 is : C = compactP (ps.take m)
 sl : wr.Sl 81 1 v ps.length (C.map (·.1) ++ (ps.map (·.1)).drop C.length)
 fr : w.Fr wr [g]
theorem compact102 {w : World} {v : Value} (ps : List HR) (h : w.Sl 81 1 v ps.length (ps.map (·.1))) (hp : ∀ p, p ∈ ps -> Hr w v.blk p) (hl : ps.length <= 8796093021952) :
  Calls Tryz.prog 165 #[v, .func (.func 166) #[] #[]] w fun e w' => ∃ v', e = .returned v' /\ w'.Sl 81 1 v' (compactP ps).length ((compactP ps).map (·.1)) /\ (∀ k, k ∈ v'.blk -> k ∈ v.blk) /\ w.Fr w' v.blk := by
 by_cases h2 : ps.length < 2
 ·have hk := compact_small ps h2
  obtain ⟨a, c, rfl, _, _⟩ := h.shape
  have hd : decide ((ps.length : Int) < 2) = true := decide_eq_true (by omega)
  have hd2 : (ps.length : Int) < 2 := by omega
  have H := Hz h; have Hk := Hz hk; clear h hk hp hl h2
  go_enter Tryz.func165, Tryz.ntmps165
  go_wp2
  go_ret
  exact ⟨_, rfl, by rw [Hk.out]; exact H.out, fun k hk => hk, World.Fr.refl _ _⟩
 ·obtain ⟨g, off, c, rfl, hcap, hmax, hg, hcs, hfree⟩ := h.form (by omega)
  have hblk : (Value.slice (some ⟨g, off, none⟩) ps.length c).blk = [g] := rfl
  rw [hblk] at hp ⊢
  have hd : decide ((ps.length : Int) < 2) = false := decide_eq_false (by omega)
  have hn0 : ¬ ((ps.length : Int) < 2) := by omega
  have hcell : ∀ (W : World) (xs : List Value), W.Sl 81 1 (.slice (some ⟨g, off, none⟩) ps.length c) ps.length xs -> ∀ (i : Nat) (x : Value), i < ps.length -> xs[i]? = some x -> W.cell? ⟨g, off + i, none⟩ = some x := fun W xs hs i x hi hx => by
   rw [hs.cells rfl i (by omega), hx]
  have hcm : c <= 9223372036854775807 := by unfold maxLen at hmax; omega
  have H := Hz h; have Hp := Hz hp; have Hl := Hz hl; have H2 := Hz h2; have Hcap := Hz hcap; have Hcell := Hz hcell; have Hcm := Hz hcm; clear h hp hl h2 hcap hmax hfree hcell hcm hblk hcs
  go_enter Tryz.func165, Tryz.ntmps165
  go_wp2
  go_loopw [5] (fun i wr => ∃ k : Nat, i = .int .i64 k /\ 1 <= k /\ k <= ps.length /\ Hid (compactP (ps.take k) = ps.take k) /\ Hid (w.Fr wr [])) (fun i _ => (ps.length - intOf i).toNat)
  case atStart => exact ⟨1, rfl, Nat.le_refl _, by have := H2.out; omega, Hz (compact_one ps (by have := H2.out; omega)), Hz (World.Fr.refl w [])⟩
  case round =>
   obtain ⟨k, rfl, hk1, hm, HC, HF⟩ := hrel
   by_cases hlt : k < ps.length
   ·have hltI : (k : Int) < (ps.length : Int) := by omega
    obtain ⟨m, hkm⟩ : ∃ m, k = m + 1 := ⟨k - 1, by omega⟩
    have hmI : (m : Int) < (ps.length : Int) := by omega
    obtain ⟨x, hx⟩ : ∃ x, ps[m]? = some x := ⟨ps[m], List.getElem?_eq_getElem (by omega)⟩
    obtain ⟨y, hy⟩ : ∃ y, ps[k]? = some y := ⟨ps[k], List.getElem?_eq_getElem (by omega)⟩
    have hrx := Hp.out x (List.mem_of_getElem? hx)
    have hry := Hp.out y (List.mem_of_getElem? hy)
    have kx := Hcell.out wr _ (H.out.fr HF.out (by simp)) m x.1 (by omega) (by rw [List.getElem?_map, hx]; rfl)
    have ky := Hcell.out wr _ (H.out.fr HF.out (by simp)) k y.1 hlt (by rw [List.getElem?_map, hy]; rfl)
    obtain ⟨xv, xr⟩ := x
    obtain ⟨yv, yr⟩ := y
    simp only at kx ky
    obtain ⟨ax, cx, hxe, _, _⟩ := hrx.rd.rd.shape
    obtain ⟨ay, cy, hye, _, _⟩ := hry.rd.rd.shape
    simp only at hxe hye
    subst hxe hye
    have hc := same103 (hry.rd.fr HF.out.drew (by simp)) (hrx.rd.fr HF.out.drew (by simp)) hry.short
    have hs1 : IntKind.i64.wrap ((k : Int) - 1) = (m : Int) := by rw [IntWalk.i64_in _ (by have := Hl.out; omega)]; omega
    have hw1 : IntKind.i64.wrap ((k : Int) + 1) = (k : Int) + 1 := IntWalk.i64_in _ (by have := Hl.out; omega)
    have Hc := Hz hc; have Hx := Hz hx; have Hy := Hz hy; have Hkm := Hz hkm; clear hc hx hy hrx hry hkm
    go_wp2
    go_still_tail 10, (by kernel_rfl)
    change wpList _ _ _ _ _ wr.drew
    go_wp2_with fail
    refine Hc.out.mono ?_
    rintro e w2 ⟨rfl, hf2⟩
    have HF2 := Hz (HF.out.drew.trans hf2 (by simp)); clear hf2 kx ky Hc
    by_cases hxy : yr = xr
    ·rw [eqB_true hxy]
     have heq := compact_take_eq ps m Hx.out (by have := Hy.out; rw [Hkm.out] at this; exact this) hxy.symm
     have hC1 : compactP (ps.take (k + 1)) = ps.take k := by
      have e1 : k + 1 = m + 2 := by have := Hkm.out; omega
      have e2 := HC.out
      rw [Hkm.out] at e2 ⊢
      rw [show m + 1 + 1 = m + 2 from rfl, heq, e2]
     have HC1 := Hz hC1
     have hkc : decide ((k : Int) < (c : Int)) = true := decide_eq_true (by have := Hcap.out; omega)
     have hkc2 : (k : Int) < (c : Int) := by have := Hcap.out; omega
     have hkc3 : (k : Int) <= (c : Int) := by omega
     have hcm := Hcm.out
     clear hxy heq hC1
     go_upto_region 8 with (fail)
     have hP0 : Packed w w2 (.slice (some ⟨g, off, none⟩) ps.length c) g ps (k + 1) (ps.take k) := by
      refine ⟨HC1.out.symm, ?_, HF2.out.mono (by simp)⟩
      have e1 : (ps.take k).length = k := by simp; omega
      have e2 : (ps.take k).map (·.1) ++ (ps.map (·.1)).drop (ps.take k).length = ps.map (·.1) := by
       rw [e1, List.map_take, List.take_append_drop]
      rw [e2]
      exact H.out.fr HF2.out (by simp)
     have HP0 := Hz hP0; clear hP0 hkc hkc2 hkc3 HC1 HC HF HF2 Hx Hy hs1 hw1 hmI
     generalize hD : ps.length - k = D at *
     generalize hE : c - k = E at *
     have HD := Hz hD; clear hD hE
     go_wp2
     go_loopw [7, 5] (fun i q wr => ∃ (j : Nat) (C : List HR), i = .int .i64 j /\ q = .int .i64 C.length /\ 1 <= j /\ j <= D /\ C.length <= m + j /\ Hid (Packed w wr (.slice (some ⟨g, off, none⟩) ps.length c) g ps (k + j) C)) (fun i _ _ => (D - intOf i).toNat)
     case atStart => exact ⟨1, ps.take k, rfl, by
      have e1 : (ps.take k).length = k := by simp; omega
      rw [e1], Nat.le_refl _, by have := HD.out; omega, by have := Hkm.out; simp; omega, HP0⟩
     case round =>
      obtain ⟨j, C, rfl, rfl, hj1, hj, hCl, HP⟩ := hrel
      by_cases hjl : j < D
      ·obtain ⟨i, hij⟩ : ∃ i, j = i + 1 := ⟨j - 1, by omega⟩
       have hn : k + j < ps.length := by have := HD.out; omega
       have hjI : (j : Int) < (D : Int) := by omega
       have hiI : (i : Int) < (D : Int) := by omega
       obtain ⟨x2, hx2⟩ : ∃ x, ps[k + i]? = some x := ⟨ps[k + i], List.getElem?_eq_getElem (by omega)⟩
       obtain ⟨y2, hy2⟩ : ∃ y, ps[k + j]? = some y := ⟨ps[k + j], List.getElem?_eq_getElem (by omega)⟩
       have hrx := Hp.out x2 (List.mem_of_getElem? hx2)
       have hry := Hp.out y2 (List.mem_of_getElem? hy2)
       have hCm : (C.map (·.1)).length = C.length := by simp
       have kx := Hcell.out wr _ HP.out.sl (k + i) x2.1 (by omega) (by
        have := cells_at (C.map (·.1)) (ps.map (·.1)) (k + i) (by rw [hCm]; have := Hkm.out; omega)
        rw [hCm] at this
        rw [this, List.getElem?_map, hx2]; rfl)
       have ky := Hcell.out wr _ HP.out.sl (k + j) y2.1 (by omega) (by
        have := cells_at (C.map (·.1)) (ps.map (·.1)) (k + j) (by rw [hCm]; have := Hkm.out; omega)
        rw [hCm] at this
        rw [this, List.getElem?_map, hy2]; rfl)
       rw [<- Nat.add_assoc] at kx ky
       obtain ⟨xv, xr2⟩ := x2
       obtain ⟨yv, yr2⟩ := y2
       simp only at kx ky
       obtain ⟨ax2, cx2, hxe, _, _⟩ := hrx.rd.rd.shape
       obtain ⟨ay2, cy2, hye, _, _⟩ := hry.rd.rd.shape
       simp only at hxe hye
       subst hxe hye
       have hc := same103 (hry.rd.fr HP.out.fr.drew hry.off) (hrx.rd.fr HP.out.fr.drew hrx.off) hry.short
       have hs2 : IntKind.i64.wrap ((j : Int) - 1) = (i : Int) := by rw [IntWalk.i64_in _ (by have := Hl.out; omega)]; omega
       have hw2 : IntKind.i64.wrap ((j : Int) + 1) = (j : Int) + 1 := IntWalk.i64_in _ (by have := Hl.out; omega)
       have Hc := Hz hc; have Hx2 := Hz hx2; have Hy2 := Hz hy2; have Hij := Hz hij; have Hn := Hz hn; clear hc hx2 hy2 hrx hry hij hn hCm
       go_wp2
       go_still_tail 10, (by kernel_rfl)
       change wpList _ _ _ _ _ wr.drew
       go_wp2_with fail
       refine Hc.out.mono ?_
       rintro e w3 ⟨rfl, hf3⟩
       have hf3w := (World.Fr.refl wr []).drew.trans hf3 (by simp)
       have HP3 : Hid (Packed w w3 (.slice (some ⟨g, off, none⟩) ps.length c) g ps (k + j) C) := Hz ⟨HP.out.is, HP.out.sl.fr hf3w (by simp), HP.out.fr.drew.trans hf3 (by simp)⟩
       have ky3 : w3.cell? ⟨g, off + k + j, none⟩ = some (.slice ay2 yr2.length cy2) := by
        have hgw : g < wr.heap.size := by have := HP.out.fr.size; omega
        rw [<- ky]
        exact World.cell?_of_block (a := ⟨g, off + k + j, none⟩) (hf3.block g hgw (by simp))
       clear hf3 hf3w kx ky Hc
       have hpr : ps[k + i]? = some (.slice ax2 xr2.length cx2, xr2) := Hx2.out
       by_cases hxy2 : yr2 = xr2
       ·rw [eqB_true hxy2]
        have hnx := compact_take_eq ps (k + i) Hx2.out (by have := Hy2.out; rw [Hij.out] at this; exact this) hxy2.symm
        have Hnx := Hz hnx; clear hnx hxy2 hpr
        go_wp2
        go_roundw
        case rel => exact ⟨j + 1, C, by go_num, rfl, by omega, by omega, by omega, Hz ⟨by
         rw [HP3.out.is, show k + (j + 1) = k + i + 2 by have := Hij.out; omega, Hnx.out, show k + j = k + i + 1 by have := Hij.out; omega], HP3.out.sl, HP3.out.fr⟩⟩
        case measure => simp [intOf]; omega
       ·rw [eqB_false hxy2]
        have hnx := compact_take_ne ps (k + i) Hx2.out (by have := Hy2.out; rw [Hij.out] at this; exact this) (fun e => hxy2 e.symm)
        have Hnx := Hz hnx; clear hnx hxy2 hpr
        have hq : C.length < ps.length := by have := Hn.out; have := Hkm.out; omega
        have hqI : (C.length : Int) < (ps.length : Int) := by omega
        have hw3 : IntKind.i64.wrap ((C.length : Int) + 1) = (C.length : Int) + 1 := IntWalk.i64_in _ (by have := Hl.out; omega)
        have hfree3 : ∀ z, w3.frozen? ⟨g, z, none⟩ = false := fun z => HP3.out.sl.free z
        obtain ⟨z0, z1, z2⟩ : ∃ y, w3.cell? ⟨g, off + C.length, none⟩ = some y /\ True := by
         have := HP3.out.sl.cells rfl C.length (by omega)
         rw [List.getElem?_append_right (by simp)] at this
         simp only [List.length_map, Nat.sub_self, List.getElem?_drop, Nat.add_zero] at this
         rw [List.getElem?_eq_getElem (by simpa using hq)] at this
         exact ⟨_, this, trivial⟩
        clear z2
        have hset := HP3.out.sl.set C.length hq (.slice ay2 yr2.length cy2)
        have hcs := cells_step (C.map (·.1)) (ps.map (·.1)) (.slice ay2 yr2.length cy2) (by simpa using hq)
        simp only [List.length_map] at hcs
        rw [hcs] at hset
        have HPn : Hid (Packed w (w3.setCell ⟨g, off + C.length, none⟩ (.slice ay2 yr2.length cy2)) (.slice (some ⟨g, off, none⟩) ps.length c) g ps (k + (j + 1)) (C ++ [(.slice ay2 yr2.length cy2, yr2)])) := Hz ⟨by
         rw [show k + (j + 1) = k + i + 2 by have := Hij.out; omega, Hnx.out, HP3.out.is, show k + j = k + i + 1 by have := Hij.out; omega], by
         have e1 : (C ++ [((.slice ay2 yr2.length cy2 : Value), yr2)]).length = C.length + 1 := by simp
         rw [e1, List.map_append]
         exact hset.1, HP3.out.fr.trans hset.2 (by simp)⟩
        clear hset hcs
        go_wp2
        go_roundw
        case rel => exact ⟨j + 1, _, by go_num, by simp, by omega, by omega, by simp; omega, HPn⟩
        case measure => simp [intOf]; omega
      ·have hjD : j = D := by omega
       have hkn : k + j = ps.length := by have := HD.out; omega
       have hq : C.length < ps.length := by have := Hkm.out; omega
       have hCp : C = compactP ps := by have := HP.out.is; rw [hkn, List.take_length] at this; exact this
       have hdj : decide ((j : Int) < (D : Int)) = false := decide_eq_false (by omega)
       have hdj2 : decide (j < D) = false := decide_eq_false hjl
       obtain ⟨ys, hys, htk, hfr⟩ := HP.out.sl.sets (List.replicate (ps.length - C.length) (.slice none 0 0)) C.length (by simp; omega)
       have hfin := hys.take C.length (by omega)
       have htk2 : ys.take (C.length * 1) = (compactP ps).map (·.1) := by
        rw [Nat.mul_one, htk, List.take_append_of_le_length (by simp), List.take_of_length_le (by simp), hCp]
       rw [htk2] at hfin
       have hfr2 := HP.out.fr.trans hfr (fun j hj => .inl hj)
       have hclear : ∀ ty, (Builtin.clear_ #[32] ty #[.slice (some ⟨g, off + C.length, none⟩) (ps.length - C.length) (c - C.length)]).run Tryz.prog wr = .ok (.tuple #[]) (wr.setCells g (off + C.length) (List.replicate (ps.length - C.length) (.slice none 0 0))) := fun ty =>
        Lib.run_clear_slice wr 32 81 ty (.slice none 0 0) Tryz.underlying32 (fun w => by kernel_rfl) rfl rfl g (off + C.length) _ _ (by omega) (fun z hz => by
         have := HP.out.sl.cells rfl (C.length + z) (by omega)
         rw [Nat.add_assoc, this]
         have hxl := HP.out.sl.len
         rw [List.getElem?_eq_getElem (by rw [hxl]; omega)]
         rfl) (fun z _ => HP.out.sl.free _)
       have hlenC : (compactP ps).length = C.length := by rw [hCp]
       have hqI : (C.length : Int) < (ps.length : Int) := by omega
       have hqc : (C.length : Int) < (c : Int) := by have := Hcap.out; omega
       have hqc2 : (C.length : Int) <= (c : Int) := by omega
       have hqn : (C.length : Int) <= (ps.length : Int) := by omega
       have hqd : decide ((C.length : Int) < (c : Int)) = true := decide_eq_true hqc
       have hcm2 := Hcm.out
       have Hfin := Hz hfin; have Hfr2 := Hz hfr2; have HlenC := Hz hlenC; clear hfin hfr2 hlenC hys htk hfr htk2 hCp HP hjl hjD hkn
       generalize hq2 : C.length = q at *
       go_wp2
       go_ret
       exact ⟨_, rfl, by rw [HlenC.out]; exact Hfin.out, fun k hk => by simpa [Value.blk] using hk, Hfr2.out⟩
    ·rw [eqB_false hxy]
     have hne := compact_take_ne ps m Hx.out (by have := Hy.out; rw [Hkm.out] at this; exact this) (fun e => hxy e.symm)
     have Hne := Hz hne; clear hxy hne
     go_wp2
     go_roundw
     case rel => exact ⟨k + 1, by go_num, by omega, by omega, Hz (by
      have e1 : k + 1 = m + 2 := by have := Hkm.out; omega
      have e2 := HC.out
      rw [Hkm.out] at e2
      have e3 := Hy.out
      rw [Hkm.out] at e3
      have e4 : m + 1 < ps.length := by have := Hkm.out; omega
      rw [e1, Hne.out, e2, List.take_succ_eq_append_getElem e4, (List.getElem?_eq_some_iff.1 e3).2]), HF2⟩
     case measure => simp [intOf]; omega
   ·have hd3 : decide ((k : Int) < (ps.length : Int)) = false := decide_eq_false (by omega)
    have hd4 : decide (k < ps.length) = false := decide_eq_false hlt
    have hmz : k = ps.length := by omega
    have hk : compactP ps = ps := by have := HC.out; rw [hmz, List.take_length] at this; exact this
    have Hk := Hz hk; clear hk hmz hlt HC hm hk1
    go_wp2
    go_ret
    exact ⟨_, rfl, by rw [Hk.out]; exact H.out.fr HF.out (by simp), fun k hk => hk, HF.out.mono (by simp)⟩
end
end Go.Proofs.YtbejmdlncnkaaaaGreat
