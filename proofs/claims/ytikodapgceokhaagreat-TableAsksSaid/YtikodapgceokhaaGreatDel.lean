/-
  The walks of slices.DeleteFunc of names with the program's closures, table.shared.
-/
import Derived.Test.YtikodapgceokhaaGreatUniq
namespace Go.Proofs.YtikodapgceokhaaGreat
open Go.RowKit

/-- a closure that tells p of a name, wherever nothing but the blocks of M has turned -/
structure Tells (g : Nat) (cb : Array Value) (p : BA → Bool) (w : World) (M : List Nat) : Prop where
  eg : ∀ args w, (callFunc g args).run Tryz.prog w = .ok (.enter g args) w
  call : ∀ W x, w.Fr W M → Calls Tryz.prog g (#[.string x] ++ cb) W fun e W' => e = .returned (.bool (p x)) ∧ W = W'

theorem del64 {w : World} {v : Value} {l : List BA} {g : Nat} {cb : Array Value} {p : BA → Bool} (h : w.Sl 9 1 v l.length (l.map Value.string)) (hl : l.length ≤ 8796093021952) (hp : Tells g cb p w v.blk) :
    Calls Tryz.prog 64 #[v, .func (.func g) #[] cb] w fun e w' => ∃ v', e = .returned v' ∧ w'.Sl 9 1 v' (l.filter fun x => !p x).length ((l.filter fun x => !p x).map Value.string) ∧ (∀ k, k ∈ v'.blk → k ∈ v.blk) ∧ w.Fr w' v.blk := by
  by_cases h0 : l.length = 0
  · obtain rfl := List.eq_nil_of_length_eq_zero h0
    obtain ⟨a, c, rfl, _, _⟩ := h.shape
    have hi := fun w => Tryz.slices_IndexFunc_empty (α := BA) a c (.func (.func g) #[] cb) w
    have H := Lib.hid h; have Hi := Lib.hid hi; clear h hl hp hi h0
    simp only [List.length_nil] at *
    go_enter Tryz.func64, Tryz.ntmps64
    go_wp2_with fail
    refine (Hi.out _).mono ?_
    rintro e w1 ⟨rfl, rfl⟩
    go_wp2
    go_ret
    exact ⟨_, rfl, H.out, fun k hk => hk, World.Fr.refl _ _⟩
  · obtain ⟨gb, off, c, rfl, hcap, _, hg, _, _⟩ := h.form (by omega)
    have hpa : PredAt Tryz.prog g cb Value.string p w := fun W x hb => (hp.call W x (World.Fr.of_below hb _)).mono fun e W' ⟨he, hw⟩ => ⟨he, 0, by rw [← hw]; rfl⟩
    have hpo : PredOver Tryz.prog g cb Value.string p gb off l.toArray.size w := fun n os dk x hs => by
      refine (hp.call _ x ?_).mono fun e W' ⟨he, hw⟩ => ⟨he, 0, by rw [← hw]; rfl⟩
      have := (h.sorted dk (by simpa using hs) n os).2
      simpa [Value.blk] using this
    have hc := Tryz.slices_DeleteFunc Value.string (fun _ => rfl) p g cb hp.eg (ByteArray.empty) (fun w => by kernel_rfl) gb off c l.toArray w hpa hpo h.holds (by simp; omega) (by simpa using hcap)
    have e1 : l.toArray.size = l.length := by simp
    rw [e1] at hc
    refine hc.mono fun e w' ⟨he, q, hw⟩ => ?_
    obtain ⟨h1, h2⟩ := h.sorted (((l.filter fun x => !p x) ++ List.replicate (l.length - (l.filter fun x => !p x).length) ByteArray.empty).toArray) (by
      have := List.length_filter_le (fun x => !p x) l
      simp only [List.size_toArray, List.length_append, List.length_replicate]
      omega) q #[]
    have hw' : w' = Go.Proofs.sortWorld Value.string w gb off q (((l.filter fun x => !p x) ++ List.replicate (l.length - (l.filter fun x => !p x).length) ByteArray.empty).toArray) #[] := by
      rw [hw]
      unfold Go.Proofs.sortWorld
      rw [Sort.grow_empty]
    rw [← hw'] at h1 h2
    have hfl := List.length_filter_le (fun x => !p x) l
    have h3 := h1.take (l.filter fun x => !p x).length hfl
    refine ⟨_, he, ?_, fun k hk => by simpa [Value.blk] using hk, by simpa [Value.blk] using h2⟩
    have e2 : ((((l.filter fun x => !p x) ++ List.replicate (l.length - (l.filter fun x => !p x).length) ByteArray.empty).toArray.toList.map Value.string).take ((l.filter fun x => !p x).length * 1)) = (l.filter fun x => !p x).map Value.string := by
      simp only [Nat.mul_one, List.map_append]
      rw [List.take_append_of_le_length (by simp), List.take_of_length_le (by simp)]
    rw [e2] at h3
    exact h3

theorem one1 {w : World} {p : Nat} {t : TypeId} {a : Value} (hh : w.heap[p]? = some (.cells #[a] t (0, 0))) : w.cell? ⟨p, 0, none⟩ = some a := by simp [World.cell?, hh]

theorem tells95 {w : World} {v : Value} {l : List BA} {M : List Nat} (cb : Nat) (h : RdStr w v l) (hl : l.length ≤ 8796093021952) (hb : w.heap[cb]? = some (.cells #[v] 22 (0, 0))) (hcb : cb ∉ M) (hM : ∀ k, k ∈ v.rblk → k ∉ M) :
    Tells 95 #[.pointer (some ⟨cb, 0, none⟩)] (fun x => !hasS l x) w M := by
  refine ⟨fun args w => by kernel_rfl, fun W x hf => ?_⟩
  have hc := contains67 x (h.fr hf hM) (by omega)
  have hcell := one1 (hf.heap hb hcb)
  obtain ⟨a, c, rfl, _, _⟩ := h.rd.shape
  have Hc := Lib.hid hc; clear hc h hb hM hf
  generalize hasS l x = b at *
  go_enter Tryz.func95, Tryz.ntmps95
  go_wp2_with fail
  refine Hc.out.mono ?_
  rintro e w1 ⟨rfl, rfl⟩
  go_wp2
  go_ret
  exact ⟨rfl, rfl⟩
theorem tells85 {w : World} {v : Value} {l : List BA} {M : List Nat} (cb : Nat) (h : RdStr w v l) (hl : l.length ≤ 8796093021952) (hb : w.heap[cb]? = some (.cells #[v] 22 (0, 0))) (hcb : cb ∉ M) (hM : ∀ k, k ∈ v.rblk → k ∉ M) :
    Tells 85 #[.pointer (some ⟨cb, 0, none⟩)] (fun x => hasS l x) w M := by
  refine ⟨fun args w => by kernel_rfl, fun W x hf => ?_⟩
  have hc := contains67 x (h.fr hf hM) (by omega)
  have hcell := one1 (hf.heap hb hcb)
  obtain ⟨a, c, rfl, _, _⟩ := h.rd.shape
  have Hc := Lib.hid hc; clear hc h hb hM hf
  go_enter Tryz.func85, Tryz.ntmps85
  go_wp2_with fail
  refine Hc.out.mono ?_
  rintro e w1 ⟨rfl, rfl⟩
  go_wp2
  go_ret
  exact ⟨rfl, rfl⟩
theorem tells66 {w : World} {v u : Value} {l : List BA} {M : List Nat} (cb : Nat) (h : RdStr w v l) (hl : l.length ≤ 8796093021952) (hb : w.heap[cb]? = some (.cells #[v, u] 25 (0, 0))) (hcb : cb ∉ M) (hM : ∀ k, k ∈ v.rblk → k ∉ M) :
    Tells 66 #[.pointer (some ⟨cb, 0, none⟩)] (fun x => hasS l x) w M := by
  refine ⟨fun args w => by kernel_rfl, fun W x hf => ?_⟩
  have hc := contains67 x (h.fr hf hM) (by omega)
  obtain ⟨hcell, _, _⟩ := two (hf.heap hb hcb)
  obtain ⟨a, c, rfl, _, _⟩ := h.rd.shape
  have Hc := Lib.hid hc; clear hc h hb hM hf
  go_enter Tryz.func66, Tryz.ntmps66
  go_wp2_with fail
  refine Hc.out.mono ?_
  rintro e w1 ⟨rfl, rfl⟩
  go_wp2
  go_ret
  exact ⟨rfl, rfl⟩

noncomputable def sharedL (a b : List BA) : List BA := a.filter fun x => hasS b x
set_option maxRecDepth 100000 in
set_option maxHeartbeats 1000000 in
theorem shared63 {w : World} {v1 v2 : Value} {a b : List BA} (h1 : RdStr w v1 a) (h2 : RdStr w v2 b) (ha : a.length ≤ 8796093021952) (hb : b.length ≤ 8796093021952) :
    Calls Tryz.prog 63 #[v1, v2] w fun e w' => ∃ v, e = .returned v ∧ Own w w' 9 v ((sharedL a b).map Value.string) := by
  obtain ⟨a1, c1, rfl, _, _⟩ := h1.rd.shape
  obtain ⟨a2, c2, rfl, _, _⟩ := h2.rd.shape
  have hbox := heap_alloc_at w (.cells #[.slice a2 b.length c2] 22) _ rfl
  have hf0 := (World.Fr.refl w []).alloc (.cells #[.slice a2 b.length c2] 22)
  have hc := clone65 (h1.fr hf0 (by simp)) ha
  have H2 := Lib.hid h2; have Ha := Lib.hid ha; have Hb := Lib.hid hb; have Hbox := Lib.hid hbox; have Hf0 := Lib.hid hf0; have Hc := Lib.hid hc; clear h1 h2 ha hb hbox hf0 hc
  go_enter Tryz.func63, Tryz.ntmps63
  go_wp2_with fail
  refine Hc.out.mono ?_
  rintro e w1 ⟨v3, rfl, ho⟩
  obtain ⟨a3, c3, rfl⟩ := ho.shape
  rw [List.length_map] at ho ⊢
  have hnew : ∀ k, k ∈ (Value.slice a3 a.length c3).blk → w.heap.size + 1 ≤ k := fun k hk => by have := ho.new k hk; simpa using this
  have hb2 := H2.out.fr Hf0.out (by simp)
  have ht := tells95 (M := (Value.slice a3 a.length c3).blk) w.heap.size (hb2.fr ho.fr (by simp)) Hb.out (ho.fr.heap Hbox.out (by simp)) (fun hk => by have := hnew _ hk; omega) (fun k hk hk2 => by have := hnew _ hk2; have := H2.out.rd.lt k hk; omega)
  have hd := del64 (l := a) (by have := ho.sl; rw [List.length_map] at this; exact this) Ha.out ht
  have hnn : (a.filter fun x => !(!hasS b x)) = sharedL a b := by unfold sharedL; simp
  rw [hnn] at hd
  have Hd := Lib.hid hd; have Ho := Lib.hid ho; have Hnew := Lib.hid hnew; clear hd ho ht hb2 hnew
  go_wp2_with fail
  refine Hd.out.mono ?_
  rintro e w2 ⟨v4, rfl, hs4, hb4, hf4⟩
  obtain ⟨a4, c4, rfl, _, _⟩ := hs4.shape
  have hfin : Own w w2 9 (.slice a4 (sharedL a b).length c4) ((sharedL a b).map Value.string) :=
    ⟨by rw [List.length_map]; exact hs4, fun k hk => by have := Hnew.out k (hb4 k hk); omega, (Hf0.out.trans Ho.out.fr (by simp)).trans hf4 (fun j hj => .inr (by have := Hnew.out j hj; omega))⟩
  have Hfin := Lib.hid hfin; clear hfin hs4 hb4 hf4
  go_wp2
  go_ret
  exact ⟨_, rfl, Hfin.out⟩
end Go.Proofs.YtikodapgceokhaaGreat
