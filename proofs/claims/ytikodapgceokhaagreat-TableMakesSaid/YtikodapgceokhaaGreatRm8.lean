/-
  The document's Empty; the law's spoil.
-/
import Derived.Test.YtikodapgceokhaaGreatRm7
import Derived.Test.YtikodapgceokhaaGreatXy
namespace Go.Proofs.YtikodapgceokhaaGreat
open Go.RowKit

theorem rempty34 {cf : V → V → Int} (hRK : RChkOk V.wf) (hRC : RCmpOk V.wf cf) (hO : OrdOk (fun v => V.wf v ∧ vcheck v = 0) cf) {w : World} {v1 : Value} {l : List BA} (h1 : RdStr w v1 l) (hl : l.length ≤ 8796093021952) :
    Calls Tryz.prog 34 #[v1] w fun e w' => ∃ v, e = .returned (.tuple #[v, .int .i64 (ofT cf l []).1]) ∧ OwnTab w w' v (ofT cf l []).2 := by
  have hc := fun (w0 : World) (hf : w.Fr w0 []) => rof33 (w := w0) (v2 := .slice none 0 0) (rs := []) (hs := []) hRK hRC hO (h1.fr hf (by simp)) ⟨rdNil _ _, rfl, by simp⟩ hl (by simp) (by simp [Short]) (by simp)
  obtain ⟨a1, c1, rfl, _, _⟩ := h1.rd.shape
  have Hc := Lib.hid hc; clear hc h1 hl hRK hRC hO
  generalize ofT cf l [] = R at *
  obtain ⟨R1, R2⟩ := R
  simp only at Hc
  go_enter Tryz.func34, Tryz.ntmps34
  go_upto_region 1 with (fail)
  generalize hW : World.alloc w _ = W
  have q1 : W.heap[w.heap.size]? = some (.cells #[.slice none 0 0, .slice none 0 0] 25 (0, 0)) := by rw [← hW]; exact heap_alloc_at _ _ _ rfl
  have q2 : w.Fr W [] := by rw [← hW]; exact (World.Fr.refl w []).alloc _
  clear hW
  have Q1 := Lib.hid q1; have Q2 := Lib.hid q2; clear q1 q2
  go_wp2_with fail
  refine (Hc.out _ Q2.out).mono ?_
  rintro e w2 ⟨v, rfl, ho⟩
  obtain ⟨x1, y1, x2, y2, rfl⟩ := ho.shape
  have hbx := ho.fr.heap Q1.out (by simp)
  have ho2 := (ho.since Q2.out).put hbx (Nat.le_refl _)
  obtain ⟨p0, p1, pf⟩ := two hbx
  have hbW := lt_of_heap hbx
  obtain ⟨f0, f1, _⟩ := two ho2.2
  have Hfin := Lib.hid ho2.1
  clear ho2 ho hbx
  go_wp2
  refine bodyPost_ret (v := .tuple #[.agg #[.slice x1 R2.vars.length y1, .slice x2 R2.rows.length y2], .int .i64 R1]) (by simp [results, Tryz.results34, go_sem, f0, f1]) rfl ⟨_, rfl, Hfin.out⟩

/-- what may be written over: a slice's cells lie there, whatever they hold -/
def Room (w : World) (e : TypeId) (size : Nat) (v : Value) (n : Nat) : Prop :=
  ∃ a cap, v = .slice a n cap ∧ n ≤ cap ∧ (n = 0 ∨ ∃ g off cur, a = some ⟨g, off, none⟩ ∧ w.heap[g]? = some (.cells cur e (0, 0)) ∧ off + n * size ≤ cur.size)
theorem Room.of_sl {w : World} {e : TypeId} {size n : Nat} {v : Value} {xs : List Value} (h : w.Sl e size v n xs) : Room w e size v n := by
  rcases h.2 with ⟨rfl, rfl⟩ | ⟨g, off, cap, cur, rfl, hg, hc, hm, hfit, _⟩
  · exact ⟨none, 0, rfl, Nat.le_refl _, .inl rfl⟩
  · exact ⟨_, _, rfl, hc, .inr ⟨g, off, cur, rfl, hg, by have := Nat.mul_le_mul_right size hc; omega⟩⟩
theorem Room.fr {w w' : World} {e : TypeId} {size n : Nat} {v : Value} (h : Room w e size v n) (hf : w.Fr w' []) : Room w' e size v n := by
  obtain ⟨a, cap, hv, hc, h⟩ := h
  refine ⟨a, cap, hv, hc, ?_⟩
  rcases h with h | ⟨g, off, cur, ha, hg, hs⟩
  · exact .inl h
  · exact .inr ⟨g, off, cur, ha, hf.heap hg (by simp), hs⟩
theorem Room.set {w : World} {e : TypeId} {size n : Nat} {v : Value} (h : Room w e size v n) (b i : Nat) (u : Value) : Room (w.setCell ⟨b, i, none⟩ u) e size v n := by
  obtain ⟨a, cap, hv, hc, h⟩ := h
  refine ⟨a, cap, hv, hc, ?_⟩
  rcases h with h | ⟨g, off, cur, ha, hg, hs⟩
  · exact .inl h
  · refine .inr ?_
    by_cases hb : g = b
    · subst hb
      exact ⟨g, off, _, ha, heap_set_same hg i u, by rw [Array.size_setIfInBounds]; exact hs⟩
    · exact ⟨g, off, cur, ha, heap_set_other hg _ hb _, hs⟩
theorem Room.at {w : World} {e : TypeId} {size n : Nat} {v : Value} (h : Room w e size v n) {j : Nat} (hj : j < n) : ∃ g off cap, v = .slice (some ⟨g, off, none⟩) n cap ∧ g < w.heap.size ∧ (∃ cur, w.heap[g]? = some (.cells cur e (0, 0))) ∧ ∀ i, i < size → ∃ u, w.cell? ⟨g, off + j * size + i, none⟩ = some u := by
  obtain ⟨a, cap, hv, hc, h⟩ := h
  rcases h with h | ⟨g, off, cur, ha, hg, hs⟩
  · omega
  · subst ha
    refine ⟨g, off, cap, hv, lt_of_heap hg, ⟨cur, hg⟩, fun i hi => ?_⟩
    have h1 : (j + 1) * size ≤ n * size := Nat.mul_le_mul_right _ (by omega)
    rw [Nat.add_mul, Nat.one_mul] at h1
    have h2 : off + j * size + i < cur.size := by omega
    exact ⟨cur[off + j * size + i], by simp [World.cell?, hg, h2]⟩
end Go.Proofs.YtikodapgceokhaaGreat
