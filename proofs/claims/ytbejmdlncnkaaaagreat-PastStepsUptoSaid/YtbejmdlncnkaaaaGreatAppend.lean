/-
  append(v, src...) of any slice, nothing too, onto a slice that reads as cells; what is only read ('World.Rd'). Over any program, no condition.
-/
import Derived.Test.YtbejmdlncnkaaaaGreatBase
namespace Go
def Value.rblk : Value -> List Nat
 | .slice (some a) n _ => if n = 0 then [] else [a.block]
 | _ => []
theorem Value.rblk_sub {v : Value} {k : Nat} (h : k ∈ v.rblk) : k ∈ v.blk := by
 unfold Value.rblk at h
 split at h
 ·split at h
  ·cases h
  ·simpa [Value.blk] using h
 ·cases h
def World.Rd (w : World) (size : Nat) (v : Value) (n : Nat) (xs : List Value) : Prop :=
 xs.length = n * size /\ ((n = 0 /\ ∃ a cap, v = .slice a 0 cap /\ cap <= maxLen) ∨ ∃ g off cap, v = .slice (some ⟨g, off, none⟩) n cap /\ n <= cap /\ cap <= maxLen /\ g < w.heap.size /\ ∀ j, j < n * size -> w.cell? ⟨g, off + j, none⟩ = xs[j]?)
theorem World.Sl.rd {w : World} {e : TypeId} {size : Nat} {v : Value} {n : Nat} {xs : List Value} (h : w.Sl e size v n xs) : w.Rd size v n xs := by
 refine ⟨h.1, ?_⟩
 rcases h.2 with ⟨rfl, h0⟩ | ⟨g, off, cap, cur, rfl, hg, hc, hm, hfit, htake⟩
 ·exact .inl ⟨h0, none, 0, rfl, by simp [maxLen]⟩
 ·exact .inr ⟨g, off, cap, rfl, hc, hm, lt_of_heap hg, h.cells rfl⟩
section
variable {w w' : World} {size : Nat} {v : Value} {n : Nat} {xs : List Value}
theorem World.Rd.lt (h : w.Rd size v n xs) : ∀ k, k ∈ v.rblk -> k < w.heap.size := by
 intro k hk
 rcases h.2 with ⟨_, a, cap, rfl, _⟩ | ⟨g, off, cap, rfl, _, _, hg, _⟩
 ·cases a <;> simp [Value.rblk] at hk
 ·have := Value.rblk_sub hk; simp [Value.blk] at this; subst this; exact hg
theorem World.Rd.of_heap (h : w.Rd size v n xs) (hs : w.heap.size <= w'.heap.size) (hk : ∀ k, k ∈ v.rblk -> w'.heap[k]? = w.heap[k]?) : w'.Rd size v n xs := by
 refine ⟨h.1, ?_⟩
 rcases h.2 with hn | ⟨g, off, cap, rfl, hc, hm, hg, hcell⟩
 ·exact .inl hn
 ·refine .inr ⟨g, off, cap, rfl, hc, hm, by omega, fun j hj => (World.cell?_of_block (a := ⟨g, off + j, none⟩) (hk g ?_)).trans (hcell j hj)⟩
  have hn : n ≠ 0 := fun e => by subst e; simp at hj
  simp [Value.rblk, hn]
theorem World.Rd.fr {L : List Nat} (h : w.Rd size v n xs) (hf : w.Fr w' L) (hd : ∀ k, k ∈ v.rblk -> k ∉ L) : w'.Rd size v n xs :=
 h.of_heap hf.size fun k hk => hf.block k (h.lt k hk) (hd k hk)
theorem World.Rd.shape (h : w.Rd size v n xs) : ∃ a cap, v = .slice a n cap /\ n <= cap /\ cap <= maxLen := by
 rcases h.2 with ⟨rfl, a, cap, rfl, hm⟩ | ⟨g, off, cap, rfl, hc, hm, _⟩
 ·exact ⟨a, cap, rfl, Nat.zero_le _, hm⟩
 ·exact ⟨_, cap, rfl, hc, hm⟩
theorem World.Rd.form (h : w.Rd size v n xs) (hn : 0 < n) : ∃ g off cap, v = .slice (some ⟨g, off, none⟩) n cap /\ n <= cap /\ cap <= maxLen /\ g < w.heap.size /\ (∀ j, j < n * size -> w.cell? ⟨g, off + j, none⟩ = xs[j]?) := by
 rcases h.2 with ⟨rfl, _⟩ | h
 ·omega
 ·exact h
theorem World.Rd.add (h : w.Rd size v n xs) {g off cap : Nat} (hv : v = .slice (some ⟨g, off, none⟩) n cap) : ∀ j u, xs[j]? = some u -> w.cell? ((⟨g, off, none⟩ : Addr).add j) = some u := by
 subst hv
 intro j u hu
 have hj : j < n * size := by
  have := (List.getElem?_eq_some_iff.1 hu).1
  rw [h.1] at this; exact this
 have hadd : (⟨g, off, none⟩ : Addr).add j = ⟨g, off + j, none⟩ := by unfold Addr.add; split <;> simp_all
 rcases h.2 with ⟨h0, _⟩ | ⟨g', off', cap', he, _, _, _, hcell⟩
 ·subst h0; simp at hj
 ·cases he
  rw [hadd, hcell j hj, hu]
end
section
variable {P : Program} (w : World)
theorem run_append_none (t ty : TypeId) (e : TypeId) (i : TypeInfo) (ht : P.underlying t = some (.slice e)) (hi : P.info? e = some i) (a : Option Addr) (n cap : Nat) (hc : n <= cap) (b : Option Addr) (c : Nat) :
  (Builtin.append_ #[t, t] ty #[.slice a n cap, .slice b 0 c]).run P w = .ok (.slice a n cap) w := by
 cases a <;> cases b <;> simp [Builtin.append_, run_underlying ht, sizeOf, typeInfo, hi, Builtin.lenOf, hc, Builtin.firstCells, loadCells, loadCellsFrom, storeCells]
theorem run_append_src (t ty : TypeId) (e : TypeId) (i : TypeInfo) (z : Value) (size bytes : Nat) (ht : P.underlying t = some (.slice e)) (hi : P.info? e = some i) (hz : i.zero = some z)
  (hsize : i.size = size) (hby : i.bytes = bytes) (hzs : z.cells.size = size)
  (v : Value) (n : Nat) (xs : List Value) (hown : w.Sl e size v n xs) (x : Value) (m : Nat) (ys : List Value) (hsrc : w.Rd size x m ys) (h1 : ys.all Value.oneCell' = true)
  (hroom : (n + m) * bytes <= 140737488355328 /\ n + m <= 9223372036854775807) :
  ∃ v' w', (Builtin.append_ #[t, t] ty #[v, x]).run P w = .ok v' w' /\ w'.Sl e size v' (n + m) (xs ++ ys) /\ w.Fr w' v.blk /\ (∀ k, k ∈ v'.blk -> k ∈ v.blk ∨ k = w.heap.size) := by
 by_cases hm : m = 0
 ·subst hm
  obtain ⟨a, cap, rfl, hc, _⟩ := hown.shape
  obtain ⟨b, c, rfl, _, _⟩ := hsrc.shape
  have hy : ys = [] := List.eq_nil_of_length_eq_zero (by simpa using hsrc.1)
  subst hy
  exact ⟨_, w, run_append_none w t ty e i ht hi a n cap hc b c, by simpa using hown, World.Fr.refl w _, fun k hk => .inl hk⟩
 ·obtain ⟨g, off, c, rfl, _, _, _, _⟩ := hsrc.form (by omega)
  obtain ⟨g', off', cap', w', hr, h2, h3, h4, h5⟩ := run_append_sl (P := P) w t ty e i z size bytes ht hi hz hsize hby hzs v n xs hown ⟨g, off, none⟩ m c ys hsrc.1 (hsrc.add rfl) (fun u hu => List.all_eq_true.1 h1 u hu) (by omega) (by unfold maxLen; exact hroom.2) hroom.1
  exact ⟨_, w', hr, h2, h3, fun k hk => by simp [Value.blk] at hk; subst hk; exact h4⟩
theorem wp_append_src {o : Oper} {a : Act} {K : Act -> World -> Prop} {Q : Exit -> Act -> World -> Prop} (s x : Operand) (t : TypeId)
  (ho : o.op = .call { callee := .builtin .append, args := #[s, x], argTypes := #[t, t] })
  (e : TypeId) (i : TypeInfo) (z : Value) (size bytes : Nat) (ht : P.underlying t = some (.slice e)) (hi : P.info? e = some i) (hz : i.zero = some z)
  (hsize : i.size = size) (hby : i.bytes = bytes) (hzs : z.cells.size = size)
  (v : Value) (n : Nat) (xs : List Value) (hs : a.eval s = v) (hown : w.Sl e size v n xs) (xv : Value) (m : Nat) (ys : List Value) (hx : a.eval x = xv) (hsrc : w.Rd size xv m ys) (h1 : ys.all Value.oneCell' = true)
  (hroom : (n + m) * bytes <= 140737488355328 /\ n + m <= 9223372036854775807)
  (h : ∀ v' w', w'.Sl e size v' (n + m) (xs ++ ys) -> w.Fr w' v.blk -> (∀ k, k ∈ v'.blk -> k ∈ v.blk ∨ k = w.heap.size) -> K (a.put o.dst v') w') : o.wp P a w K Q := by
 obtain ⟨v', w', hr, h2, h3, h4⟩ := run_append_src (P := P) w t o.type e i z size bytes ht hi hz hsize hby hzs v n xs hown xv m ys hsrc h1 hroom
 unfold Oper.wp execOp
 simp only [ho, resolve, invoke, builtin, Sem.run_bind, Sem.run_pure, Result.andThen_ok, List.map_toArray, List.map_cons, List.map_nil, hs, hx, hr]
 exact h v' w' h2 h3 h4
theorem wpList_append_src {ops : Array Oper} {rest : List Oper} {o : Oper} {a : Act} {Q : Exit -> Act -> World -> Prop} (hgd : o.guard = none) (s x : Operand) (t : TypeId)
  (ho : o.op = .call { callee := .builtin .append, args := #[s, x], argTypes := #[t, t] })
  (e : TypeId) (i : TypeInfo) (z : Value) (size bytes : Nat) (ht : P.underlying t = some (.slice e)) (hi : P.info? e = some i) (hz : i.zero = some z)
  (hsize : i.size = size) (hby : i.bytes = bytes) (hzs : z.cells.size = size)
  (v : Value) (n : Nat) (xs : List Value) (hs : a.eval s = v) (hown : w.Sl e size v n xs) (xv : Value) (m : Nat) (ys : List Value) (hx : a.eval x = xv) (hsrc : w.Rd size xv m ys) (h1 : ys.all Value.oneCell' = true)
  (hroom : (n + m) * bytes <= 140737488355328 /\ n + m <= 9223372036854775807)
  (h : ∀ v' w', w'.Sl e size v' (n + m) (xs ++ ys) -> w.Fr w' v.blk -> (∀ k, k ∈ v'.blk -> k ∈ v.blk ∨ k = w.heap.size) -> wpList P ops Q rest (a.put o.dst v') w') : wpList P ops Q (o :: rest) a w :=
 wpList_plain hgd fun _ hK => wp_append_src w s x t ho e i z size bytes ht hi hz hsize hby hzs v n xs hs hown xv m ys hx hsrc h1 hroom fun v' w' h2 h3 h4 => hK _ _ (h v' w' h2 h3 h4)
end
end Go
