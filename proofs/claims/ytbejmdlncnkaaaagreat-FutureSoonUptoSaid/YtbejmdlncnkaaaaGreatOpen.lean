/-
  The statements' arguments, opened: names, rows, tables.
-/
import Derived.Test.YtbejmdlncnkaaaaGreatLow
import Derived.ProofKit
import Derived.OpenShut
import Derived.Deep.Slices
import Derived.Lib.SmallJoins
import Derived.SizedLaws
namespace Go.Proofs.YtbejmdlncnkaaaaGreat
open Go.RowKit Go.ChangeShapes Go.WideShapes Go.ChangeAt Go.Joins

theorem cellsOf60 : Tryz.prog.cellsOf 83 = 4 := by kernel_rfl
theorem cellsOf9 : Tryz.prog.cellsOf 9 = 1 := by kernel_rfl
theorem cellsOf32 : Tryz.prog.cellsOf 81 = 1 := by kernel_rfl
theorem cellsOf3 : Tryz.prog.cellsOf 3 = 1 := by kernel_rfl
theorem cellsOf2 : Tryz.prog.cellsOf 2 = 1 := by kernel_rfl
theorem inI64_of {n : Int} (h : (Lit.int .i64 n).wf = true) : inI64 n := by
  simp only [Lit.wf, IntKind.min, IntKind.max, Bool.and_eq_true] at h
  unfold inI64
  simp [IntKind.bits, IntKind.signed] at h
  omega

section
variable {H : Type} {enc : TypeId × Value → H} {w : World} {fuel : Nat} {x : DataW H × List MemPlace}
noncomputable abbrev tr (enc : TypeId × Value → H) (w : World) (fuel : Nat) (t : TypeId) (cs : List Value) : Option (DataW H × List MemPlace) := DataW.trod enc Tryz.prog w 0 (fun _ => true) true fuel t cs

set_option maxRecDepth 100000 in
theorem open_v {cs : List Value} (h : tr enc w fuel 83 cs = some x) : ∃ v : V, cs = v.enc ∧ v.wf := by
  obtain ⟨y0, y1, y2, y3, n, _, hl, h0, h1, h2, h3⟩ := trod_struct4 Tryz.underlying83 h
  rw [cellsOf60] at hl
  match cs, hl with
  | [c0, c1, c2, c3], _ =>
    obtain ⟨a, e0, _, w0⟩ := DataW.trod_int Tryz.underlying3 h0
    obtain ⟨b, e1, _, w1⟩ := DataW.trod_int Tryz.underlying2 h1
    obtain ⟨c, e2, _, w2⟩ := DataW.trod_int Tryz.underlying2 h2
    obtain ⟨d, e3, _, w3⟩ := DataW.trod_string Tryz.underlying9 h3
    simp only [cellsOf3, cellsOf2, cellsOf9, List.drop_zero, List.drop_succ_cons, List.take_succ_cons, List.take_zero, List.cons.injEq, and_true] at e0 e1 e2 e3
    exact ⟨⟨a, b, c, d⟩, by rw [e0, e1, e2, e3], ⟨inI64_of w0, inI64_of w1, inI64_of w2, by unfold maxLen at w3; exact w3⟩⟩
theorem spot_none {a : Addr} {v : Value} (h : w.cell? a = some v) : a.spot = none ∧ a.block < w.heap.size := by
  unfold World.cell? at h
  split at h
  · rename_i c e f hc
    split at h
    · exact absurd h (by simp)
    · rename_i hs
      exact ⟨by cases hq : a.spot with | none => rfl | some j => exact absurd (by rw [hq]; rfl) hs, by obtain ⟨hlt, _⟩ := Array.getElem?_eq_some_iff.1 hc; exact hlt⟩
  · exact absurd h (by simp)
theorem mapM_getO {α β : Type} {f : α → Option β} : ∀ {l : List α} {r : List β}, l.mapM f = some r → ∀ (i : Nat) (a : α), l[i]? = some a → f a = r[i]?
  | [], _, _, i, a, h => by simp at h
  | b :: l, r, h, i, a, hi => by
    rw [List.mapM_cons] at h
    obtain ⟨y, hy, h⟩ := Option.bind_eq_some_iff.1 h
    obtain ⟨ys, hys, h⟩ := Option.bind_eq_some_iff.1 h
    cases h
    cases i with
    | zero => simp only [List.getElem?_cons_zero, Option.some.injEq] at hi ⊢; subst hi; exact hy
    | succ i => simp only [List.getElem?_cons_succ] at hi ⊢; exact mapM_getO hys i a hi
theorem cells_atO {base : Nat} {a : Addr} {k : Nat} {cs : List Value} (h : w.cells? base a k = some cs) : ∀ j, j < k → w.cell? (a.add j) = cs[j]? := by
  unfold World.cells? at h
  split at h
  · exact fun j hj => mapM_getO h j j (by rw [List.getElem?_range hj])
  · exact absurd h (by simp)
theorem flat_atO {α β : Type} {f : α → List β} {size : Nat} (hs : 0 < size) (hf : ∀ a, (f a).length = size) : ∀ (l : List α) (k : Nat) (a : α), l[k / size]? = some a → (l.flatMap f)[k]? = (f a)[k % size]?
  | [], k, a, h => by simp at h
  | b :: l, k, a, h => by
    rw [List.flatMap_cons]
    by_cases hk : k < size
    · rw [Nat.div_eq_of_lt hk] at h
      simp only [List.getElem?_cons_zero, Option.some.injEq] at h
      subst h
      rw [List.getElem?_append_left (by rw [hf]; exact hk), Nat.mod_eq_of_lt hk]
    · have hd : k / size = (k - size) / size + 1 := by
        conv => lhs; rw [show k = (k - size) + size by omega]
        rw [Nat.add_div_right _ hs]
      have hm : k % size = (k - size) % size := by
        conv => lhs; rw [show k = (k - size) + size by omega]
        rw [Nat.add_mod_right]
      rw [hd, List.getElem?_cons_succ] at h
      rw [List.getElem?_append_right (by rw [hf]; omega), hf, hm]
      exact flat_atO hs hf l (k - size) a h

/-- A slice opened at every element. -/
theorem open_rd {α : Type} [Inhabited α] {t e : TypeId} {size : Nat} {v : Value} (ht : Tryz.prog.underlying t = some (.slice e)) (hc : Tryz.prog.cellsOf e = size) (hs : 0 < size) (f : α → List Value) (hf : ∀ a, (f a).length = size) (p : α → DataW H → Prop)
    (he : ∀ (n : Nat) (cs : List Value) (y : DataW H × List MemPlace), tr enc w n e cs = some y → ∃ a, cs = f a ∧ p a y.1) (h : tr enc w fuel t [v] = some x) :
    ∃ (l : List α) (D : Nat → DataW H), w.Rd size v l.length (l.flatMap f) ∧ (l = [] ∨ ∃ rest, x.1 = .slice ((List.range l.length).map D) rest) ∧ ∀ i a, l[i]? = some a → p a (D i) := by
  rcases Deep.open_slice ht h with ⟨h0, rfl⟩ | ⟨a, len, cap, m, n, D, Pl, h0, _, hl, hm, hmm, rfl, hx⟩
  · simp only [List.cons.injEq, and_true] at h0
    subst h0
    exact ⟨[], fun _ => .nil, ⟨by simp, .inl ⟨rfl, none, 0, rfl, Nat.zero_le _⟩⟩, .inl rfl, by simp⟩
  · simp only [List.cons.injEq, and_true] at h0
    subst h0
    rw [if_pos rfl] at hmm
    subst hmm
    rw [hc] at hx
    have each : ∀ i, i < len → ∃ q : α, w.cells? 0 (a.add (i * size)) size = some (f q) ∧ p q (D i) := fun i hi => by
      obtain ⟨cs', h1, h2⟩ := hx i (by omega)
      obtain ⟨q, rfl, hq⟩ := he _ _ _ h2
      exact ⟨q, h1, hq⟩
    obtain ⟨q, hq⟩ := Deep.choose_lt each
    refine ⟨(List.range len).map q, D, ?_, .inr ⟨_, by rw [List.length_map, List.length_range]⟩, ?_⟩
    · rw [List.length_map, List.length_range]
      refine ⟨?_, ?_⟩
      · rw [List.length_flatMap, List.map_map]
        rw [show ((fun x => (f x).length) ∘ q) = fun _ => size from funext fun i => hf _, List.map_const', List.sum_replicate_nat, List.length_range]
      · by_cases hz : len = 0
        · subst hz
          exact .inl ⟨rfl, some a, m, rfl, hm⟩
        · have hcell : ∀ i, i < len → ∀ j, j < size → w.cell? (a.add (i * size + j)) = (f (q i))[j]? := fun i hi j hj => by
            rw [← Deep.add_add]
            exact cells_atO (hq i hi).1 j hj
          obtain ⟨sp, hb⟩ := spot_none (w := w) (a := a) (v := (f (q 0))[0]'(by rw [hf]; exact hs)) (by
            have := hcell 0 (by omega) 0 hs
            rw [List.getElem?_eq_getElem (by rw [hf]; exact hs)] at this
            simpa [Addr.add] using this)
          obtain ⟨g, off, spot⟩ := a
          simp only at sp hb
          subst sp
          refine .inr ⟨g, off, m, rfl, hl, hm, hb, fun k hk => ?_⟩
          have hi : k / size < len := Nat.div_lt_of_lt_mul (by rw [Nat.mul_comm]; exact hk)
          have := hcell (k / size) hi (k % size) (Nat.mod_lt _ hs)
          rw [Nat.mul_comm, Nat.div_add_mod] at this
          have hadd : (⟨g, off, none⟩ : Addr).add k = ⟨g, off + k, none⟩ := by unfold Addr.add; split <;> simp_all
          rw [hadd] at this
          rw [this, flat_atO hs hf _ k (q (k / size)) (by rw [List.getElem?_map, List.getElem?_range hi]; rfl)]
    · intro i b hb
      rw [List.getElem?_map] at hb
      by_cases hi : i < len
      · rw [List.getElem?_range hi] at hb
        simp only [Option.map_some, Option.some.injEq] at hb
        subst hb
        exact (hq i hi).2
      · rw [List.getElem?_eq_none (by simpa using hi)] at hb
        simp at hb
local instance instInhO : Inhabited V := ⟨⟨0, 0, 0, .empty⟩⟩
theorem cellsOf22 : Tryz.prog.cellsOf 24 = 1 := by kernel_rfl
theorem cellsOf23 : Tryz.prog.cellsOf 32 = 1 := by kernel_rfl
theorem cellsOf25 : Tryz.prog.cellsOf 34 = 2 := by kernel_rfl

end
end Go.Proofs.YtbejmdlncnkaaaaGreat
