/-
  A map of the call's own from texts to slices, as a function.
-/
import Derived.Test.YtikodapgceokhaaGreatKey
import Derived.Maps.Own
import Derived.Maps.Views
import Derived.Maps.OwnOps
import Derived.Carry
namespace Go.Proofs.YtikodapgceokhaaGreat
open Go.RowKit

theorem bext {a b : BA} (h : a.data.toList = b.data.toList) : a = b := by
  cases a with | mk a => cases b with | mk b => simp at h; rw [h]
abbrev R0 : Value → Option (DataW Value × List MemPlace) := fun v => some (.held v, [])
abbrev vnil : Value := .slice none 0 0
/-- block b is a map of at most n entries that tells f -/
structure GM (w : World) (b n : Nat) (f : BA → Value) : Prop where
  ex : ∃ D : DataW Value, w.ownsMap Tryz.prog 9 R0 b n D ∧ Maps.IsMap D ∧ ∀ x : BA, D.atKey (.string x.data.toList) (.held vnil) = .held (f x)
theorem keyOf_str {x : BA} (hx : x.size ≤ maxLen) : Go.keyOf Tryz.prog 9 (.string x) = some (.string x.data.toList) := by
  simp [Go.keyOf, mapKey, Tryz.underlying9, hx]
theorem GM.made (w : World) : GM (w.alloc (.map #[] 0)) w.heap.size 0 fun _ => vnil :=
  ⟨_, World.ownsMap_made w _ _ _, Maps.isMap_empty, fun _ => rfl⟩
theorem GM.lt {w : World} {b n : Nat} {f : BA → Value} (h : GM w b n f) : b < w.heap.size := by
  obtain ⟨D, h1, _⟩ := h.ex
  exact h1.lt
theorem GM.fr {w w1 : World} {b n : Nat} {f : BA → Value} {L : List Nat} (h : GM w b n f) (hf : w.Fr w1 L) (hb : b ∉ L) : GM w1 b n f := by
  obtain ⟨D, ⟨es, cl, h1, h2⟩, h3⟩ := h.ex
  exact ⟨D, ⟨es, cl, (hf.block b (lt_of_heap h1) hb).trans h1, h2⟩, h3⟩
theorem zero23 (w : World) : (zeroValue 23).run Tryz.prog w = .ok vnil w := by kernel_rfl
theorem GM.look {w : World} {b n : Nat} {f : BA → Value} (h : GM w b n f) {x : BA} (hx : x.size ≤ maxLen) : (Instr.lookup 72 (.map (some b)) (.string x) false).run Tryz.prog w = .ok (f x) w := by
  obtain ⟨D, h1, _, h3⟩ := h.ex
  obtain ⟨v, ps, hr, hv⟩ := h1.lookup (Maps.string_keyed Tryz.underlying9) Tryz.underlying72 (zero23 w) (zd := .held vnil) (zp := []) rfl (keyOf_str hx)
  rw [h3 x] at hv
  simp only [Option.some.injEq, Prod.mk.injEq, DataW.held.injEq] at hv
  rw [hr, hv.1]
open Classical in
theorem GM.update {w : World} {b n : Nat} {f : BA → Value} (h : GM w b n f) (hn : n < maxLen) {x : BA} (hx : x.size ≤ maxLen) (v : Value) :
    ∃ w', (Instr.mapUpdate 72 (.map (some b)) (.string x) v).run Tryz.prog w = .ok () w' ∧ GM w' b (n + 1) (fun y => if y = x then v else f y) ∧ w.Fr w' [b] := by
  obtain ⟨D, h1, h2, h3⟩ := h.ex
  obtain ⟨w', hr, ho, hg⟩ := h1.update (Maps.string_keyed Tryz.underlying9) Tryz.underlying72 hn (keyOf_str hx) (val := v) (d := .held v) (ps := []) rfl
  refine ⟨w', hr, ⟨_, ho, h2.put _ _, fun y => ?_⟩, ⟨hg.os, hg.tape, hg.output, hg.size, fun k hk hn => hg.block k hk (fun e => hn (by simp at e; simp [e]))⟩⟩
  by_cases hy : y = x
  · subst hy
    rw [Maps.atKey_put_same h2 (by simp [WideAt.IsKeyLit]), if_pos rfl]
  · rw [Maps.atKey_put_other (fun e => hy (bext (by simpa using e))), if_neg hy]
    exact h3 y
open Classical in
theorem wpList_update_gm (w : World) {ops : Array Oper} {rest : List Oper} {o : Oper} {a : Act} {Q : Exit → Act → World → Prop}
    (hg : o.guard = none) (m x v : Operand) (hop : o.op = Op.mapUpdate 72 m x v) (b n : Nat) (f : BA → Value) (hm : a.eval m = .map (some b)) (hown : GM w b n f) (hn : n < maxLen) (key : BA) (hx : key.size ≤ maxLen) (val : Value) (hxe : a.eval x = .string key) (hv : a.eval v = val)
    (hK : ∀ w', GM w' b (n + 1) (fun y => if y = key then val else f y) → w.Fr w' [b] → wpList Tryz.prog ops Q rest (a.put o.dst undef) w') :
    wpList Tryz.prog ops Q (o :: rest) a w := by
  refine wpList_plain hg fun K' hK' => ?_
  obtain ⟨w', hrun, r1, r2⟩ := hown.update hn hx val
  unfold Oper.wp
  simp [execOp, hop, hm, hxe, hv, hrun, Result.andThen]
  exact hK' _ _ (hK w' r1 r2)

open Classical in
/-- the rows of one key -/
noncomputable def grp (ky : Row → BA) (ps : List HR) (key : BA) : List HR := ps.filter fun p => decide (ky p.2 = key)
/-- block b is a map from a key to the rows of ps that have it, in order -/
structure GG (W w : World) (b : Nat) (ps : List HR) (ky : Row → BA) : Prop where
  ex : ∃ n f, n ≤ ps.length ∧ GM w b n f ∧ (∀ key, w.Sl 32 1 (f key) (grp ky ps key).length ((grp ky ps key).map (·.1))) ∧ (∀ key k, k ∈ (f key).blk → W.heap.size ≤ k) ∧ ∀ key key', key ≠ key' → ∀ k, k ∈ (f key).blk → k ∉ (f key').blk
  fr : W.Fr w []
  new : W.heap.size ≤ b
theorem GG.still {W w w1 : World} {b : Nat} {ps : List HR} {ky : Row → BA} (h : GG W w b ps ky) (hf : w.Fr w1 []) : GG W w1 b ps ky := by
  obtain ⟨n, f, h1, h2, h3, h4, h5⟩ := h.ex
  exact ⟨⟨n, f, h1, h2.fr hf (by simp), fun key => (h3 key).fr hf (by simp), h4, h5⟩, h.fr.trans hf (by simp), h.new⟩
theorem GG.made (w : World) (ky : Row → BA) : GG w (w.alloc (.map #[] 0)) w.heap.size [] ky :=
  ⟨⟨0, fun _ => vnil, Nat.le_refl _, GM.made w, fun _ => World.Sl.nil _ _ _, by simp [Value.blk], by simp [Value.blk]⟩, (World.Fr.refl _ _).alloc _, Nat.le_refl _⟩
theorem map_cells {w : World} {e : TypeId} {s n : Nat} {v : Value} {xs : List Value} {b m : Nat} {f : BA → Value} (h : w.Sl e s v n xs) (hb : GM w b m f) : b ∉ v.blk := by
  intro hk
  obtain ⟨D, ⟨es, cl, h1, _⟩, _⟩ := hb.ex
  rcases h.2 with ⟨rfl, _⟩ | ⟨g, off, cap, cur, rfl, hg, _⟩
  · simp [Value.blk] at hk
  simp [Value.blk] at hk
  subst hk
  rw [hg] at h1
  cases h1
open Classical in
theorem GG.push {W w2 w5 w6 : World} {b n : Nat} {ps : List HR} {ky : Row → BA} {f : BA → Value} {key : BA} {p : HR} {g off c gl : Nat} {o : Obj}
    (hW : W.Fr w2 []) (hb : W.heap.size ≤ b) (hn : n ≤ ps.length) (hgm : GM w2 b n f) (hsl : ∀ key, w2.Sl 32 1 (f key) (grp ky ps key).length ((grp ky ps key).map (·.1))) (hbl : ∀ key k, k ∈ (f key).blk → W.heap.size ≤ k) (hdj : ∀ key key', key ≠ key' → ∀ k, k ∈ (f key).blk → k ∉ (f key').blk)
    (hk : ky p.2 = key) (hgl : (grp ky ps key).length = gl) (hs5 : w5.Sl 32 1 (.slice (some ⟨g, off, none⟩) (gl + 1) c) (gl + 1) ((grp ky ps key).map (·.1) ++ [p.1])) (hf : (w2.alloc o).Fr w5 (f key).blk) (hg : g ∈ (f key).blk ∨ g = w2.heap.size + 1)
    (hgm6 : GM w6 b (n + 1) (fun y => if y = key then .slice (some ⟨g, off, none⟩) (gl + 1) c else f y)) (hf6 : w5.Fr w6 [b]) : GG W w6 b (ps ++ [p]) ky := by
  have hf2 : w2.Fr w5 (f key).blk := ((World.Fr.refl w2 (f key).blk).alloc o).trans hf (fun k hk => .inl hk)
  have hgW : W.heap.size ≤ g := by
    rcases hg with h | h
    · exact hbl key g h
    · have := hW.size; omega
  have hgb : g ≠ b := by
    rcases hg with h | h
    · exact fun e => map_cells (hsl key) hgm (e ▸ h)
    · have := hgm.lt; omega
  have hoth : ∀ key', key' ≠ key → g ∉ (f key').blk := fun key' hne => by
    rcases hg with h | h
    · exact fun h' => hdj key key' (fun e => hne e.symm) g h h'
    · exact fun h' => by have := (hsl key').lt g h'; omega
  refine ⟨⟨n + 1, _, by simp; omega, hgm6, fun key' => ?_, fun key' k hk' => ?_, fun k1 k2 hne k hk1 hk2 => ?_⟩, (hW.trans hf2 (fun k hk => .inr (hbl key k hk))).trans hf6 (fun k hk => .inr (by simp at hk; subst hk; exact hb)), hb⟩
  · by_cases he : key' = key
    · subst he
      have e1 : grp ky (ps ++ [p]) key' = grp ky ps key' ++ [p] := by simp [grp, hk]
      rw [if_pos rfl, e1, List.length_append, hgl, List.map_append]
      exact hs5.fr hf6 (by simp [Value.blk]; exact hgb)
    · have e1 : grp ky (ps ++ [p]) key' = grp ky ps key' := by
        have : ¬ (ky p.2 = key') := fun e => he (e.symm.trans hk)
        simp [grp, this]
      rw [if_neg he, e1]
      have h1 := (hsl key').fr hf2 (hdj key' key he)
      exact h1.fr hf6 (by intro k hk2 hb2; simp at hb2; subst hb2; exact map_cells (hsl key') hgm hk2)
  · by_cases he : key' = key
    · rw [if_pos he] at hk'
      simp [Value.blk] at hk'
      omega
    · rw [if_neg he] at hk'
      exact hbl key' k hk'
  · by_cases e1 : k1 = key
    · subst e1
      rw [if_pos rfl] at hk1
      rw [if_neg (fun e => hne e.symm)] at hk2
      simp [Value.blk] at hk1
      subst hk1
      exact hoth k2 (fun e => hne e.symm) hk2
    · rw [if_neg e1] at hk1
      by_cases e2 : k2 = key
      · rw [if_pos e2] at hk2
        simp [Value.blk] at hk2
        subst hk2
        exact hoth k1 e1 hk1
      · rw [if_neg e2] at hk2
        exact hdj k1 k2 hne k hk1 hk2
end Go.Proofs.YtikodapgceokhaaGreat
