/-
  The walks of slices.Index, Contains of numbers, table.columns. The walk of table.Project.
-/
import Derived.Test.YtbejmdlncnkaaaaGreatMad
namespace Go.Proofs.YtbejmdlncnkaaaaGreat
open Go.RowKit

abbrev icells (l : List Int) : List Value := l.map (Value.int .i64)
/-- rows gathered since W: the headers lie in a slice of the call's own, apart from the rows -/
structure RowsR (W w : World) (vb : Value) (hs : List Value) (rows : List Row) : Prop where
  sl : w.Sl 81 1 vb hs.length hs
  len : hs.length = rows.length
  new : ∀ k, k ∈ vb.blk → W.heap.size ≤ k
  row : ∀ (i : Nat) (hv : Value) (r : Row), hs[i]? = some hv → rows[i]? = some r → RdRow w hv r ∧ ∀ k, k ∈ hv.rblk → k ∉ vb.blk
  fr : W.Fr w []
theorem RowsR.nil (w : World) : RowsR w w (.slice none 0 0) [] [] := ⟨World.Sl.nil _ _ _, rfl, by simp [Value.blk], by simp, World.Fr.refl _ _⟩
theorem RowsR.still {W w w1 : World} {vb : Value} {hs : List Value} {rows : List Row} (h : RowsR W w vb hs rows) (hf : w.Fr w1 []) : RowsR W w1 vb hs rows :=
  ⟨h.sl.fr hf (by simp), h.len, h.new, fun i hv r a b => ⟨(h.row i hv r a b).1.fr hf (by simp), (h.row i hv r a b).2⟩, h.fr.trans hf (by simp)⟩
theorem RowsR.push {W w w1 w2 : World} {vb v : Value} {g off c : Nat} {hs : List Value} {rows : List Row} {r : Row} (h : RowsR W w vb hs rows) (hf0 : w.Fr w1 []) (hr : RdRow w1 v r) (hoff : ∀ k, k ∈ v.rblk → k ∉ vb.blk)
    (hs2 : w2.Sl 81 1 (.slice (some ⟨g, off, none⟩) (hs.length + 1) c) (hs.length + 1) (hs ++ [v])) (hf : w1.Fr w2 vb.blk) (hg : g ∈ vb.blk ∨ w1.heap.size ≤ g) :
    RowsR W w2 (.slice (some ⟨g, off, none⟩) (hs.length + 1) c) (hs ++ [v]) (rows ++ [r]) := by
  have key : ∀ (hv : Value) (x : Row), RdRow w1 hv x → (∀ k, k ∈ hv.rblk → k ∉ vb.blk) → RdRow w2 hv x ∧ ∀ k, k ∈ hv.rblk → k ∉ (Value.slice (some ⟨g, off, none⟩) (hs.length + 1) c).blk := fun hv x h1 h2 => by
    refine ⟨h1.fr hf h2, fun k hk hk2 => ?_⟩
    simp [Value.blk] at hk2
    subst hk2
    rcases hg with h3 | h3
    · exact h2 k hk h3
    · have := h1.rd.lt k hk; omega
  refine ⟨by simpa using hs2, by simp [h.len], fun k hk => ?_, fun i hv x h1 h2 => ?_, (h.fr.trans hf0 (by simp)).trans hf (fun k hk => .inr (h.new k hk))⟩
  · simp [Value.blk] at hk
    subst hk
    rcases hg with h1 | h1
    · exact h.new _ h1
    · have := h.fr.size; have := hf0.size; omega
  · rcases Nat.lt_or_ge i hs.length with hi | hi
    · rw [List.getElem?_append_left hi] at h1
      rw [List.getElem?_append_left (by rw [← h.len]; exact hi)] at h2
      obtain ⟨b1, b2⟩ := h.row i hv x h1 h2
      exact key hv x (b1.fr hf0 (by simp)) b2
    · rw [List.getElem?_append_right hi] at h1
      rw [List.getElem?_append_right (by rw [← h.len]; exact hi)] at h2
      have hi0 : i - hs.length = 0 := by
        have := (List.getElem?_eq_some_iff.1 h1).1
        simp at this; omega
      rw [hi0] at h1
      rw [← h.len, hi0] at h2
      simp at h1 h2
      subst h1 h2
      exact key _ _ hr hoff
theorem RowsR.rd {W w : World} {vb : Value} {hs : List Value} {rows : List Row} (h : RowsR W w vb hs rows) : RdRows w vb rows hs := ⟨h.sl.rd, h.len, fun i hv r a b => (h.row i hv r a b).1⟩
theorem OwnRow.rd {w w' : World} {v : Value} {r : Row} (h : OwnRow w w' v r) (hw : ∀ x, x ∈ r → x.wf) : RdRow w' v r := ⟨h.sl.rd, hw⟩
end Go.Proofs.YtbejmdlncnkaaaaGreat
namespace Go.Proofs.YtbejmdlncnkaaaaGreat
open Go.RowKit

theorem rowsCheck_zero {cf : V → V → Int} {n : Nat} : ∀ (rs : List Row) (p : Option Row), rowsCheck cf n p rs = 0 → (∀ r, r ∈ rs → rowCheck n r = 0) ∧ (∀ q r, p = some q → rs.head? = some r → rcmp cf q r < 0) ∧ ∀ (i : Nat) (a b : Row), rs[i]? = some a → rs[i + 1]? = some b → rcmp cf a b < 0
  | [], _, _ => by simp
  | r :: rs, p, h => by
    have h0 : rowCheck n r = 0 := by
      by_cases hr : rowCheck n r = 0
      · exact hr
      · simp only [rowsCheck, hr, if_false] at h
    simp only [rowsCheck, h0, if_true] at h
    have hup : (∀ q, p = some q → rcmp cf q r < 0) ∧ rowsCheck cf n (some r) rs = 0 := by
      cases p with
      | none => simp only [Bool.false_eq_true, if_false] at h; exact ⟨by simp, h⟩
      | some q =>
        by_cases hq : 0 ≤ rcmp cf q r
        · simp [hq] at h
        · simp [hq] at h
          exact ⟨fun q' e => by cases e; omega, h⟩
    obtain ⟨a1, a2, a3⟩ := rowsCheck_zero rs (some r) hup.2
    refine ⟨fun x hx => ?_, fun q x hq hx => ?_, fun i a b ha hb => ?_⟩
    · rcases List.mem_cons.1 hx with rfl | hx
      · exact h0
      · exact a1 x hx
    · subst hq
      simp at hx
      subst hx
      exact hup.1 q rfl
    · cases i with
      | zero =>
        simp at ha
        subst ha
        exact a2 r b rfl (by rw [List.head?_eq_getElem?]; simpa using hb)
      | succ i => exact a3 i a b (by simpa using ha) (by simpa using hb)
theorem tcheck_zero {cf : V → V → Int} {t : Tb} (h : tcheck cf t = 0) : t.vars.length ≤ 8 ∧ (t.vars.Pairwise fun a b => ltS a b = true) ∧ (∀ r, r ∈ t.rows → r.length = t.vars.length ∧ ∀ x, x ∈ r → vcheck x = 0) ∧ ∀ (i : Nat) (a b : Row), t.rows[i]? = some a → t.rows[i + 1]? = some b → rcmp cf a b < 0 := by
  unfold tcheck at h
  split at h
  · cases h
  · rename_i h8
    split at h
    · rename_i hr
      obtain ⟨a1, _, a3⟩ := rowsCheck_zero _ _ h
      refine ⟨by omega, pair_of_rises _ (by unfold risesB at hr; simpa using hr), fun r hr => rowCheck_zero (a1 r hr), a3⟩
    · cases h
theorem nodup_le' {α : Type} [DecidableEq α] : ∀ (l m : List α), l.Nodup → (∀ x, x ∈ l → x ∈ m) → l.length ≤ m.length
  | [], _, _, _ => Nat.zero_le _
  | a :: t, m, hn, hs => by
    obtain ⟨h1, h2⟩ := List.nodup_cons.1 hn
    have ha := hs a (by simp)
    have ih := nodup_le' t (m.erase a) h2 (fun x hx => (List.mem_erase_of_ne (fun e => h1 (by rw [← e]; exact hx))).2 (hs x (by simp [hx])))
    have := List.length_erase_of_mem ha
    have := List.length_pos_of_mem ha
    simp only [List.length_cons]
    omega
theorem nodup_le (l m : List BA) (h1 : l.Nodup) (h2 : ∀ x, x ∈ l → x ∈ m) : l.length ≤ m.length := by classical exact nodup_le' l m h1 h2
theorem pair_all {okv : V → Prop} {cf : V → V → Int} (hO : OrdOk okv cf) : ∀ (rs : List Row), (∀ r, r ∈ rs → ∀ x, x ∈ r → okv x) → (∀ (i : Nat) (a b : Row), rs[i]? = some a → rs[i + 1]? = some b → rcmp cf a b < 0) → rs.Pairwise (rlt cf)
  | [], _, _ => List.Pairwise.nil
  | [a], _, _ => by simp
  | a :: b :: t, ho, h => by
    have ih := pair_all hO (b :: t) (fun r hr => ho r (by simp only [List.mem_cons] at hr ⊢; exact .inr hr)) (fun i x y hx hy => h (i + 1) x y (by simpa using hx) (by simpa using hy))
    have h0 := h 0 a b rfl rfl
    refine List.pairwise_cons.2 ⟨fun c hc => ?_, ih⟩
    rcases List.mem_cons.1 hc with rfl | hc
    · exact h0
    · exact rcmp_trans hO a b c (ho a (by simp)) (ho b (by simp)) (ho c (by simp [hc])) h0 ((List.pairwise_cons.1 ih).1 c hc)

abbrev tNone : Tb := ⟨[], []⟩
/-- the bounds of tables and of lists of names in this work -/
structure Fits (okc : V → Prop) (t : Tb) : Prop where
  small : Small t
  rows : t.rows.length ≤ 5864062014634
  ok : TabOf okc t
end Go.Proofs.YtbejmdlncnkaaaaGreat
