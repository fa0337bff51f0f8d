/-
  The walks of slices.Index, Contains of numbers, table.columns.
-/
import Derived.Test.YtikodapgceokhaaGreatOf
namespace Go.Proofs.YtikodapgceokhaaGreat
open Go.RowKit

/-- the place of a number; -1: there is none -/
def idxI (l : List Int) (x : Int) : Int := match l with | [] => -1 | a :: t => if x = a then 0 else (if idxI t x < 0 then -1 else idxI t x + 1)
theorem idxI_neg {l : List Int} {x : Int} (h : x ∉ l) : idxI l x = -1 := by
  induction l with
  | nil => rfl
  | cons a t ih =>
    simp only [List.mem_cons, not_or] at h
    unfold idxI
    rw [if_neg h.1, ih h.2]; rfl
theorem idxI_at {l : List Int} {x : Int} : ∀ (j : Nat), l[j]? = some x → (∀ (i : Nat) (a : Int), i < j → l[i]? = some a → x ≠ a) → idxI l x = j := by
  induction l with
  | nil => intro j h; simp at h
  | cons a t ih =>
    intro j hj h
    cases j with
    | zero => simp at hj; subst hj; simp [idxI]
    | succ j =>
      have h1 := h 0 a (by omega) rfl
      have h2 := ih j (by simpa using hj) (fun i b hi hb => h (i + 1) b (by omega) (by simpa using hb))
      unfold idxI
      rw [if_neg h1, h2, if_neg (by omega)]
      omega
theorem idxI_mem {l : List Int} {x : Int} : 0 ≤ idxI l x ↔ x ∈ l := by
  constructor
  · intro h
    by_cases hm : x ∈ l
    · exact hm
    · rw [idxI_neg hm] at h; omega
  · intro h
    induction l with
    | nil => cases h
    | cons a t ih =>
      unfold idxI
      split
      · omega
      · rename_i hne
        rcases List.mem_cons.1 h with rfl | h
        · exact absurd rfl hne
        · have := ih h
          rw [if_neg (by omega)]; omega
abbrev icells (l : List Int) : List Value := l.map (Value.int .i64)
set_option maxRecDepth 100000 in
set_option maxHeartbeats 1000000 in
theorem index107 {w : World} {v : Value} {l : List Int} (x : Int) (h : w.Sl 3 1 v l.length (icells l)) (hl : l.length ≤ 8000000000000000000) :
    Calls Tryz.prog 107 #[v, .int .i64 x] w fun e w' => e = .returned (.int .i64 (idxI l x)) ∧ w = w' := by
  obtain ⟨a1, c1, rfl, _, _⟩ := h.shape
  have H := Lib.hid h; have Hl := Lib.hid hl; clear h hl
  generalize hR : idxI l x = R
  have HR := Lib.hid hR; clear hR
  go_enter Tryz.func107, Tryz.ntmps107
  go_wp2
  go_loopw [8] (fun i wr => ∃ j : Nat, i = .int .i64 j ∧ j ≤ l.length ∧ Hid (∀ (i : Nat) (a : Int), i < j → l[i]? = some a → x ≠ a) ∧ wr = w) (fun i _ => (l.length - intOf i).toNat)
  case atStart => exact ⟨0, rfl, Nat.zero_le _, Lib.hid (fun i a hi => by omega), rfl⟩
  case round =>
    obtain ⟨j, rfl, hj, HA, rfl⟩ := hrel
    by_cases hlt : j < l.length
    · obtain ⟨y, hy⟩ : ∃ y, l[j]? = some y := ⟨l[j], List.getElem?_eq_getElem (by omega)⟩
      obtain ⟨g, off, c, hv, _, _, hg, hcs, hfz⟩ := H.out.form (by omega)
      clear hcs hfz
      cases hv
      have kx := H.out.cells rfl j (by omega)
      rw [List.getElem?_map, hy] at kx
      simp only [Option.map_some] at kx
      have hrI : (j : Int) < (l.length : Int) := by omega
      have hw1 : IntKind.i64.wrap ((j : Int) + 1) = (j : Int) + 1 := IntWalk.i64_in _ (by have := Hl.out; omega)
      have Hy := Lib.hid hy; clear hy
      by_cases hxy : x = y
      · have hres : R = (j : Int) := by rw [← HR.out]; exact idxI_at j (by rw [Hy.out, hxy]) HA.out
        subst hres
        have hb : (x == y) = true := by simp [hxy]
        clear hxy
        go_wp2
        go_ret
        exact ⟨rfl, rfl⟩
      · have hb : (x == y) = false := beq_eq_false_iff_ne.2 hxy
        have Hxy := Lib.hid hxy; clear hxy
        go_wp2
        go_roundw
        case rel => exact ⟨j + 1, by go_num, by omega, Lib.hid (fun k a hk ha => by
          rcases Nat.lt_or_ge k j with h | h
          · exact HA.out k a h ha
          · obtain rfl : k = j := by omega
            rw [Hy.out] at ha
            cases ha; exact Hxy.out), trivial⟩
        case measure => simp [intOf]; omega
    · have hres : R = -1 := by
        rw [← HR.out]
        exact idxI_neg (fun hm => by
          obtain ⟨i, hi⟩ := List.getElem?_of_mem hm
          exact HA.out i x (by have := (List.getElem?_eq_some_iff.1 hi).1; omega) hi rfl)
      have hd : decide ((j : Int) < (l.length : Int)) = false := decide_eq_false (by omega)
      have hd2 : decide (j < l.length) = false := decide_eq_false hlt
      subst hres
      clear HA hlt hj HR
      go_wp2
      go_ret
      exact ⟨rfl, rfl⟩
def hasI (l : List Int) (x : Int) : Bool := decide (0 ≤ idxI l x)
theorem hasI_iff {l : List Int} {x : Int} : hasI l x = true ↔ x ∈ l := by unfold hasI; rw [decide_eq_true_iff]; exact idxI_mem
theorem contains79 {w : World} {v : Value} {l : List Int} (x : Int) (h : w.Sl 3 1 v l.length (icells l)) (hl : l.length ≤ 8000000000000000000) :
    Calls Tryz.prog 79 #[v, .int .i64 x] w fun e w' => e = .returned (.bool (hasI l x)) ∧ w = w' := by
  have hc := index107 x h hl
  obtain ⟨a1, c1, rfl, _, _⟩ := h.shape
  have hres : decide (0 ≤ idxI l x) = hasI l x := rfl
  have Hc := Lib.hid hc; have Hres := Lib.hid hres; clear hc h hl hres
  generalize idxI l x = i at *
  go_enter Tryz.func79, Tryz.ntmps79
  go_wp2_with fail
  refine Hc.out.mono ?_
  rintro e w2 ⟨rfl, rfl⟩
  go_wp2
  go_ret
  rw [← Hres.out]
  exact ⟨rfl, rfl⟩

/-- rows gathered since W: the headers lie in a slice of the call's own, apart from the rows -/
structure RowsR (W w : World) (vb : Value) (hs : List Value) (rows : List Row) : Prop where
  sl : w.Sl 32 1 vb hs.length hs
  len : hs.length = rows.length
  new : ∀ k, k ∈ vb.blk → W.heap.size ≤ k
  row : ∀ (i : Nat) (hv : Value) (r : Row), hs[i]? = some hv → rows[i]? = some r → RdRow w hv r ∧ ∀ k, k ∈ hv.rblk → k ∉ vb.blk
  fr : W.Fr w []
theorem RowsR.nil (w : World) : RowsR w w (.slice none 0 0) [] [] := ⟨World.Sl.nil _ _ _, rfl, by simp [Value.blk], by simp, World.Fr.refl _ _⟩
theorem RowsR.still {W w w1 : World} {vb : Value} {hs : List Value} {rows : List Row} (h : RowsR W w vb hs rows) (hf : w.Fr w1 []) : RowsR W w1 vb hs rows :=
  ⟨h.sl.fr hf (by simp), h.len, h.new, fun i hv r a b => ⟨(h.row i hv r a b).1.fr hf (by simp), (h.row i hv r a b).2⟩, h.fr.trans hf (by simp)⟩
theorem RowsR.push {W w w1 w2 : World} {vb v : Value} {g off c : Nat} {hs : List Value} {rows : List Row} {r : Row} (h : RowsR W w vb hs rows) (hf0 : w.Fr w1 []) (hr : RdRow w1 v r) (hoff : ∀ k, k ∈ v.rblk → k ∉ vb.blk)
    (hs2 : w2.Sl 32 1 (.slice (some ⟨g, off, none⟩) (hs.length + 1) c) (hs.length + 1) (hs ++ [v])) (hf : w1.Fr w2 vb.blk) (hg : g ∈ vb.blk ∨ w1.heap.size ≤ g) :
    RowsR W w2 (.slice (some ⟨g, off, none⟩) (hs.length + 1) c) (hs ++ [v]) (rows ++ [r]) := by
  have key : ∀ (hv : Value) (x : Row), RdRow w1 hv x → (∀ k, k ∈ hv.rblk → k ∉ vb.blk) → RdRow w2 hv x ∧ ∀ k, k ∈ hv.rblk → k ∉ (Value.slice (some ⟨g, off, none⟩) (hs.length + 1) c).blk := fun hv x h1 h2 => by
    refine ⟨h1.fr hf h2, fun k hk hk2 => ?_⟩
    simp [Value.blk] at hk2
    subst hk2
    rcases hg with h3 | h3
    · exact h2 k hk h3
    · have := h1.rd.lt k hk; omega
  refine ⟨by simpa using hs2, by simp [h.len], fun k hk => ?_, fun i hv x h1 h2 => ?_, (h.fr.trans hf0 (by simp)).trans hf (fun k hk => .inr (h.new k hk))⟩
  · simp [Value.blk] at hk
    subst hk
    rcases hg with h1 | h1
    · exact h.new _ h1
    · have := h.fr.size; have := hf0.size; omega
  · rcases Nat.lt_or_ge i hs.length with hi | hi
    · rw [List.getElem?_append_left hi] at h1
      rw [List.getElem?_append_left (by rw [← h.len]; exact hi)] at h2
      obtain ⟨b1, b2⟩ := h.row i hv x h1 h2
      exact key hv x (b1.fr hf0 (by simp)) b2
    · rw [List.getElem?_append_right hi] at h1
      rw [List.getElem?_append_right (by rw [← h.len]; exact hi)] at h2
      have hi0 : i - hs.length = 0 := by
        have := (List.getElem?_eq_some_iff.1 h1).1
        simp at this; omega
      rw [hi0] at h1
      rw [← h.len, hi0] at h2
      simp at h1 h2
      subst h1 h2
      exact key _ _ hr hoff
theorem RowsR.rd {W w : World} {vb : Value} {hs : List Value} {rows : List Row} (h : RowsR W w vb hs rows) : RdRows w vb rows hs := ⟨h.sl.rd, h.len, fun i hv r a b => (h.row i hv r a b).1⟩
theorem OwnRow.rd {w w' : World} {v : Value} {r : Row} (h : OwnRow w w' v r) (hw : ∀ x, x ∈ r → x.wf) : RdRow w' v r := ⟨h.sl.rd, hw⟩
theorem run_make60 (n : Nat) (hn : n ≤ 3518437208780) (W : World) : (Instr.makeSlice 32 (.int .i64 0) (.int .i64 (n : Int))).run Tryz.prog W = .ok (.slice (some ⟨W.heap.size, 0, none⟩) 0 n) (W.alloc (.cells (madeCells #[.int .i64 0, .int .i64 0, .int .i64 0, .string .empty] (n * 4)) 60)) := by
  obtain ⟨iv, hiv, hv0, hv1, hv2⟩ := info_parts infoV
  have := run_make (P := Tryz.prog) W 32 60 iv (.agg #[.int .i64 0, .int .i64 0, .int .i64 0, .string .empty]) Tryz.underlying32 hiv hv0 .i64 .i64 0 (n : Int) (by omega) (by omega) (by rw [hv2]; omega) (by omega)
  simp only [Int.toNat_natCast, hv1] at this
  exact this
theorem ownRow_make (n : Nat) (hn : n ≤ 3518437208780) (W : World) : OwnRow W (W.alloc (.cells (madeCells #[.int .i64 0, .int .i64 0, .int .i64 0, .string .empty] (n * 4)) 60)) (.slice (some ⟨W.heap.size, 0, none⟩) 0 n) [] :=
  ⟨⟨rfl, .inr ⟨_, 0, n, _, rfl, heap_alloc_new _ _, Nat.zero_le _, by unfold maxLen; omega, by simp [size_madeCells], rfl⟩⟩, by simp [Value.blk], (World.Fr.refl _ _).alloc _⟩
/-- places, as numbers -/
theorem pcells_icells (l want : List BA) : pcells l want = icells (want.map (idx l)) := by simp [pcells, icells]
end Go.Proofs.YtikodapgceokhaaGreat
