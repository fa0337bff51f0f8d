/-
  The reference's window: Push, Pop, All, each as a list says.
-/
import Derived.Test.YtikodccbecmjiaaRef
namespace Go.Proofs.Ytikodccbecmjiaa
open Go.RowKit Go.Win

/-- the reference's window lies at r: its list is l -/
structure IsRef (w : World) (r : Nat) (v : Value) (l : List T) (no : T) : Prop where
  cells : w.heap[r]? = some (.cells #[v, .int .u64 no.1, .int .u64 no.2] 53 (0, 0))
  row : w.Sl 26 2 v l.length (l.flatMap thK.enc)
  off : r ∉ v.blk
def HasRef (w : World) (r : Nat) (l : List T) (no : T) (L : List Nat) : Prop := ∃ v, IsRef w r v l no ∧ L = r :: v.blk
def RPost (r : Nat) (w : World) (L : List Nat) (l : List T) (no : T) (v : Value) (e : Ending) (w' : World) : Prop :=
  e = .returned v ∧ ∃ L', HasRef w' r l no L' ∧ w.Fr w' L ∧ ∀ k, k ∈ L' → k ∈ L ∨ w.heap.size ≤ k

theorem HasRef.lt {w : World} {r : Nat} {l : List T} {no : T} {L : List Nat} (h : HasRef w r l no L) : ∀ k, k ∈ L → k < w.heap.size := by
  obtain ⟨v, h, rfl⟩ := h
  intro k hk
  simp only [List.mem_cons] at hk
  rcases hk with rfl | hk
  · exact lt_of_heap h.cells
  · exact h.row.lt k hk
theorem HasRef.fr {w w' : World} {r : Nat} {l : List T} {no : T} {L M : List Nat} (h : HasRef w r l no L) (hf : w.Fr w' M) (hd : ∀ k, k ∈ L → k ∉ M) : HasRef w' r l no L := by
  obtain ⟨v, h, rfl⟩ := h
  exact ⟨v, ⟨hf.heap h.cells (hd _ (by simp)), h.row.fr hf fun k hk => hd k (by simp [hk]), h.off⟩, rfl⟩

theorem three {w : World} {p : Nat} {t : TypeId} {a b c : Value} (hh : w.heap[p]? = some (.cells #[a, b, c] t (0, 0))) :
    w.cell? ⟨p, 0, none⟩ = some a ∧ w.cell? ⟨p, 1, none⟩ = some b ∧ w.cell? ⟨p, 2, none⟩ = some c ∧ ∀ j, w.frozen? ⟨p, j, none⟩ = false := by
  refine ⟨?_, ?_, ?_, fun j => frozen_of_row w p j _ _ hh⟩ <;> simp [World.cell?, hh]

theorem rpush34_full {w : World} {r : Nat} {L : List Nat} {l : List T} {no x : T} (h : HasRef w r l no L) (hl : 4096 ≤ l.length) (hl2 : l.length < 1000000) :
    Calls Try.prog 34 #[.pointer (some ⟨r,0,none⟩), tv x] w (RPost r w L l no (.int .i64 3)) := by
  have hfin : ∀ o, RPost r w L l no (.int .i64 3) (.returned (.int .i64 3)) (w.alloc o) := fun o => ⟨rfl, L, h.fr ((World.Fr.refl w []).alloc o) (by simp), (World.Fr.refl w L).alloc o, fun k hk => .inl hk⟩
  have Hfin := Lib.hid hfin; clear hfin
  obtain ⟨v, ⟨hc, hr, ho⟩, rfl⟩ := h
  obtain ⟨a, c, rfl, _, _⟩ := hr.shape
  obtain ⟨h0, h1, h2, hf⟩ := three hc
  have hrl := lt_of_heap hc
  have hd1 : decide ((4096 : Int) ≤ (l.length : Int)) = true := decide_eq_true (by omega)
  have hd2 : decide (4096 ≤ l.length) = true := decide_eq_true (by omega)
  clear hl hl2 hc hr
  generalize l.length = N at *
  go_enter Try.func34, Try.ntmps34
  go_wp2
  go_ret
  exact Hfin.out _

set_option maxHeartbeats 1000000 in
theorem rpush34 {w : World} {r : Nat} {L : List Nat} {l : List T} {no : T} (x : T) (h : HasRef w r l no L) (hl : l.length < 4096) :
    Calls Try.prog 34 #[.pointer (some ⟨r,0,none⟩), tv x] w (RPost r w L (l ++ [x]) no (.int .i64 0)) := by
  obtain ⟨v, ⟨hc, hr, ho⟩, rfl⟩ := h
  obtain ⟨a, c, hv, _, _⟩ := hr.shape
  subst hv
  obtain ⟨i0, hi, hz0, hz1, hz2⟩ := info_parts infoT
  have hrl := lt_of_heap hc
  have hd1 : decide ((4096 : Int) ≤ (l.length : Int)) = false := decide_eq_false (by omega)
  have hd2 : decide (4096 ≤ l.length) = false := decide_eq_false (by omega)
  have hfl : (l ++ [x]).flatMap thK.enc = l.flatMap thK.enc ++ [.int .u64 x.1, .int .u64 x.2] := by simp
  have hle : (l ++ [x]).length = l.length + 1 := by simp
  have Hfl := Lib.hid hfl; have Hle := Lib.hid hle; have Hl := Lib.hid hl; have Hc := Lib.hid hc; have Hr := Lib.hid hr; clear hfl hle hl hc hr
  generalize hB : l.length = B at *
  have HB := Lib.hid hB; clear hB
  obtain ⟨h0, h1, h2, hf⟩ := three Hc.out
  have hrl1 : r < w.heap.size + 1 := by omega
  go_enter Try.func34, Try.ntmps34
  go_upto_region 3 with (fail)
  generalize hW : World.alloc w _ = W
  have q1 : W.heap[r]? = some (.cells #[.slice a B c, .int .u64 no.1, .int .u64 no.2] 53 (0, 0)) := by rw [← hW]; exact heap_alloc_some Hc.out _
  have q2 : W.heap[w.heap.size]? = some (.cells #[.int .u64 x.1, .int .u64 x.2] 26 (0, 0)) := by rw [← hW]; exact heap_alloc_at _ _ _ rfl
  have q3 : w.Fr W [] := by rw [← hW]; exact (World.Fr.refl w []).alloc _
  clear hW h0 h1 h2 hf
  have hr2 := Hr.out.fr q3 (by simp)
  obtain ⟨h0, h1, h2, hf⟩ := three q1
  obtain ⟨b0, b1, bf⟩ := two q2
  have hpl2 := lt_of_heap q1
  have hbl2 := lt_of_heap q2
  have Q1 := Lib.hid q1; have Q3 := Lib.hid q3; have Hr2 := Lib.hid hr2; clear q1 q2 q3 hr2
  go_region_law (first | (refine step_append_one _ rfl (.tmp 15) (.tmp 17) 51 rfl 26 i0 (.agg #[.int .u64 0, .int .u64 0]) 2 16 Try.underlying51 hi hz0 hz1 hz2 rfl (.slice a B c) B (l.flatMap thK.enc) (by simp [Act.eval]) (World.Sl.alloc Hr2.out _) W.heap.size 1 [.int .u64 x.1, .int .u64 x.2] 26 (by simp [Act.eval]) (heap_alloc_at _ _ _ rfl) rfl rfl ⟨by have := Hl.out; omega, by have := Hl.out; omega⟩ ?_; intro g off c2 w1 hsl hfr hat hlt; have hW1 := hfr.heap (heap_alloc_some Q1.out _) ho; obtain ⟨k0, k1, k2, kf⟩ := three hW1; have HW1 := Lib.hid hW1; have Hsl := Lib.hid hsl; have Hfr := Lib.hid hfr; have Hat := Lib.hid hat; clear hW1 hsl hfr hat))
  all_goals
    have hgr : g ≠ r := by
      rintro rfl
      rcases Hat.out with h | h
      · exact ho h
      · simp at h; omega
    have hfin : RPost r w (r :: (Value.slice a B c).blk) (l ++ [x]) no (.int .i64 0) (.returned (.int .i64 0)) (w1.setCell ⟨r, 0, none⟩ (.slice (some ⟨g, off, none⟩) (B + 1) c2)) := by
      refine ⟨rfl, _, ⟨.slice (some ⟨g, off, none⟩) (B + 1) c2, ⟨heap_set_same HW1.out 0 _, ?_, by simp [Value.blk]; exact fun e => hgr e.symm⟩, rfl⟩, ?_, fun k hk => ?_⟩
      · rw [Hle.out, Hfl.out]; exact Hsl.out.setCell (by simp [Value.blk]; exact fun e => hgr e.symm) _
      · exact (((Q3.out.drew.alloc _).mono (L' := r :: (Value.slice a B c).blk) (by simp)).trans Hfr.out (fun k hk => .inl (by simp [hk]))).setCell (by simp) _
      · simp [Value.blk] at hk
        rcases hk with rfl | rfl
        · exact .inl (by simp)
        · rcases Hat.out with h | h
          · exact .inl (by simp [h])
          · exact .inr (by have := Q3.out.size; simp at h; omega)
    have Hfin := Lib.hid hfin
    clear hfin HW1 Hsl Hfr Hat k0 k1 k2 kf hgr
    go_wp2
    go_ret
    exact Hfin.out
end Go.Proofs.Ytikodccbecmjiaa
