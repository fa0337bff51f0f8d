/-
  The reference's window, more: Pop, All.
-/
import Derived.Test.YtikodccbecmjiaaRefWin
namespace Go.Proofs.Ytikodccbecmjiaa
open Go.RowKit Go.Win

def rpopT (l : List T) : T × Int := match l with | [] => ((0, 0), 110) | x :: _ => (x, 0)

theorem rpop_close {w : World} {r : Nat} {a : Option Addr} {c : Nat} {no x : T} {t : List T} {a' : Addr} {c' : Nat}
    (hr : w.heap[r]? = some (.cells #[.slice a (t.length + 1) c, .int .u64 no.1, .int .u64 no.2] 53 (0, 0))) (ho : r ∉ (Value.slice a (t.length + 1) c).blk)
    (hs : w.Sl 26 2 (.slice (some a') t.length c') t.length (t.flatMap thK.enc)) (hb : a'.block ∈ (Value.slice a (t.length + 1) c).blk) (w' : World) (hw : (w.setCell ⟨r, 0, none⟩ (.slice (some a') t.length c')).Fr w' []) :
    RPost r w (r :: (Value.slice a (t.length + 1) c).blk) t no (.tuple #[tv x, .int .i64 0]) (.returned (.tuple #[tv x, .int .i64 0])) w' := by
  have hne : r ≠ a'.block := fun e => ho (e ▸ hb)
  refine ⟨rfl, _, ⟨.slice (some a') t.length c', ⟨hw.heap (heap_set_same hr 0 _) (by simp), (hs.setCell (by simpa [Value.blk] using hne) _).fr hw (by simp), by simpa [Value.blk] using hne⟩, rfl⟩,
    ((World.Fr.refl w _).setCell (by simp) _).trans hw (by simp), fun k hk => ?_⟩
  simp [Value.blk] at hk
  rcases hk with rfl | rfl
  · exact .inl (by simp)
  · exact .inl (by simp [hb])

set_option maxHeartbeats 1000000 in
theorem rpop35 {w : World} {r : Nat} {L : List Nat} {l : List T} {no : T} (h : HasRef w r l no L) (hl : l.length < 1000000) :
    Calls Try.prog 35 #[.pointer (some ⟨r,0,none⟩)] w (RPost r w L l.tail no (.tuple #[tv (rpopT l).1, .int .i64 (rpopT l).2])) := by
  have hlt := h.lt
  cases l with
  | nil =>
    have hfin : ∀ w', w.Fr w' [] → RPost r w L [] no (.tuple #[tv (0, 0), .int .i64 110]) (.returned (.tuple #[tv (0, 0), .int .i64 110])) w' := fun w' hw =>
      ⟨rfl, L, h.fr hw (by simp), hw.mono (by simp), fun k hk => .inl hk⟩
    have Hfin := Lib.hid hfin; clear hfin hl
    obtain ⟨v, ⟨hc, hr, ho⟩, rfl⟩ := h
    obtain ⟨a, c, hv, _, _⟩ := hr.shape
    subst hv
    obtain ⟨h0, h1, h2, hf⟩ := three hc
    have hrl := lt_of_heap hc
    have hrl1 : r < w.heap.size + 1 := by omega
    simp only [List.length_nil] at h0
    clear hc hr
    go_enter Try.func35, Try.ntmps35
    go_wp2
    refine bodyPost_ret (v := .tuple #[tv (0, 0), .int .i64 110]) (by simp [results, Try.results35, go_sem]) rfl (Hfin.out _ ?_)
    exact (World.Fr.refl w []).alloc _
  | cons x t =>
    obtain ⟨v, ⟨hc, hr, ho⟩, rfl⟩ := h
    simp only [List.length_cons] at hr hl
    obtain ⟨g, off, c, hv, hcap, hmax, hgl, hcells, hfree⟩ := hr.form (by omega)
    subst hv
    have hx1 := hcells 0 (by omega)
    have hx2 := hcells 1 (by omega)
    simp only [List.flatMap_cons, List.cons_append, List.nil_append, List.getElem?_cons_zero, List.getElem?_cons_succ, Nat.add_zero] at hx1 hx2
    obtain ⟨h0, h1, h2, hf⟩ := three hc
    have hrl := lt_of_heap hc
    have hrl1 : r < w.heap.size + 1 := by omega
    have hrl2 : r < w.heap.size + 1 + 1 := by omega
    have hgl1 : g < w.heap.size + 1 := by omega
    have hgr : g ≠ r := fun e => ho (by simp [Value.blk, e])
    have hd0 : ((t.length : Int) + 1 == 0) = false := beq_eq_false_iff_ne.2 (by omega)
    have hrest : (x :: t).tail = t := rfl
    have hpt : rpopT (x :: t) = (x, 0) := rfl
    have hfl : ((x :: t).flatMap thK.enc).drop (1 * 2) = t.flatMap thK.enc := by simp
    have hcm : c ≤ 9223372036854775807 := by unfold maxLen at hmax; omega
    by_cases hc1 : c = 1
    · subst hc1
      have hz : t.length = 0 := by omega
      have hs := hr.drop_all 1 (by omega)
      rw [hfl] at hs
      have hfin := fun w' => rpop_close (x := x) (no := no) hc ho (a' := ⟨g, off, none⟩) (c' := 0) (by simpa using hs) (by simp [Value.blk]) w'
      have Hfin := Lib.hid hfin; clear hfin hs hcells hfl
      rw [hrest, hpt]
      have Hc := Lib.hid hc; have Hr := Lib.hid hr; clear hc hr hcap hmax hfree hcm
      rw [hz] at h0 hd0
      have Hz := Lib.hid hz
      clear hz hl
      go_enter Try.func35, Try.ntmps35
      go_wp2
      refine bodyPost_ret (v := .tuple #[tv x, .int .i64 0]) (by simp [results, Try.results35, go_sem]) rfl ?_
      refine Hfin.out _ ?_
      rw [Hz.out]
      exact ((World.Fr.refl _ []).alloc _).alloc _
    · have hs := hr.drop 1 (by omega)
      rw [hfl] at hs
      have hfin := fun w' => rpop_close (x := x) (no := no) hc ho (a' := ⟨g, off + 1 * 2, none⟩) (c' := c - 1) (by simpa using hs) (by simp [Value.blk]) w'
      have Hfin := Lib.hid hfin; clear hfin hs hcells hfl
      rw [hrest, hpt]
      have hcc : 1 ≤ c := by omega
      have hcn : 1 < c := by omega
      have hd1 : decide ((1 : Int) < (c : Int)) = true := decide_eq_true (by omega)
      have Hc := Lib.hid hc; have Hr := Lib.hid hr; have Hl := Lib.hid hl; clear hc hr hcap hmax hfree hl
      go_enter Try.func35, Try.ntmps35
      go_wp2
      refine bodyPost_ret (v := .tuple #[tv x, .int .i64 0]) (by simp [results, Try.results35, go_sem]) rfl ?_
      exact Hfin.out _ (((World.Fr.refl _ []).alloc _).alloc _)

def rallT (l : List T) (no : T) : T := match l with | [] => no | x :: t => t.foldl opT x

structure RInv (w : World) (r : Nat) (v : Value) (l : List T) (no : T) (wr : World) (x : T) : Prop where
  cells : wr.heap[r]? = some (.cells #[v, .int .u64 no.1, .int .u64 no.2] 53 (0, 0))
  row : wr.Sl 26 2 v l.length (l.flatMap thK.enc)
  res : wr.heap[w.heap.size]? = some (.cells #[.int .u64 0, .int .u64 0] 26 (0, 0))
  x : wr.heap[w.heap.size + 1]? = some (.cells #[.int .u64 x.1, .int .u64 x.2] 26 (0, 0))
  fr : w.Fr wr []

set_option maxHeartbeats 1000000 in
theorem rall27 {w : World} {r : Nat} {L : List Nat} {l : List T} {no : T} (h : HasRef w r l no L) (hl : l.length < 1000000) :
    Calls Try.prog 27 #[.pointer (some ⟨r,0,none⟩)] w fun e w' => e = .returned (tv (rallT l no)) ∧ w.Fr w' [] := by
  obtain ⟨v, ⟨hc, hr, ho⟩, rfl⟩ := h
  cases l with
  | nil =>
    obtain ⟨a, c, hv, _, _⟩ := hr.shape
    subst hv
    obtain ⟨h0, h1, h2, hf⟩ := three hc
    have hrl := lt_of_heap hc
    have hrl1 : r < w.heap.size + 1 := by omega
    simp only [List.length_nil] at h0
    clear hc hr
    go_enter Try.func27, Try.ntmps27
    go_wp2
    refine bodyPost_ret (v := tv no) (by simp [results, Try.results27, go_sem]) rfl ⟨rfl, ?_⟩
    exact (World.Fr.refl w []).alloc _
  | cons x t =>
    obtain ⟨g, off, c, hv, hcap, hmax, hgl, hcells, hfree⟩ := hr.form (by simp)
    subst hv
    have hx1 := hcells 0 (by simp)
    have hx2 := hcells 1 (by simp; omega)
    simp only [List.flatMap_cons, List.cons_append, List.nil_append, List.getElem?_cons_zero, List.getElem?_cons_succ, Nat.add_zero] at hx1 hx2
    obtain ⟨h0, h1, h2, hf⟩ := three hc
    have hrl := lt_of_heap hc
    have hrl1 : r < w.heap.size + 1 := by omega
    have hrl2 : r < w.heap.size + 1 + 1 := by omega
    have hgl1 : g < w.heap.size + 1 := by omega
    have hgl2 : g < w.heap.size + 1 + 1 := by omega
    have hd0 : (((x :: t).length : Int) == 0) = false := beq_eq_false_iff_ne.2 (by simp; omega)
    have hp0 : (0 : Int) < ((x :: t).length : Int) := by simp
    have hra : rallT (x :: t) no = t.foldl opT x := rfl
    have hinv : RInv w r (.slice (some ⟨g, off, none⟩) (x :: t).length c) (x :: t) no ((w.alloc (.cells #[.int .u64 0, .int .u64 0] 26)).alloc (.cells #[.int .u64 x.1, .int .u64 x.2] 26)) x :=
      ⟨heap_alloc_some (heap_alloc_some hc _) _, (hr.alloc _).alloc _, heap_alloc_some (heap_alloc_at _ _ _ rfl) _, heap_alloc_at _ _ _ (by simp), ((World.Fr.refl w []).alloc _).alloc _⟩
    have hcellT : ∀ k y, (x :: t)[k]? = some y → ∀ wr z, RInv w r (.slice (some ⟨g, off, none⟩) (x :: t).length c) (x :: t) no wr z →
        wr.cell? ⟨g, off + k * 2, none⟩ = some (.int .u64 y.1) ∧ wr.cell? ⟨g, off + k * 2 + 1, none⟩ = some (.int .u64 y.2) := by
      intro k y hk wr z hz
      obtain ⟨e1, e2⟩ := flatT_get (x :: t) k y hk
      have hkl := (List.getElem?_eq_some_iff.1 hk).1
      have c1 := hz.row.cells (g := g) (off := off) (cap := c) rfl (2 * k) (by omega)
      have c2 := hz.row.cells (g := g) (off := off) (cap := c) rfl (2 * k + 1) (by omega)
      rw [e1, show off + 2 * k = off + k * 2 from by omega] at c1
      rw [e2, show off + (2 * k + 1) = off + k * 2 + 1 from by omega] at c2
      exact ⟨c1, c2⟩
    rw [hra]
    have Hinv := Lib.hid hinv; have HcT := Lib.hid hcellT; clear hinv hcellT hc hr hcells hfree hra hcap hmax
    have hn : (x :: t).length < 1000000 := hl
    clear hl
    generalize hN : (x :: t).length = N at *
    have HN := Lib.hid hN; clear hN
    go_enter Try.func27, Try.ntmps27
    go_wp2
    go_loopw [4] (fun i wr => ∃ k : Nat, k + 1 ≤ N ∧ i = .int .i64 ((k + 1 : Nat) : Int) ∧ Hid (RInv w r (.slice (some ⟨g, off, none⟩) N c) (x :: t) no wr ((t.take k).foldl opT x))) (fun i _ => (N - intOf i).toNat)
    case atStart => exact ⟨0, by have := HN.out; simp at this; omega, rfl, Hinv⟩
    case round =>
      obtain ⟨k, hk, rfl, HI⟩ := hrel
      clear h0 h1 h2 hf hx1 hx2
      obtain ⟨q1, q2, q3, q4, q5⟩ := HI.out
      obtain ⟨h0, h1, h2, hf⟩ := three q1
      obtain ⟨b0, b1, bf⟩ := two q4
      obtain ⟨c0, c1, cf⟩ := two q3
      by_cases hlt : k + 1 < N
      · have htl : k < t.length := by have := HN.out; simp at this; omega
        have hget : (x :: t)[k + 1]? = some t[k] := by simp [htl]
        obtain ⟨e1, e2⟩ := HcT.out (k + 1) _ hget wr _ HI.out
        have hlI : ((k + 1 : Nat) : Int) < (N : Int) := by omega
        have hw1 : IntKind.i64.wrap (((k + 1 : Nat) : Int) + 1) = ((k + 1 + 1 : Nat) : Int) := by rw [IntWalk.i64_in _ (by omega)]; omega
        have hnext : (t.take (k + 1)).foldl opT x = opT ((t.take k).foldl opT x) t[k] := by
          rw [List.take_succ_eq_append_getElem htl, List.foldl_append]; rfl
        have Hnext := Lib.hid hnext; have Q1 := Lib.hid q1; have Q2 := Lib.hid q2; have Q3 := Lib.hid q3; have Q4 := Lib.hid q4; have Q5 := Lib.hid q5; clear hnext q1 q2 q3 q4 q5 hget
        generalize t[k] = y at *
        generalize (t.take k).foldl opT x = acc at *
        generalize hK : k + 1 = K at *
        go_wp2
        have hs3 : (K : Int) < N := by omega
        go_still_tail 8, (by kernel_rfl)
        change wpList _ _ _ _ _ wr.drew
        go_wp2_with fail
        refine (op8 acc y _).mono ?_
        rintro e w2 ⟨rfl, hf2⟩
        have hf3 : wr.Fr w2 [] := (World.Fr.refl wr []).drew.trans hf2 (by simp)
        have p1 := hf3.heap Q1.out (by simp)
        have p3 := hf3.heap Q3.out (by simp)
        have p4 := hf3.heap Q4.out (by simp)
        have hfin : RInv w r (.slice (some ⟨g, off, none⟩) N c) (x :: t) no ((w2.setCell ⟨w.heap.size + 1, 0, none⟩ (.int .u64 (opT acc y).1)).setCell ⟨w.heap.size + 1, 1, none⟩ (.int .u64 (opT acc y).2)) (opT acc y) := by
          refine ⟨heap_set_other (heap_set_other p1 _ (by simp; omega) _) _ (by simp; omega) _, ?_, heap_set_other (heap_set_other p3 _ (by simp) _) _ (by simp) _, heap_set_same (heap_set_same p4 0 _) 1 _,
            ((Q5.out.trans hf3 (by simp)).setCell (.inr (by simp)) _).setCell (.inr (by simp)) _⟩
          exact (((Q2.out.fr hf3 (by simp)).setCell (by simp [Value.blk]; omega) _).setCell (by simp [Value.blk]; omega) _)
        obtain ⟨l0, l1, lf⟩ := two p4
        have Hfin := Lib.hid hfin; clear hfin p1 p3 p4 hf2 hf3
        go_wp2
        go_roundw
        case rel => exact ⟨k + 1, by omega, by rw [hK]; go_num, by rw [hK, Hnext.out]; exact Hfin⟩
        case measure => simp [intOf]; omega
      · have hkn : k + 1 = N := by omega
        have htl : t.length = k := by have := HN.out; simp at this; omega
        have htk : t.take k = t := by rw [← htl]; exact List.take_length
        have hnI : ¬ (((k + 1 : Nat) : Int) < (N : Int)) := by omega
        have hd : decide (((k + 1 : Nat) : Int) < (N : Int)) = false := decide_eq_false hnI
        have hd2 : decide (k + 1 < N) = false := decide_eq_false (by omega)
        rw [htk] at q4 b0 b1
        have Q5 := Lib.hid q5; have Hkn := Lib.hid hkn; clear q1 q2 q3 q4 q5 HI hnI hkn htk htl
        go_wp2
        refine bodyPost_ret (v := tv (t.foldl opT x)) (by simp [results, Try.results27, go_sem, c0, c1]) rfl ⟨rfl, ?_⟩
        exact (Q5.out.setCell (.inr (by simp)) _).setCell (.inr (by simp)) _
end Go.Proofs.Ytikodccbecmjiaa
