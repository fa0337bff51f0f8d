/-
  WindowCounts: the window whose operation counts, and its calls.
-/
import Derived.Test.YtikodccbecmjiaaCounts
import Derived.Test.YtikodccbecmjiaaPlays
import Derived.BigQuiet
namespace Go.Proofs.Ytikodccbecmjiaa
open Go.RowKit Go.Win

abbrev capC (c1 c2 c3 : Nat) : Array Value := #[.pointer (some ⟨c1, 0, none⟩), .pointer (some ⟨c2, 0, none⟩), .pointer (some ⟨c3, 0, none⟩)]

theorem JC.fr {c1 c2 c3 n : Nat} {w w' : World} {M : List Nat} (h : JC c1 c2 c3 n w) (hf : w.Fr w' M) (hM : ∀ k, k ∈ [c1, c2, c3] → k ∉ M) : JC c1 c2 c3 n w' :=
  ⟨hf.heap h.calls (hM _ (by simp)), hf.heap h.strange (hM _ (by simp)), hf.heap h.none (hM _ (by simp))⟩

theorem okC19 {c1 c2 c3 : Nat} (h12 : c1 ≠ c2) (h13 : c1 ≠ c3) (h23 : c2 ≠ c3) : OpOk 19 (capC c1 c2 c3) opC (JC c1 c2 c3) [c1, c2, c3] okC where
  call := fun args w => by rfl
  op := fun n x y w hn hJ hx hy => closure19 c1 c2 c3 h12 h13 h23 n x y w hn hJ hx hy
  okf := fun x y _ _ => rfl
  stay := fun n w w' M hJ hf hM => hJ.fr hf hM
  lo := fun n w hJ k hk => by
    simp at hk
    rcases hk with rfl | rfl | rfl
    · exact lt_of_heap hJ.calls
    · exact lt_of_heap hJ.strange
    · exact lt_of_heap hJ.none

section
variable {F : FuncId} {cap : Array Value}
theorem calls22 {w : World} {p : Nat} {va vb : Value} {s : WSt T} (h : IsWin thK (fc F cap) w p va vb s) :
    Calls Try.prog 22 #[.pointer (some ⟨p,0,none⟩)] w fun e w' => e = .returned (.int .i64 s.calls) ∧ w = w' := by
  obtain ⟨hp, ha, hb, _⟩ := h
  obtain ⟨_, _, _, h2, h3, _, _, h7, hf⟩ := eight hp
  have Hp := Lib.hid hp; clear hp ha hb
  go_enter Try.func22, Try.ntmps22
  go_wp2
  go_ret
  exact ⟨rfl, rfl⟩
end

/-- the window whose operation counts; the boxes of Q hold what they hold -/
structure CA (w0 : World) (c1 c2 c3 p : Nat) (Q : List (Nat × Obj)) (w : World) (s : WSt T) (L : List Nat) : Prop where
  dif : c1 ≠ c2 ∧ c1 ≠ c3 ∧ c2 ≠ c3
  win : THas 19 (capC c1 c2 c3) (JC c1 c2 c3) [c1, c2, c3] w p s L
  fr : w0.Fr w []
  new : ∀ k, k ∈ L ++ [c1, c2, c3] → w0.heap.size ≤ k
  box : ∀ q, q ∈ Q → w.heap[q.1]? = some q.2 ∧ q.1 ∉ L ++ [c1, c2, c3]
def CAt (w0 : World) (c1 c2 c3 p : Nat) (Q : List (Nat × Obj)) (w : World) (s : WSt T) : Prop := ∃ L, CA w0 c1 c2 c3 p Q w s L

section
variable {w0 : World} {c1 c2 c3 p : Nat} {Q : List (Nat × Obj)} {wi wj : World} {s : WSt T}

theorem CAt.box (h : CAt w0 c1 c2 c3 p Q wi s) {b : Nat} {o : Obj} (hq : (b, o) ∈ Q) : wi.heap[b]? = some o := by
  obtain ⟨L, h⟩ := h
  exact (h.box _ hq).1
theorem CAt.base (h : CAt w0 c1 c2 c3 p Q wi s) : w0.Fr wi [] := by obtain ⟨L, h⟩ := h; exact h.fr
theorem CAt.calls (h : CAt w0 c1 c2 c3 p Q wi s) : wi.cell? ⟨c1, 0, none⟩ = some (.int .i64 s.calls) := by obtain ⟨L, h⟩ := h; exact (one h.win.st.calls).1
theorem CAt.strange (h : CAt w0 c1 c2 c3 p Q wi s) : wi.cell? ⟨c2, 0, none⟩ = some (.bool false) := by obtain ⟨L, h⟩ := h; exact (one h.win.st.strange).1
theorem CA.step {L : List Nat} {s' : WSt T} {v : Value} {e : Ending} (h : CA w0 c1 c2 c3 p Q wi s L) (hp : TPost 19 (capC c1 c2 c3) (JC c1 c2 c3) [c1, c2, c3] p wi L s' v e wj) : e = .returned v ∧ CAt w0 c1 c2 c3 p Q wj s' := by
  obtain ⟨he, L', hT, hf, hL⟩ := hp
  have hlo := (okC19 h.dif.1 h.dif.2.1 h.dif.2.2).lo _ _ h.win.st
  refine ⟨he, L', h.dif, hT, h.fr.trans hf (fun j hj => .inr (h.new j hj)), fun k hk => ?_, fun q hq => ?_⟩
  · rcases List.mem_append.1 hk with hk | hk
    · exact (hL k hk).elim (fun hl => h.new k (by simp [hl])) (fun hge => Nat.le_trans h.fr.size hge)
    · exact h.new k (List.mem_append_right _ hk)
  · obtain ⟨b1, b2⟩ := h.box q hq
    refine ⟨hf.heap b1 b2, fun hk => ?_⟩
    rcases List.mem_append.1 hk with hk | hk
    · exact (hL _ hk).elim (fun hl => b2 (List.mem_append_left _ hl)) (fun hge => by have := lt_of_heap b1; omega)
    · exact b2 (List.mem_append_right _ hk)
theorem CAt.still (h : CAt w0 c1 c2 c3 p Q wi s) (hf : wi.Fr wj []) : CAt w0 c1 c2 c3 p Q wj s := by
  obtain ⟨L, h⟩ := h
  exact ⟨L, h.dif, ⟨h.win.has.fr hf (by simp), h.win.st.fr hf (by simp), h.win.off⟩, h.fr.trans hf (by simp), h.new, fun q hq => ⟨hf.heap (h.box q hq).1 (by simp), (h.box q hq).2⟩⟩
theorem CAt.alloc (h : CAt w0 c1 c2 c3 p Q wi s) (o : Obj) : CAt w0 c1 c2 c3 p ((wi.heap.size, o) :: Q) (wi.alloc o) s := by
  have h2 := h.still ((World.Fr.refl wi []).alloc o)
  obtain ⟨L, h0⟩ := h
  have hlo := (okC19 h0.dif.1 h0.dif.2.1 h0.dif.2.2).lo _ _ h0.win.st
  have hf := (World.Fr.refl wi []).alloc o
  refine ⟨L, h0.dif, ⟨h0.win.has.fr hf (by simp), h0.win.st.fr hf (by simp), h0.win.off⟩, h0.fr.alloc o, h0.new, fun q hq => ?_⟩
  rcases List.mem_cons.1 hq with rfl | hq
  · refine ⟨heap_alloc_at _ _ _ rfl, fun hk => ?_⟩
    rcases List.mem_append.1 hk with hk | hk
    · have := h0.win.has.lt _ hk; simp at this
    · have := hlo _ hk; simp at this
  · obtain ⟨b1, b2⟩ := h0.box q hq
    exact ⟨heap_alloc_some b1 o, b2⟩
theorem CAt.drop {q : Nat × Obj} (h : CAt w0 c1 c2 c3 p (q :: Q) wi s) : CAt w0 c1 c2 c3 p Q wi s := by
  obtain ⟨L, h⟩ := h
  exact ⟨L, h.dif, h.win, h.fr, h.new, fun q hq => h.box q (by simp [hq])⟩

variable (h : CAt w0 c1 c2 c3 p Q wi s)
include h
theorem cPush {B : Nat} (hG : Good okC B s) (hB : B ≤ room) (x : T) (hx : okC x) : Calls Try.prog 9 #[.pointer (some ⟨p,0,none⟩), tv x] wi fun e w' => e = .returned (.int .i64 (errP s)) ∧ CAt w0 c1 c2 c3 p Q w' (pushR opC s x) := by
  obtain ⟨L, h⟩ := h
  exact (pushAny (okC19 h.dif.1 h.dif.2.1 h.dif.2.2) h.win hG hB x hx).mono fun e w' hp => h.step hp
theorem cPop {B : Nat} (hG : Good okC B s) (hB : B ≤ room) : Calls Try.prog 21 #[.pointer (some ⟨p,0,none⟩)] wi fun e w' => e = .returned (popV (s.turned opC)) ∧ CAt w0 c1 c2 c3 p Q w' (s.turned opC).cut := by
  obtain ⟨L, h⟩ := h
  exact (popAny (okC19 h.dif.1 h.dif.2.1 h.dif.2.2) h.win hG hB).mono fun e w' hp => h.step hp
theorem cAll {B : Nat} (hG : Good okC B s) (hB : B ≤ room) : Calls Try.prog 10 #[.pointer (some ⟨p,0,none⟩)] wi fun e w' => e = .returned (tv (s.all opC)) ∧ CAt w0 c1 c2 c3 p Q w' s.asked := by
  obtain ⟨L, h⟩ := h
  exact (allAny (okC19 h.dif.1 h.dif.2.1 h.dif.2.2) h.win hG hB).mono fun e w' hp => h.step hp
theorem cCalls : Calls Try.prog 22 #[.pointer (some ⟨p,0,none⟩)] wi fun e w' => e = .returned (.int .i64 s.calls) ∧ wi = w' := by
  obtain ⟨L, h⟩ := h
  obtain ⟨va, vb, hw, _⟩ := h.win.has
  exact calls22 hw
end
end Go.Proofs.Ytikodccbecmjiaa
