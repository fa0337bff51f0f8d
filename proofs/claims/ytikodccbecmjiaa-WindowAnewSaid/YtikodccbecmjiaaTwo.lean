/-
  The window and the reference's window side by side: each call on one leaves the other, and some boxes, as they were.
-/
import Derived.Test.YtikodccbecmjiaaAbs
import Derived.Test.YtikodccbecmjiaaStir
namespace Go.Proofs.Ytikodccbecmjiaa
open Go.RowKit Go.Win

abbrev Jt : Nat → World → Prop := fun _ _ => True
abbrev okt : T → Prop := fun _ => True

/-- from w0 on, in which the two had the blocks N0: now, in wi, they are s and l, and the boxes of Q hold what they hold -/
structure Two (w0 : World) (N0 : List Nat) (p r : Nat) (no : T) (Q : List (Nat × Obj)) (wi : World) (s : WSt T) (l : List T) (L M : List Nat) : Prop where
  win : THas 8 #[] Jt [] wi p s L
  ref : HasRef wi r l no M
  dis : ∀ k, k ∈ L → k ∉ M
  fr : w0.Fr wi N0
  new : ∀ k, (k ∈ L ∨ k ∈ M) → k ∈ N0 ∨ w0.heap.size ≤ k
  box : ∀ q, q ∈ Q → wi.heap[q.1]? = some q.2 ∧ q.1 ∉ L ∧ q.1 ∉ M
def TwoAt (w0 : World) (N0 : List Nat) (p r : Nat) (no : T) (Q : List (Nat × Obj)) (wi : World) (s : WSt T) (l : List T) : Prop := ∃ L M, Two w0 N0 p r no Q wi s l L M

section
variable {w0 : World} {N0 : List Nat} {p r : Nat} {no : T} {Q : List (Nat × Obj)} {wi wj : World} {s : WSt T} {l : List T}

theorem TwoAt.box (h : TwoAt w0 N0 p r no Q wi s l) {b : Nat} {o : Obj} (hq : (b, o) ∈ Q) : wi.heap[b]? = some o := by
  obtain ⟨L, M, h⟩ := h
  exact (h.box _ hq).1

theorem Two.winStep {L M : List Nat} {s' : WSt T} {v : Value} {e : Ending} (h : Two w0 N0 p r no Q wi s l L M) (hp : TPost 8 #[] Jt [] p wi L s' v e wj) : e = .returned v ∧ TwoAt w0 N0 p r no Q wj s' l := by
  obtain ⟨he, L', hT, hf, hL⟩ := hp
  rw [List.append_nil] at hf
  have hML : ∀ k, k ∈ M → k ∉ L := fun k hk hl => h.dis k hl hk
  refine ⟨he, L', M, hT, h.ref.fr hf hML, fun k hk hm => (hL k hk).elim (fun hl => h.dis k hl hm) (fun hge => by have := h.ref.lt k hm; omega), h.fr.trans hf (fun j hj => h.new j (.inl hj)), fun k hk => ?_, fun q hq => ?_⟩
  · rcases hk with hk | hk
    · exact (hL k hk).elim (fun hl => h.new k (.inl hl)) (fun hge => .inr (Nat.le_trans h.fr.size hge))
    · exact h.new k (.inr hk)
  · obtain ⟨b1, b2, b3⟩ := h.box q hq
    exact ⟨hf.heap b1 b2, fun hk => (hL _ hk).elim b2 (fun hge => by have := lt_of_heap b1; omega), b3⟩
theorem Two.refStep {L M : List Nat} {l' : List T} {v : Value} {e : Ending} (h : Two w0 N0 p r no Q wi s l L M) (hp : RPost r wi M l' no v e wj) : e = .returned v ∧ TwoAt w0 N0 p r no Q wj s l' := by
  obtain ⟨he, M', hR, hf, hM⟩ := hp
  refine ⟨he, L, M', ⟨h.win.has.fr hf h.dis, trivial, h.win.off⟩, hR, fun k hk hm => (hM k hm).elim (fun hm => h.dis k hk hm) (fun hge => by have := h.win.has.lt k hk; omega), h.fr.trans hf (fun j hj => h.new j (.inr hj)), fun k hk => ?_, fun q hq => ?_⟩
  · rcases hk with hk | hk
    · exact h.new k (.inl hk)
    · exact (hM k hk).elim (fun hl => h.new k (.inr hl)) (fun hge => .inr (Nat.le_trans h.fr.size hge))
  · obtain ⟨b1, b2, b3⟩ := h.box q hq
    exact ⟨hf.heap b1 b3, b2, fun hk => (hM _ hk).elim b3 (fun hge => by have := lt_of_heap b1; omega)⟩
/-- a step that turns neither of the two nor a box -/
theorem TwoAt.still (h : TwoAt w0 N0 p r no Q wi s l) (hf : wi.Fr wj []) : TwoAt w0 N0 p r no Q wj s l := by
  obtain ⟨L, M, h⟩ := h
  exact ⟨L, M, ⟨h.win.has.fr hf (by simp), trivial, h.win.off⟩, h.ref.fr hf (by simp), h.dis, h.fr.trans hf (by simp), h.new, fun q hq => ⟨hf.heap (h.box q hq).1 (by simp), (h.box q hq).2⟩⟩
/-- a new box -/
theorem TwoAt.alloc (h : TwoAt w0 N0 p r no Q wi s l) (o : Obj) : TwoAt w0 N0 p r no ((wi.heap.size, o) :: Q) (wi.alloc o) s l := by
  have h2 := h.still ((World.Fr.refl wi []).alloc o)
  have hlt : ∀ k, (∃ x, wi.heap[k]? = some x) → k < wi.heap.size := fun k ⟨x, hx⟩ => lt_of_heap hx
  obtain ⟨L, M, h0⟩ := h
  refine ⟨L, M, ⟨⟨h0.win.has.fr ((World.Fr.refl wi []).alloc o) (by simp), trivial, h0.win.off⟩, h0.ref.fr ((World.Fr.refl wi []).alloc o) (by simp), h0.dis, h0.fr.alloc o, h0.new, fun q hq => ?_⟩⟩
  rcases List.mem_cons.1 hq with rfl | hq
  · exact ⟨heap_alloc_at _ _ _ rfl, fun hk => by have := h0.win.has.lt _ hk; simp at this, fun hk => by have := h0.ref.lt _ hk; simp at this⟩
  · obtain ⟨b1, b2⟩ := h0.box q hq
    exact ⟨heap_alloc_some b1 o, b2⟩
theorem TwoAt.drop {q : Nat × Obj} (h : TwoAt w0 N0 p r no (q :: Q) wi s l) : TwoAt w0 N0 p r no Q wi s l := by
  obtain ⟨L, M, h⟩ := h
  exact ⟨L, M, h.win, h.ref, h.dis, h.fr, h.new, fun q hq => h.box q (by simp [hq])⟩

variable (h : TwoAt w0 N0 p r no Q wi s l)
include h
theorem tPush {B : Nat} (hG : Good okt B s) (hB : B ≤ room) (x : T) : Calls Try.prog 9 #[.pointer (some ⟨p,0,none⟩), tv x] wi fun e w' => e = .returned (.int .i64 (errP s)) ∧ TwoAt w0 N0 p r no Q w' (pushR opT s x) l := by
  obtain ⟨L, M, h⟩ := h
  exact (pushAny ok8 h.win hG hB x trivial).mono fun e w' hp => h.winStep hp
theorem tPop {B : Nat} (hG : Good okt B s) (hB : B ≤ room) : Calls Try.prog 21 #[.pointer (some ⟨p,0,none⟩)] wi fun e w' => e = .returned (popV (s.turned opT)) ∧ TwoAt w0 N0 p r no Q w' (s.turned opT).cut l := by
  obtain ⟨L, M, h⟩ := h
  exact (popAny ok8 h.win hG hB).mono fun e w' hp => h.winStep hp
theorem tAll {B : Nat} (hG : Good okt B s) (hB : B ≤ room) : Calls Try.prog 10 #[.pointer (some ⟨p,0,none⟩)] wi fun e w' => e = .returned (tv (s.all opT)) ∧ TwoAt w0 N0 p r no Q w' s.asked l := by
  obtain ⟨L, M, h⟩ := h
  exact (allAny ok8 h.win hG hB).mono fun e w' hp => h.winStep hp
theorem tLen (hl : s.len < 9000000000000000000) : Calls Try.prog 28 #[.pointer (some ⟨p,0,none⟩)] wi fun e w' => e = .returned (.int .i64 s.len) ∧ TwoAt w0 N0 p r no Q w' s l := by
  have h' := h
  obtain ⟨L, M, h⟩ := h
  obtain ⟨va, vb, hw, _⟩ := h.win.has
  exact (len28 hw hl).mono fun e w' ⟨he, n, hw⟩ => ⟨he, by subst hw; exact h'.still ((World.Fr.refl wi []).of_drewN n)⟩
theorem rPush (hl : l.length ≤ 4096) (x : T) : Calls Try.prog 34 #[.pointer (some ⟨r,0,none⟩), tv x] wi fun e w' => e = .returned (.int .i64 (if l.length < 4096 then 0 else 3)) ∧ TwoAt w0 N0 p r no Q w' s (if l.length < 4096 then l ++ [x] else l) := by
  obtain ⟨L, M, h⟩ := h
  by_cases hlt : l.length < 4096
  · rw [if_pos hlt, if_pos hlt]
    exact (rpush34 x h.ref hlt).mono fun e w' hp => h.refStep hp
  · rw [if_neg hlt, if_neg hlt]
    exact (rpush34_full h.ref (by omega) (by omega)).mono fun e w' hp => h.refStep hp
theorem rPop (hl : l.length ≤ 4096) : Calls Try.prog 35 #[.pointer (some ⟨r,0,none⟩)] wi fun e w' => e = .returned (.tuple #[tv (rpopT l).1, .int .i64 (rpopT l).2]) ∧ TwoAt w0 N0 p r no Q w' s l.tail := by
  obtain ⟨L, M, h⟩ := h
  exact (rpop35 h.ref (by omega)).mono fun e w' hp => h.refStep hp
theorem rAll (hl : l.length ≤ 4096) : Calls Try.prog 27 #[.pointer (some ⟨r,0,none⟩)] wi fun e w' => e = .returned (tv (rallT l no)) ∧ TwoAt w0 N0 p r no Q w' s l := by
  have h' := h
  obtain ⟨L, M, h⟩ := h
  exact (rall27 h.ref (by omega)).mono fun e w' ⟨he, hf⟩ => ⟨he, h'.still hf⟩
end
end Go.Proofs.Ytikodccbecmjiaa
