/-
  WindowAnew: the window of strings, a list beside it, and a window made anew: what each call leaves.
-/
import Derived.Test.YtikodccbecmjiaaAbs
import Derived.Test.YtikodccbecmjiaaLive
import Derived.Test.YtikodccbecmjiaaPlays
namespace Go.Proofs.Ytikodccbecmjiaa
open Go.RowKit Go.Win

theorem one1 {w : World} {p : Nat} {t : TypeId} {a : Value} (hh : w.heap[p]? = some (.cells #[a] t (0, 0))) :
    w.cell? ⟨p, 0, none⟩ = some a ∧ ∀ j, w.frozen? ⟨p, j, none⟩ = false := by
  refine ⟨?_, fun j => frozen_of_row w p j _ _ hh⟩ <;> simp [World.cell?, hh]

abbrev BA := ByteArray
abbrev cat : BA → BA → BA := (· ++ ·)
theorem cat_assoc (x y z : BA) : cat (cat x y) z = cat x (cat y z) := ByteArray.append_assoc

theorem size_fold (l : List BA) (b : BA) : (l.foldl cat b).size = b.size + tot l := by
  induction l generalizing b with
  | nil => simp [tot]
  | cons a t ih => rw [List.foldl_cons, ih, tot_cons]; simp [ByteArray.size_append]; omega
theorem tot_ones {l : List BA} (h : ∀ x, x ∈ l → x.size = 1) : tot l = l.length := by
  induction l with
  | nil => rfl
  | cons a t ih => rw [tot_cons, ih (fun x hx => h x (by simp [hx])), h a (by simp)]; simp; omega

/-- a window's state that stands for l, whose things are one byte each -/
structure SFit (no : BA) (B C : Nat) (s : WSt BA) (l : List BA) : Prop where
  abs : Abs cat s l
  no : s.nothing = no
  pot : pot s ≤ C
  sum : s.sum.size ≤ B
  len : l.length ≤ B
  ones : ∀ x, x ∈ l → x.size = 1

section
variable {no : BA} {B C : Nat} {s : WSt BA} {l : List BA}

theorem SFit.mono {B' C' : Nat} (h : SFit no B C s l) (hB : B ≤ B') (hC : C ≤ C') : SFit no B' C' s l :=
  ⟨h.abs, h.no, Nat.le_trans h.pot hC, Nat.le_trans h.sum hB, Nat.le_trans h.len hB, h.ones⟩
theorem SFit.push (h : SFit no B C s l) {x : BA} (hx : x.size = 1) : SFit no (B + 1) (C + 2) (s.push cat x) (l ++ [x]) := by
  have hp := h.pot
  unfold Go.Proofs.Ytikodccbecmjiaa.pot at hp
  refine ⟨h.abs.push x, by rw [push_nothing]; exact h.no, ?_, ?_, by have := h.len; simp; omega, fun y hy => ?_⟩
  · unfold WSt.push Go.Proofs.Ytikodccbecmjiaa.pot
    cases hb : s.behind <;> simp [hb] at hp ⊢ <;> omega
  · have := h.sum
    unfold WSt.push
    cases hb : s.behind with
    | nil => simp only; omega
    | cons b r => simp only [cat, ByteArray.size_append]; omega
  · rcases List.mem_append.1 hy with hy | hy
    · exact h.ones y hy
    · simp at hy; subst hy; exact hx

theorem okt_any (s : WSt BA) (hl : s.len ≤ 4096) {C : Nat} (hp : pot s ≤ C) : Good (fun _ => True) C s := ⟨hl, hp, by simp, by simp, by simp⟩
theorem SFit.pop (h : SFit no B C s l) (hB : B ≤ 4096) : SFit no B C (s.turned cat).cut l.tail := by
  have hg := (okt_any s (by rw [← h.abs.len]; exact Nat.le_trans h.len hB) h.pot).turned (f := cat) (by simp)
  have h2 := (h.abs.turned).cut (turned_empty s)
  refine ⟨h2.1, by unfold WSt.cut; rw [← h.no]; exact turned_nothing s, hg.cut.pot, ?_, by have := h.len; simp; omega, fun x hx => h.ones x (List.mem_of_mem_tail hx)⟩
  have : (s.turned cat).sum = s.sum := by unfold WSt.turned; split <;> first | rfl | rw [turnAt_zero]
  unfold WSt.cut
  rw [this]
  exact h.sum
theorem SFit.asked (h : SFit no B C s l) : SFit no B (C + 1) s.asked l := by
  obtain ⟨e1, e2, e3, e4⟩ := asked_same s
  refine ⟨h.abs.asked, by rw [e4]; exact h.no, ?_, by rw [e3]; exact h.sum, h.len, h.ones⟩
  have hp := h.pot
  unfold WSt.asked Go.Proofs.Ytikodccbecmjiaa.pot at *
  split <;> (try simp only) <;> omega

theorem SFit.turnOk (h : SFit no B C s l) (hB : B ≤ 1000000) (hC : C ≤ 1000000) (hA : s.ahead = []) : TurnOk s := by
  have hp := h.pot
  unfold Go.Proofs.Ytikodccbecmjiaa.pot at hp
  refine TurnOk.of hA (by omega) ?_
  have : l = s.behind := by rw [h.abs.list, hA]; rfl
  rw [← this, tot_ones h.ones]
  have := h.len
  omega
theorem SFit.last (h : SFit no B C s l) (q : BA × BA) (hq : s.ahead.getLast? = some q) : q.2.size ≤ B := by
  rcases List.eq_nil_or_concat s.ahead with hA | ⟨a0, q', hA⟩
  · rw [hA] at hq; cases hq
  · rw [List.concat_eq_append] at hA
    have hr : s.ahead.reverse = q' :: a0.reverse := by rw [hA]; simp
    rw [hA] at hq
    simp at hq
    subst hq
    have ha := h.abs.ahead
    rw [hr] at ha
    have hl := h.abs.list
    rw [hr] at hl
    have := AhR.head cat_assoc q' _ ha
    have e2 : q'.2.size = q'.1.size + tot (a0.reverse.map (·.1)) := by rw [this, size_fold]
    have h1 := tot_ones h.ones
    rw [hl, tot_append, List.map_cons, tot_cons] at h1
    have h2 := h.len
    rw [hl] at h2
    rw [e2]
    simp only [List.map_cons, List.length_append, List.length_cons] at h1 h2
    omega

def rpopS (l : List BA) : BA × Int := match l with | [] => (⟨#[]⟩, 110) | x :: _ => (x, 0)
theorem SFit.popVal (h : SFit no B C s l) : popVal (s.turned cat) = .tuple #[.string (rpopS l).1, .int .i64 (rpopS l).2] := by
  obtain ⟨_, h2, h3⟩ := (h.abs.turned).cut (turned_empty s)
  unfold Go.Proofs.Ytikodccbecmjiaa.popVal rpopS
  cases hl : (s.turned cat).ahead.getLast? with
  | none => rw [h2 hl]
  | some q => obtain ⟨t, ht⟩ := h3 q hl; rw [ht]
theorem SFit.all (h : SFit no B C s l) : s.all cat = allL cat no l := by rw [h.abs.all cat_assoc, h.no]

theorem SFit.new (no : BA) : SFit no 0 0 { nothing := no, ahead := [], behind := [], sum := ⟨#[]⟩, calls := 0 } [] :=
  ⟨⟨rfl, trivial, by simp⟩, rfl, by simp [Go.Proofs.Ytikodccbecmjiaa.pot], Nat.le_refl 0, by simp, by simp⟩
end

section
variable {F : FuncId} {w : World} {p : Nat} {L : List Nat} {no : BA} {B C : Nat} {s : WSt BA} {l : List BA}
variable (hF : Cat F) (h : HasWin strK (fv F) w p s L) (hS : SFit no B C s l) (hB : B ≤ 1000) (hC : C ≤ 100000)
include hF h hS hB hC
theorem sPush (x : BA) (hx : x.size = 1) : Calls Try.prog 14 #[.pointer (some ⟨p,0,none⟩), .string x] w (WPost strK (fv F) p w L (s.push cat x) (.int .i64 0)) := by
  have hp := hS.pot
  unfold pot at hp
  exact push14 hF h (by rw [← hS.abs.len]; have := hS.len; omega) (by omega) x (by have := hS.sum; omega)
theorem sPop : Calls Try.prog 15 #[.pointer (some ⟨p,0,none⟩)] w (WPost strK (fv F) p w L (s.turned cat).cut (.tuple #[.string (rpopS l).1, .int .i64 (rpopS l).2])) := by
  rw [← hS.popVal]
  exact pop15 hF h (by rw [← hS.abs.len]; have := hS.len; omega) (fun hA => hS.turnOk (by omega) (by omega) hA)
theorem sAll : Calls Try.prog 17 #[.pointer (some ⟨p,0,none⟩)] w (WPost strK (fv F) p w L s.asked (.string (allL cat no l))) := by
  rw [← hS.all]
  have hp := hS.pot
  unfold pot at hp
  exact all17 hF h (by rw [← hS.abs.len]; have := hS.len; omega) (by omega) (fun q hq => by have := hS.last q hq; have := hS.sum; omega)
omit hF hC in
theorem sLen : Calls Try.prog 18 #[.pointer (some ⟨p,0,none⟩)] w fun e w' => e = .returned (.int .i64 l.length) ∧ ∃ n, w' = w.drewN n := by
  obtain ⟨va, vb, hw, _⟩ := h
  rw [hS.abs.len]
  exact len18 hw (by rw [← hS.abs.len]; have := hS.len; omega)
end

/-- the window at p, and the list at v; the boxes of Q hold what they hold; all of them new since w0 -/
structure AN (w0 : World) (p : Nat) (v : Value) (Q : List (Nat × Obj)) (w : World) (s : WSt BA) (l : List BA) (L : List Nat) : Prop where
  win : HasWin strK (fv 13) w p s L
  sl : w.Sl 9 1 v l.length (l.flatMap strK.enc)
  fr : w0.Fr w []
  new : ∀ k, k ∈ L ++ v.blk → w0.heap.size ≤ k
  dis : ∀ k, k ∈ L → k ∉ v.blk
  box : ∀ b, b ∈ Q → w.heap[b.1]? = some b.2 ∧ b.1 ∉ L ++ v.blk
def ANt (w0 : World) (p : Nat) (v : Value) (Q : List (Nat × Obj)) (w : World) (s : WSt BA) (l : List BA) : Prop := ∃ L, AN w0 p v Q w s l L
/-- .. and a second window at q -/
structure AN2 (w0 : World) (p q : Nat) (v : Value) (Q : List (Nat × Obj)) (w : World) (s : WSt BA) (l : List BA) (s2 : WSt BA) (L L2 : List Nat) : Prop where
  one : AN w0 p v Q w s l L
  win2 : HasWin strK (fv 16) w q s2 L2
  new2 : ∀ k, k ∈ L2 → w0.heap.size ≤ k ∧ k ∉ L ++ v.blk ∧ ∀ b, b ∈ Q → b.1 ≠ k
def AN2t (w0 : World) (p q : Nat) (v : Value) (Q : List (Nat × Obj)) (w : World) (s : WSt BA) (l : List BA) (s2 : WSt BA) : Prop := ∃ L L2, AN2 w0 p q v Q w s l s2 L L2

section
variable {w0 : World} {p q : Nat} {v : Value} {Q : List (Nat × Obj)} {wi wj : World} {s s' s2 s2' : WSt BA} {l : List BA} {L L2 : List Nat} {e : Ending} {r : Value}

theorem ANt.boxed (h : ANt w0 p v Q wi s l) {b : Nat} {o : Obj} (hq : (b, o) ∈ Q) : wi.heap[b]? = some o := by
  obtain ⟨L, h⟩ := h
  exact (h.box _ hq).1
theorem ANt.base (h : ANt w0 p v Q wi s l) : w0.Fr wi [] := by obtain ⟨L, h⟩ := h; exact h.fr
theorem ANt.list (h : ANt w0 p v Q wi s l) : wi.Sl 9 1 v l.length (l.flatMap strK.enc) := by obtain ⟨L, h⟩ := h; exact h.sl
theorem ANt.still (h : ANt w0 p v Q wi s l) (hf : wi.Fr wj []) : ANt w0 p v Q wj s l := by
  obtain ⟨L, h⟩ := h
  exact ⟨L, h.win.fr hf (by simp), h.sl.fr hf (by simp), h.fr.trans hf (by simp), h.new, h.dis, fun b hb => ⟨hf.heap (h.box b hb).1 (by simp), (h.box b hb).2⟩⟩
theorem ANt.alloc (h : ANt w0 p v Q wi s l) (o : Obj) : ANt w0 p v ((wi.heap.size, o) :: Q) (wi.alloc o) s l := by
  have hf := (World.Fr.refl wi []).alloc o
  obtain ⟨L, h0⟩ := h
  refine ⟨L, h0.win.fr hf (by simp), h0.sl.fr hf (by simp), h0.fr.alloc o, h0.new, h0.dis, fun b hb => ?_⟩
  rcases List.mem_cons.1 hb with rfl | hb
  · refine ⟨heap_alloc_at _ _ _ rfl, fun hk => ?_⟩
    rcases List.mem_append.1 hk with hk | hk
    · have := h0.win.lt _ hk; simp at this
    · have := h0.sl.lt _ hk; simp at this
  · exact ⟨heap_alloc_some (h0.box b hb).1 o, (h0.box b hb).2⟩
theorem ANt.drop {b : Nat × Obj} (h : ANt w0 p v (b :: Q) wi s l) : ANt w0 p v Q wi s l := by
  obtain ⟨L, h⟩ := h
  exact ⟨L, h.win, h.sl, h.fr, h.new, h.dis, fun q hq => h.box q (by simp [hq])⟩
theorem AN.step (h : AN w0 p v Q wi s l L) (hp : WPost strK (fv 13) p wi L s' r e wj) : e = .returned r ∧ ∃ L', AN w0 p v Q wj s' l L' ∧ wi.Fr wj L ∧ ∀ k, k ∈ L' → k ∈ L ∨ wi.heap.size ≤ k := by
  obtain ⟨he, L', hT, hf, hL⟩ := hp
  have hvL : ∀ k, k ∈ v.blk → k ∉ L := fun k hk hl => h.dis k hl hk
  refine ⟨he, L', ⟨hT, h.sl.fr hf hvL, h.fr.trans hf (fun j hj => .inr (h.new j (by simp [hj]))), fun k hk => ?_, fun k hk hv => ?_, fun b hb => ?_⟩, hf, hL⟩
  · rcases List.mem_append.1 hk with hk | hk
    · exact (hL k hk).elim (fun hl => h.new k (by simp [hl])) (fun hge => Nat.le_trans h.fr.size hge)
    · exact h.new k (by simp [hk])
  · exact (hL k hk).elim (fun hl => h.dis k hl hv) (fun hge => by have := h.sl.lt k hv; omega)
  · obtain ⟨b1, b2⟩ := h.box b hb
    refine ⟨hf.heap b1 (fun hk => b2 (List.mem_append_left _ hk)), fun hk => ?_⟩
    rcases List.mem_append.1 hk with hk | hk
    · exact (hL _ hk).elim (fun hl => b2 (List.mem_append_left _ hl)) (fun hge => by have := lt_of_heap b1; omega)
    · exact b2 (List.mem_append_right _ hk)
theorem AN.stepT (h : AN w0 p v Q wi s l L) (hp : WPost strK (fv 13) p wi L s' r e wj) : e = .returned r ∧ ANt w0 p v Q wj s' l := by
  obtain ⟨he, L', h', _⟩ := h.step hp
  exact ⟨he, L', h'⟩
/-- behind an append to the list -/
theorem ANt.appended (h : ANt w0 p v Q wi s l) {x : BA} {g off cap : Nat} (hsl : wj.Sl 9 1 (.slice (some ⟨g, off, none⟩) (l.length + 1) cap) (l.length + 1) (l.flatMap strK.enc ++ [.string x])) (hf : wi.Fr wj v.blk) (hg : g ∈ v.blk ∨ g = wi.heap.size) :
    ANt w0 p (.slice (some ⟨g, off, none⟩) (l.length + 1) cap) Q wj s (l ++ [x]) := by
  obtain ⟨L, h⟩ := h
  refine ⟨L, h.win.fr hf h.dis, ?_, h.fr.trans hf (fun j hj => .inr (h.new j (by simp [hj]))), fun k hk => ?_, fun k hk hv => ?_, fun b hb => ?_⟩
  · have e1 : (l ++ [x]).length = l.length + 1 := by simp
    have e2 : (l ++ [x]).flatMap strK.enc = l.flatMap strK.enc ++ [.string x] := by simp
    rw [e1, e2]
    exact hsl
  · rcases List.mem_append.1 hk with hk | hk
    · exact h.new k (by simp [hk])
    · simp [Value.blk] at hk; subst hk
      exact hg.elim (fun hg => h.new _ (by simp [hg])) (fun hg => by have := h.fr.size; omega)
  · simp [Value.blk] at hv; subst hv
    exact hg.elim (fun hg => h.dis _ hk hg) (fun hg => by have := h.win.lt _ hk; omega)
  · obtain ⟨b1, b2⟩ := h.box b hb
    refine ⟨hf.heap b1 (fun hk => b2 (List.mem_append_right _ hk)), fun hk => ?_⟩
    rcases List.mem_append.1 hk with hk | hk
    · exact b2 (List.mem_append_left _ hk)
    · simp [Value.blk] at hk
      exact hg.elim (fun hg => b2 (List.mem_append_right _ (hk ▸ hg))) (fun hg => by have := lt_of_heap b1; omega)
/-- another slice of the same block -/
theorem ANt.sub (h : ANt w0 p v Q wi s l) {v' : Value} {l' : List BA} (hv : v'.blk = v.blk) (hsl : wi.Sl 9 1 v' l'.length (l'.flatMap strK.enc)) : ANt w0 p v' Q wi s l' := by
  obtain ⟨L, h⟩ := h
  exact ⟨L, h.win, hsl, h.fr, by rw [hv]; exact h.new, by rw [hv]; exact h.dis, by rw [hv]; exact h.box⟩

/-- a second window -/
theorem ANt.two (h : ANt w0 p v Q wi s l) (hw : HasWin strK (fv 16) wj q s2 [q]) (hf : wi.Fr wj []) (hq : wi.heap.size ≤ q) : AN2t w0 p q v Q wj s l s2 := by
  obtain ⟨L, h0⟩ := h
  refine ⟨L, [q], ⟨h0.win.fr hf (by simp), h0.sl.fr hf (by simp), h0.fr.trans hf (by simp), h0.new, h0.dis, fun b hb => ⟨hf.heap (h0.box b hb).1 (by simp), (h0.box b hb).2⟩⟩, hw, fun k hk => ?_⟩
  simp at hk
  subst hk
  refine ⟨Nat.le_trans h0.fr.size hq, fun hk => ?_, fun b hb => by have := lt_of_heap (h0.box b hb).1; omega⟩
  rcases List.mem_append.1 hk with hk | hk
  · have := h0.win.lt _ hk; omega
  · have := h0.sl.lt _ hk; omega
theorem AN2t.fst (h : AN2t w0 p q v Q wi s l s2) : ANt w0 p v Q wi s l := by obtain ⟨L, L2, h⟩ := h; exact ⟨L, h.one⟩
theorem AN2t.still (h : AN2t w0 p q v Q wi s l s2) (hf : wi.Fr wj []) : AN2t w0 p q v Q wj s l s2 := by
  obtain ⟨L, L2, h⟩ := h
  have h0 := h.one
  exact ⟨L, L2, ⟨h0.win.fr hf (by simp), h0.sl.fr hf (by simp), h0.fr.trans hf (by simp), h0.new, h0.dis, fun b hb => ⟨hf.heap (h0.box b hb).1 (by simp), (h0.box b hb).2⟩⟩, h.win2.fr hf (by simp), h.new2⟩
theorem AN2.step1 (h : AN2 w0 p q v Q wi s l s2 L L2) (hp : WPost strK (fv 13) p wi L s' r e wj) : e = .returned r ∧ AN2t w0 p q v Q wj s' l s2 := by
  obtain ⟨he, L', h', hf, hL⟩ := h.one.step hp
  refine ⟨he, L', L2, h', h.win2.fr hf (fun k hk hl => (h.new2 k hk).2.1 (List.mem_append_left _ hl)), fun k hk => ⟨(h.new2 k hk).1, fun hk' => ?_, (h.new2 k hk).2.2⟩⟩
  rcases List.mem_append.1 hk' with hk' | hk'
  · exact (hL k hk').elim (fun hl => (h.new2 k hk).2.1 (List.mem_append_left _ hl)) (fun hge => by have := h.win2.lt k hk; omega)
  · exact (h.new2 k hk).2.1 (List.mem_append_right _ hk')
theorem AN2.step2 (h : AN2 w0 p q v Q wi s l s2 L L2) (hp : WPost strK (fv 16) q wi L2 s2' r e wj) : e = .returned r ∧ AN2t w0 p q v Q wj s l s2' := by
  obtain ⟨he, L', hT, hf, hL⟩ := hp
  have h0 := h.one
  have hnot : ∀ k, k ∈ L ++ v.blk → k ∉ L2 := fun k hk hl => (h.new2 k hl).2.1 hk
  refine ⟨he, L, L', ⟨h0.win.fr hf (fun k hk => hnot k (by simp [hk])), h0.sl.fr hf (fun k hk => hnot k (by simp [hk])), h0.fr.trans hf (fun j hj => .inr (h.new2 j hj).1), h0.new, h0.dis, fun b hb => ⟨hf.heap (h0.box b hb).1 (fun hk => (h.new2 _ hk).2.2 b hb rfl), (h0.box b hb).2⟩⟩, hT, fun k hk => ?_⟩
  rcases hL k hk with hl | hge
  · exact h.new2 k hl
  · refine ⟨Nat.le_trans h0.fr.size hge, fun hk => ?_, fun b hb => by have := lt_of_heap (h0.box b hb).1; omega⟩
    rcases List.mem_append.1 hk with hk | hk
    · have := h0.win.lt _ hk; omega
    · have := h0.sl.lt _ hk; omega
end

section
variable {w0 : World} {p q : Nat} {v : Value} {Q : List (Nat × Obj)} {wi : World} {s s2 : WSt BA} {l l1 l2 : List BA} {no no2 : BA} {B C : Nat}
theorem aPush (h : ANt w0 p v Q wi s l) (hS : SFit no B C s l1) (hB : B ≤ 1000) (hC : C ≤ 100000) (x : BA) (hx : x.size = 1) :
    Calls Try.prog 14 #[.pointer (some ⟨p,0,none⟩), .string x] wi fun e w' => e = .returned (.int .i64 0) ∧ ANt w0 p v Q w' (s.push cat x) l := by
  obtain ⟨L, h⟩ := h
  exact (sPush cat13 h.win hS hB hC x hx).mono fun e w' hp => h.stepT hp
theorem aPop (h : ANt w0 p v Q wi s l) (hS : SFit no B C s l1) (hB : B ≤ 1000) (hC : C ≤ 100000) :
    Calls Try.prog 15 #[.pointer (some ⟨p,0,none⟩)] wi fun e w' => e = .returned (.tuple #[.string (rpopS l1).1, .int .i64 (rpopS l1).2]) ∧ ANt w0 p v Q w' (s.turned cat).cut l := by
  obtain ⟨L, h⟩ := h
  exact (sPop cat13 h.win hS hB hC).mono fun e w' hp => h.stepT hp
theorem aAll1 (h : AN2t w0 p q v Q wi s l s2) (hS : SFit no B C s l1) (hB : B ≤ 1000) (hC : C ≤ 100000) :
    Calls Try.prog 17 #[.pointer (some ⟨p,0,none⟩)] wi fun e w' => e = .returned (.string (allL cat no l1)) ∧ AN2t w0 p q v Q w' s.asked l s2 := by
  obtain ⟨L, L2, h⟩ := h
  exact (sAll cat13 h.one.win hS hB hC).mono fun e w' hp => h.step1 hp
theorem aAll2 (h : AN2t w0 p q v Q wi s l s2) (hS : SFit no B C s2 l1) (hB : B ≤ 1000) (hC : C ≤ 100000) :
    Calls Try.prog 17 #[.pointer (some ⟨q,0,none⟩)] wi fun e w' => e = .returned (.string (allL cat no l1)) ∧ AN2t w0 p q v Q w' s l s2.asked := by
  obtain ⟨L, L2, h⟩ := h
  exact (sAll cat16 h.win2 hS hB hC).mono fun e w' hp => h.step2 hp
theorem aPush2 (h : AN2t w0 p q v Q wi s l s2) (hS : SFit no B C s2 l1) (hB : B ≤ 1000) (hC : C ≤ 100000) (x : BA) (hx : x.size = 1) :
    Calls Try.prog 14 #[.pointer (some ⟨q,0,none⟩), .string x] wi fun e w' => e = .returned (.int .i64 0) ∧ AN2t w0 p q v Q w' s l (s2.push cat x) := by
  obtain ⟨L, L2, h⟩ := h
  exact (sPush cat16 h.win2 hS hB hC x hx).mono fun e w' hp => h.step2 hp
theorem aLen1 (h : AN2t w0 p q v Q wi s l s2) (hS : SFit no B C s l1) (hB : B ≤ 1000) (_hC : C ≤ 100000) :
    Calls Try.prog 18 #[.pointer (some ⟨p,0,none⟩)] wi fun e w' => e = .returned (.int .i64 l1.length) ∧ AN2t w0 p q v Q w' s l s2 := by
  have h' := h
  obtain ⟨L, L2, h⟩ := h
  exact (sLen h.one.win hS hB).mono fun e w' ⟨he, n, hw⟩ => ⟨he, by subst hw; exact h'.still ((World.Fr.refl wi []).of_drewN n)⟩
theorem aLen2 (h : AN2t w0 p q v Q wi s l s2) (hS : SFit no B C s2 l1) (hB : B ≤ 1000) (_hC : C ≤ 100000) :
    Calls Try.prog 18 #[.pointer (some ⟨q,0,none⟩)] wi fun e w' => e = .returned (.int .i64 l1.length) ∧ AN2t w0 p q v Q w' s l s2 := by
  have h' := h
  obtain ⟨L, L2, h⟩ := h
  exact (sLen h.win2 hS hB).mono fun e w' ⟨he, n, hw⟩ => ⟨he, by subst hw; exact h'.still ((World.Fr.refl wi []).of_drewN n)⟩
end

/-- a script's first steps -/
theorem Script.take {w : World} {a : Option Addr} {c : Nat} {l : List O} (h : Script w (.slice a l.length c) l) (k : Nat) (hk : k ≤ l.length) : Script w (.slice a k c) (l.take k) := by
  have hl : (l.take k).length = k := by simp; omega
  refine ⟨⟨a, c, by rw [hl]⟩, fun j o ho => ?_⟩
  rw [List.getElem?_take] at ho
  split at ho
  · obtain ⟨g, off, c', hv, hg⟩ := h.cells j o ho
    cases hv
    exact ⟨g, off, c, by rw [hl], hg⟩
  · cases ho
end Go.Proofs.Ytikodccbecmjiaa
