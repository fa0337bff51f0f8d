/-
  The walk of the statement PastOnce.
-/
import Derived.Test.YtbejmdlncnkaaaaGreatP26
namespace Go.Proofs.YtbejmdlncnkaaaaGreat
open Go.RowKit

theorem LV.put {w W : World} {k1 : Nat} {X : PX} {B1 : List Nat} {k2 : Nat} {Y : PX} {B2 : List Nat} {bs : List (Nat × Value × Value × Tb)} (h : LV w W k1 X B1 k2 Y B2 bs) {A : Nat} {u v x y : Value} {t : Tb} (hA : W.heap[A]? = some (.cells #[u, v] 34 (0, 0))) (hn : ∀ q, q ∈ bs → q.1 ≠ A) (hw : w.heap.size ≤ A) (ht : SlTab W (.agg #[x, y]) t) :
    LV w ((W.setCell ⟨A, 0, none⟩ x).setCell ⟨A, 1, none⟩ y) k1 X B1 k2 Y B2 ((A, x, y, t) :: bs) := by
  have h1 := ((World.Fr.refl W [A]).setCell (a := ⟨A, 0, none⟩) (.inl (by simp)) x).setCell (a := ⟨A, 1, none⟩) (.inl (by simp)) y
  have hod := Odd.one hA (by decide)
  refine ⟨h.p.fr h1 hod (fun k hk hm => by simp at hm; subst hm; exact h.p.ne hA (by decide) (by decide) hk), h.s.fr h1 hod (fun k hk hm => by simp at hm; subst hm; exact h.s.ne hA (by decide) (by decide) hk), h.dj, h.b1, h.b2, h.fr.trans h1 (fun k hk => .inr (by simp at hk; subst hk; exact hw)), fun q hq => ?_⟩
  rcases List.mem_cons.1 hq with rfl | hq
  · exact ⟨heap_set_same (heap_set_same hA 0 x) 1 y, ht.fr h1 hod⟩
  · exact ⟨h1.heap (h.box q hq).1 (by simpa using hn q hq), (h.box q hq).2.fr h1 hod⟩
theorem len_one' {α : Type} {l : List α} (h : (l.length : Int) = 1) : ∃ t, l = [t] := by
  match l, h with
  | [t], _ => exact ⟨t, rfl⟩
  | [], h => simp at h
  | _ :: _ :: _, h => simp at h; omega
/-- between the points: both operators, alike -/
structure OnI (cf : V → V → Int) (w wr : World) (p1 : Nat) (X : PX) (B1 : List Nat) (p2 : Nat) (B2 : List Nat) (j : Nat) : Prop where
  lv : LV w wr p1 X B1 p2 X.two B2 []
  ok : POkP cf X 600
  fn : X.fn = 65
  parts : X.parts = 1
  left : X.left = []
  few : X.w.length ≤ j
theorem OnI.still {cf : V → V → Int} {w wr w' : World} {p1 : Nat} {X : PX} {B1 : List Nat} {p2 : Nat} {B2 : List Nat} {j : Nat} (h : OnI cf w wr p1 X B1 p2 B2 j) (hf : wr.Fr w' []) : OnI cf w w' p1 X B1 p2 B2 j := ⟨h.lv.still hf, h.ok, h.fn, h.parts, h.left, h.few⟩
theorem OnI.more {cf : V → V → Int} {w wr : World} {p1 : Nat} {X : PX} {B1 : List Nat} {p2 : Nat} {B2 : List Nat} {j : Nat} (h : OnI cf w wr p1 X B1 p2 B2 j) : OnI cf w wr p1 X B1 p2 B2 (j + 1) := ⟨h.lv, h.ok, h.fn, h.parts, h.left, Nat.le_succ_of_le h.few⟩

end Go.Proofs.YtbejmdlncnkaaaaGreat
