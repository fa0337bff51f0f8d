/-
  WindowPlays: a clone beside the two, and stir.
-/
import Derived.Test.YtikodccbecmjiaaStep4
import Derived.Test.YtikodccbecmjiaaLive
namespace Go.Proofs.Ytikodccbecmjiaa
open Go.RowKit Go.Win

section
variable {w0 : World} {N0 : List Nat} {p q r : Nat} {no : T} {Q : List (Nat × Obj)} {wi wj : World} {s : WSt T} {l : List T} {B : Nat}

/-- the two, and a clone of the window at q -/
def CloneAt (w0 : World) (N0 : List Nat) (p q r : Nat) (no : T) (Q : List (Nat × Obj)) (wi : World) (s : WSt T) (l : List T) : Prop :=
  ∃ L M L', Two w0 N0 p r no Q wi s l L M ∧ THas 8 #[] Jt [] wi q s L' ∧ (∀ k, k ∈ L' → k ∉ L ∧ k ∉ M ∧ w0.heap.size ≤ k) ∧ ∀ b, b ∈ Q → b.1 ∉ L'

theorem tClone (h : TwoAt w0 N0 p r no Q wi s l) (hl : s.len < 1000000) :
    Calls Try.prog 24 #[.pointer (some ⟨p,0,none⟩)] wi fun e w' => ∃ q, e = .returned (.pointer (some ⟨q, 0, none⟩)) ∧ CloneAt w0 N0 p q r no Q w' s l := by
  obtain ⟨L, M, h⟩ := h
  refine (clone24 ok8 h.win hl).mono fun e w' ⟨q, L', he, hT, hf, hL'⟩ => ⟨q, he, L, M, L', ?_, hT, fun k hk => ?_, fun b hb hk => ?_⟩
  · exact ⟨⟨h.win.has.fr hf (by simp), trivial, h.win.off⟩, h.ref.fr hf (by simp), h.dis, h.fr.trans hf (by simp), h.new, fun q hq => ⟨hf.heap (h.box q hq).1 (by simp), (h.box q hq).2⟩⟩
  · have := hL' k hk
    exact ⟨fun hl => by have := h.win.has.lt k hl; omega, fun hm => by have := h.ref.lt k hm; omega, Nat.le_trans h.fr.size this⟩
  · have := hL' _ hk; have := lt_of_heap (h.box b hb).1; omega
/-- the window that was left is stirred: the clone goes on -/
theorem stirOld (h : CloneAt w0 N0 p q r no Q wi s l) (hG : Good okt B s) (hB : B + 5 ≤ room) :
    Calls Try.prog 25 #[.pointer (some ⟨p,0,none⟩)] wi fun e w' => e = .returned (.tuple #[]) ∧ TwoAt w0 N0 q r no Q w' s l := by
  obtain ⟨L, M, L', h, hT, hd, hq⟩ := h
  refine (stir25 ok8 (fun _ => trivial) h.win hG hB).mono fun e w' ⟨he, hf⟩ => ⟨he, L', M, ?_⟩
  rw [List.append_nil] at hf
  exact ⟨⟨hT.has.fr hf (fun k hk => (hd k hk).1), trivial, hT.off⟩, h.ref.fr hf (fun k hk hl => h.dis k hl hk), fun k hk => (hd k hk).2.1, h.fr.trans hf (fun j hj => h.new j (.inl hj)),
    fun k hk => hk.elim (fun hk => .inr (hd k hk).2.2) (fun hk => h.new k (.inr hk)), fun b hb => ⟨hf.heap (h.box b hb).1 (h.box b hb).2.1, hq b hb, (h.box b hb).2.2⟩⟩
/-- the clone is stirred, and left -/
theorem stirNew (h : CloneAt w0 N0 p q r no Q wi s l) (hG : Good okt B s) (hB : B + 5 ≤ room) :
    Calls Try.prog 25 #[.pointer (some ⟨q,0,none⟩)] wi fun e w' => e = .returned (.tuple #[]) ∧ TwoAt w0 N0 p r no Q w' s l := by
  obtain ⟨L, M, L', h, hT, hd, hq⟩ := h
  refine (stir25 ok8 (fun _ => trivial) hT hG hB).mono fun e w' ⟨he, hf⟩ => ⟨he, L, M, ?_⟩
  rw [List.append_nil] at hf
  exact ⟨⟨h.win.has.fr hf (fun k hk hk' => (hd k hk').1 hk), trivial, h.win.off⟩, h.ref.fr hf (fun k hk hk' => (hd k hk').2.1 hk), h.dis, h.fr.trans hf (fun j hj => .inr (hd j hj).2.2),
    h.new, fun b hb => ⟨hf.heap (h.box b hb).1 (hq b hb), (h.box b hb).2⟩⟩

abbrev O := Int × Int × Int × Int
def encO (o : O) : List Value := [.int .i64 o.1, .int .u64 o.2.1, .int .u64 o.2.2.1, .int .i64 o.2.2.2]
theorem encO_get (l : List O) (j : Nat) (o : O) (h : l[j]? = some o) (i : Nat) (hi : i < 4) : (l.flatMap encO)[j * 4 + i]? = (encO o)[i]? := by
  induction l generalizing j with
  | nil => simp at h
  | cons a t ih =>
    cases j with
    | zero => simp at h; subst h; simp only [List.flatMap_cons, Nat.zero_mul, Nat.zero_add]; rw [List.getElem?_append_left (by simp [encO]; omega)]
    | succ j =>
      simp only [List.flatMap_cons]
      rw [List.getElem?_append_right (by simp [encO]; omega)]
      have := ih j (by simpa using h)
      rw [show (j + 1) * 4 + i - (encO a).length = j * 4 + i from by simp [encO]; omega]
      exact this

/-- the script in memory: n steps -/
structure Script (w : World) (v : Value) (l : List O) : Prop where
  shape : ∃ a c, v = .slice a l.length c
  cells : ∀ j o, l[j]? = some o → ∃ g off c, v = .slice (some ⟨g, off, none⟩) l.length c ∧ g < w.heap.size ∧ w.cell? ⟨g, off + j * 4, none⟩ = some (.int .i64 o.1) ∧ w.cell? ⟨g, off + j * 4 + 1, none⟩ = some (.int .u64 o.2.1) ∧
    w.cell? ⟨g, off + j * 4 + 2, none⟩ = some (.int .u64 o.2.2.1) ∧ w.cell? ⟨g, off + j * 4 + 3, none⟩ = some (.int .i64 o.2.2.2)
theorem Script.fr {w w' : World} {v : Value} {l : List O} (h : Script w v l) (hf : w.Fr w' []) : Script w' v l := by
  refine ⟨h.shape, fun j o ho => ?_⟩
  obtain ⟨g, off, c, hv, hg, h0, h1, h2, h3⟩ := h.cells j o ho
  have hb := hf.block g hg (by simp)
  have e : ∀ i, w'.cell? ⟨g, i, none⟩ = w.cell? ⟨g, i, none⟩ := fun i => World.cell?_of_block (a := ⟨g, i, none⟩) hb
  exact ⟨g, off, c, hv, by have := hf.size; omega, by rw [e]; exact h0, by rw [e]; exact h1, by rw [e]; exact h2, by rw [e]; exact h3⟩

theorem TwoAt.base (h : TwoAt w0 [] p r no Q wi s l) : w0.Fr wi [] := by obtain ⟨L, M, h⟩ := h; exact h.fr
theorem two_start {w2 : World} {L : List Nat} (hf : w0.Fr w2 []) (hw : THas 8 #[] Jt [] w2 p s L) (hL : ∀ k, k ∈ L → w0.heap.size ≤ k) (hr : w2.heap[r]? = some (.cells #[.slice none 0 0, .int .u64 no.1, .int .u64 no.2] 53 (0, 0)))
    (hrn : r ∉ L) (hr0 : w0.heap.size ≤ r) : TwoAt w0 [] p r no [] w2 s [] := by
  refine ⟨L, [r], hw, ⟨.slice none 0 0, ⟨hr, World.Sl.nil _ _ _, by simp [Value.blk]⟩, by simp [Value.blk]⟩, fun k hk => by simp; rintro rfl; exact hrn hk, hf, fun k hk => .inr ?_, by simp⟩
  rcases hk with hk | hk
  · exact hL k hk
  · simp at hk; subst hk; exact hr0
end
end Go.Proofs.Ytikodccbecmjiaa
