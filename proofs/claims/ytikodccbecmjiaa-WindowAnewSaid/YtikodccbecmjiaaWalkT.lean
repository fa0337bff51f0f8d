/-
  The walks of the window of things (pairs of numbers): does, Len, Push, over whatever operation meets its contract ('OpOk').
-/
import Derived.Test.YtikodccbecmjiaaProg
import Derived.Test.YtikodccbecmjiaaWin
import Derived.WalkKit
import Derived.Outline
import Derived.Deep.QuietTactic
import Derived.BigQuiet
import Derived.WalkLawsBesides
import Derived.WalkSpells
import Derived.Deep.DeepCutAuto
import Derived.Deep.RegionLaw
import Derived.Deep.RegionWith
import Derived.Deep.DeepMust
import Derived.StillTailTactics
namespace Go.Proofs.Ytikodccbecmjiaa
open Go.RowKit Go.Win

abbrev T := Int × Int
abbrev thK : Kind T := { tw := 60, tp := 62, te := 26, k := 2, enc := fun x => [.int .u64 x.1, .int .u64 x.2] }
abbrev tv (x : T) : Value := .agg #[.int .u64 x.1, .int .u64 x.2]

/-- The contract of the operation that a window is over: F, called on x, y and what it captured, tells f x y; it may turn the blocks of Lo alone, of which J says how they are behind so many calls. -/
structure OpOk (F : FuncId) (cap : Array Value) (f : T → T → T) (J : Nat → World → Prop) (Lo : List Nat) (ok : T → Prop) : Prop where
  call : ∀ args w, Sem.run Try.prog (callFunc F args) w = .ok (.enter F args) w
  op : ∀ n x y w, n < 8000000000000000000 → J n w → ok x → ok y → Calls Try.prog F (#[tv x, tv y] ++ cap) w fun e w' => e = .returned (tv (f x y)) ∧ w.Fr w' Lo ∧ J (n + 1) w'
  okf : ∀ x y, ok x → ok y → ok (f x y)
  stay : ∀ n w w' M, J n w → w.Fr w' M → (∀ k, k ∈ Lo → k ∉ M) → J n w'
  lo : ∀ n w, J n w → ∀ k, k ∈ Lo → k < w.heap.size

theorem eight {w : World} {p : Nat} {t : TypeId} {a b c d e f g h : Value} (hh : w.heap[p]? = some (.cells #[a, b, c, d, e, f, g, h] t (0, 0))) :
    w.cell? ⟨p, 0, none⟩ = some a ∧ w.cell? ⟨p, 1, none⟩ = some b ∧ w.cell? ⟨p, 2, none⟩ = some c ∧ w.cell? ⟨p, 3, none⟩ = some d ∧ w.cell? ⟨p, 4, none⟩ = some e ∧ w.cell? ⟨p, 5, none⟩ = some f ∧ w.cell? ⟨p, 6, none⟩ = some g ∧ w.cell? ⟨p, 7, none⟩ = some h ∧
    ∀ j, w.frozen? ⟨p, j, none⟩ = false := by
  refine ⟨?_, ?_, ?_, ?_, ?_, ?_, ?_, ?_, fun j => frozen_of_row w p j _ _ hh⟩ <;> simp [World.cell?, hh]
theorem two {w : World} {p : Nat} {t : TypeId} {a b : Value} (hh : w.heap[p]? = some (.cells #[a, b] t (0, 0))) :
    w.cell? ⟨p, 0, none⟩ = some a ∧ w.cell? ⟨p, 1, none⟩ = some b ∧ ∀ j, w.frozen? ⟨p, j, none⟩ = false := by
  refine ⟨?_, ?_, fun j => frozen_of_row w p j _ _ hh⟩ <;> simp [World.cell?, hh]

/-- the cells of a window of things -/
abbrev wcells (F : FuncId) (cap : Array Value) (no : T) (va vb : Value) (s : T) (n : Nat) : Array Value :=
  #[.func (.func F) #[] cap, .int .u64 no.1, .int .u64 no.2, va, vb, .int .u64 s.1, .int .u64 s.2, .int .i64 n]

section
variable {F : FuncId} {cap : Array Value} {f : T → T → T} {J : Nat → World → Prop} {Lo : List Nat} {ok : T → Prop}

def DoesT (F : FuncId) (cap : Array Value) (J : Nat → World → Prop) (Lo : List Nat) (p : Nat) (w : World) (no s : T) (va vb : Value) (n : Nat) (r : T) (e : Ending) (w' : World) : Prop :=
  e = .returned (tv r) ∧ w.Fr w' (p :: Lo) ∧ w'.heap[p]? = some (.cells (wcells F cap no va vb s (n + 1)) 60 (0, 0)) ∧ J (n + 1) w'

theorem does29 (hF : OpOk F cap f J Lo ok) (p : Nat) (hpl : p ∉ Lo) (no s : T) (va vb : Value) (n : Nat) (x y : T) (w : World)
   (hp : w.heap[p]? = some (.cells (wcells F cap no va vb s n) 60 (0,0))) (hn : n < 8000000000000000000) (hJ : J n w) (hx : ok x) (hy : ok y) :
   Calls Try.prog 29 #[.pointer (some ⟨p,0,none⟩), tv x, tv y] w (DoesT F cap J Lo p w no s va vb n (f x y)) := by
  obtain ⟨h0, _, _, _, _, _, _, h7, hf⟩ := eight hp
  have hpw := lt_of_heap hp
  have hpw1 : p < w.heap.size + 1 := by omega
  have hpw2 : p < w.heap.size + 1 + 1 := by omega
  have hpw3 : p < w.heap.size + 1 + 1 + 1 := by omega
  have hlo := hF.lo n w hJ
  have hw1 : IntKind.i64.wrap ((n : Int) + 1) = ((n + 1 : Nat) : Int) := by rw [IntWalk.i64_in _ (by omega)]; omega
  have Hc := Lib.hid hF.call
  have hc := Hc.out
  have Hp := Lib.hid hp; have HJ := Lib.hid hJ; have Hn := Lib.hid hn; clear hp hJ hn
  go_enter Try.func29, Try.ntmps29
  go_wp2
  generalize hW : World.alloc (World.alloc (World.alloc (World.setCell w _ _) _) _) _ = W
  have q1 : W.heap[p]? = some (.cells (wcells F cap no va vb s (n + 1)) 60 (0, 0)) := by
    rw [← hW]; exact heap_alloc_some (heap_alloc_some (heap_alloc_some (heap_set_same Hp.out 7 _) _) _) _
  have q2 : W.heap[w.heap.size]? = some (.cells #[.int .u64 x.1, .int .u64 x.2] 26 (0, 0)) := by
    rw [← hW]; exact heap_alloc_some (heap_alloc_some (heap_alloc_at _ _ _ (by simp)) _) _
  have q3 : W.heap[w.heap.size + 1]? = some (.cells #[.int .u64 y.1, .int .u64 y.2] 26 (0, 0)) := by
    rw [← hW]; exact heap_alloc_some (heap_alloc_at _ _ _ (by simp)) _
  have q4 : W.heap[w.heap.size + 1 + 1]? = some (.cells #[.int .u64 0, .int .u64 0] 26 (0, 0)) := by
    rw [← hW]; exact heap_alloc_at _ _ _ (by simp)
  have q5 : w.Fr W [p] := by
    rw [← hW]; exact ((((World.Fr.refl w [p]).setCell (by simp) _).alloc _).alloc _).alloc _
  clear hW
  obtain ⟨a0, _, _, _, _, _, _, _, af⟩ := eight q1
  obtain ⟨b0, b1, _⟩ := two q2
  obtain ⟨c0, c1, _⟩ := two q3
  have Q1 := Lib.hid q1; have Q4 := Lib.hid q4; have Q5 := Lib.hid q5; clear q1 q2 q3 q4 q5
  go_still_tail 6, (by kernel_rfl)
  change wpList _ _ _ _ _ W.drew
  go_wp2_with fail
  refine (hF.op n x y _ Hn.out (hF.stay n w W.drew [p] HJ.out Q5.out.drew (fun k hk => by simp; rintro rfl; exact hpl hk)) hx hy).mono ?_
  rintro e w2 ⟨rfl, hf2, hJ2⟩
  have r1 := hf2.heap Q1.out hpl
  have r4 := hf2.heap Q4.out (fun hk => by have := hlo _ hk; omega)
  obtain ⟨d0, d1, df⟩ := two r4
  have r5 := heap_set_other (heap_set_other r1 ⟨w.heap.size + 1 + 1, 0, none⟩ (by simp; omega) (.int .u64 (f x y).1)) ⟨w.heap.size + 1 + 1, 1, none⟩ (by simp; omega) (.int .u64 (f x y).2)
  have hfin : w.Fr ((w2.setCell ⟨w.heap.size + 1 + 1, 0, none⟩ (.int .u64 (f x y).1)).setCell ⟨w.heap.size + 1 + 1, 1, none⟩ (.int .u64 (f x y).2)) (p :: Lo) :=
    (((Q5.out.drew.mono (by simp)).trans hf2 (by intro j hj; simp [hj])).setCell (.inr (by simp; omega)) _).setCell (.inr (by simp; omega)) _
  have hJf := hF.stay (n + 1) w2 _ [w.heap.size + 1 + 1] hJ2 (((World.Fr.refl w2 [w.heap.size + 1 + 1]).setCell (a := ⟨w.heap.size + 1 + 1, 0, none⟩) (by simp) (.int .u64 (f x y).1)).setCell (a := ⟨w.heap.size + 1 + 1, 1, none⟩) (by simp) (.int .u64 (f x y).2)) (fun k hk => by have := hlo _ hk; simp; omega)
  have R5 := Lib.hid r5; have Hfin := Lib.hid hfin; have HJf := Lib.hid hJf; clear r1 r4 r5 hfin hJf hf2 hJ2
  go_wp2
  refine bodyPost_ret (v := tv (f x y)) (by simp [results, Try.results29, go_sem, d0, d1]) rfl ⟨rfl, Hfin.out, R5.out, HJf.out⟩

abbrev fc (F : FuncId) (cap : Array Value) : Value := .func (.func F) #[] cap
structure THas (F : FuncId) (cap : Array Value) (J : Nat → World → Prop) (Lo : List Nat) (w : World) (p : Nat) (s : WSt T) (L : List Nat) : Prop where
  has : HasWin thK (fc F cap) w p s L
  st : J s.calls w
  off : ∀ k, k ∈ L → k ∉ Lo
def TPost (F : FuncId) (cap : Array Value) (J : Nat → World → Prop) (Lo : List Nat) (p : Nat) (w : World) (L : List Nat) (s' : WSt T) (r : Value) (e : Ending) (w' : World) : Prop :=
  e = .returned r ∧ ∃ L', THas F cap J Lo w' p s' L' ∧ w.Fr w' (L ++ Lo) ∧ ∀ k, k ∈ L' → k ∈ L ∨ w.heap.size ≤ k

theorem TPost.mk (hF : OpOk F cap f J Lo ok) {w w' : World} {p : Nat} {va vb va' vb' : Value} {s' : WSt T} {r : Value} {n : Nat}
    (hp : w'.heap[p]? = some (.cells (wcells F cap s'.nothing va' vb' s'.sum s'.calls) 60 (0, 0)))
    (ha : w'.Sl 62 4 va' s'.ahead.length (s'.ahead.flatMap thK.pair)) (hb : w'.Sl 26 2 vb' s'.behind.length (s'.behind.flatMap thK.enc))
    (hJ : J s'.calls w') (hJ0 : J n w) (hoff : ∀ k, k ∈ foot p va vb → k ∉ Lo)
    (hfr : w.Fr w' (foot p va vb ++ Lo)) (h1 : ∀ k, k ∈ va'.blk → k ∈ va.blk ∨ w.heap.size ≤ k) (h2 : ∀ k, k ∈ vb'.blk → k ∈ vb.blk ∨ w.heap.size ≤ k)
    (hpa : p ∉ va.blk) (hpb : p ∉ vb.blk) (hlt : p < w.heap.size) (hab : ∀ k, k ∈ va'.blk → k ∉ vb'.blk) : TPost F cap J Lo p w (foot p va vb) s' r (.returned r) w' := by
  have hL : ∀ k, k ∈ foot p va' vb' → k ∈ foot p va vb ∨ w.heap.size ≤ k := fun k hk => by
    simp only [foot, List.mem_cons, List.mem_append] at hk ⊢
    rcases hk with h | h | h
    · exact .inl (.inl h)
    · exact (h1 k h).imp (fun h => .inr (.inl h)) id
    · exact (h2 k h).imp (fun h => .inr (.inr h)) id
  refine ⟨rfl, _, ⟨⟨va', vb', ⟨hp, ha, hb, fun h => ?_, fun h => ?_, hab⟩, rfl⟩, hJ, fun k hk => ?_⟩, hfr, hL⟩
  · rcases h1 p h with h | h
    · exact hpa h
    · omega
  · rcases h2 p h with h | h
    · exact hpb h
    · omega
  · rcases hL k hk with h | h
    · exact hoff k h
    · exact fun hl => by have := hF.lo n w hJ0 k hl; omega

/-- behind an append to 'behind', stored back -/
theorem TPost.pushed (hF : OpOk F cap f J Lo ok) {w W w1 w' : World} {p : Nat} {va vb : Value} {s' : WSt T} {r : Value} {g off c n n0 : Nat}
    (hp : w'.heap[p]? = some (.cells (wcells F cap s'.nothing va (.slice (some ⟨g, off, none⟩) n c) s'.sum s'.calls) 60 (0, 0)))
    (ha : W.Sl 62 4 va s'.ahead.length (s'.ahead.flatMap thK.pair))
    (hb : w1.Sl 26 2 (.slice (some ⟨g, off, none⟩) n c) s'.behind.length (s'.behind.flatMap thK.enc))
    (hJ : J s'.calls W) (hJ0 : J n0 w) (hoff : ∀ k, k ∈ foot p va vb → k ∉ Lo)
    (h0 : w.Fr W (foot p va vb ++ Lo)) (h1 : W.Fr w1 vb.blk) (h2 : w1.Fr w' [p]) (hat : g ∈ vb.blk ∨ g = W.heap.size)
    (hpa : p ∉ va.blk) (hpb : p ∉ vb.blk) (hlt : p < w.heap.size) (hab : ∀ k, k ∈ va.blk → k ∉ vb.blk) : TPost F cap J Lo p w (foot p va vb) s' r (.returned r) w' := by
  have hpg : p ≠ g := by
    rcases hat with h | h
    · exact fun e => hpb (e ▸ h)
    · have := h0.size; omega
  have hJ1 := hF.stay _ _ _ _ hJ h1 (fun k hk hv => hoff k (by simp [foot, hv]) hk)
  have hJ2 := hF.stay _ _ _ _ hJ1 h2 (fun k hk hv => hoff p (by simp [foot]) (by simp at hv; exact hv ▸ hk))
  refine TPost.mk hF hp ((ha.fr h1 hab).fr h2 fun k hk => by simp; exact fun e => hpa (e ▸ hk)) (hb.fr h2 fun k hk => by simp [Value.blk] at hk ⊢; omega) hJ2 hJ0 hoff ?_ (fun k hk => .inl hk) (fun k hk => ?_) hpa hpb hlt (fun k hk => ?_)
  · exact (h0.trans h1 fun j hj => .inl (by simp [foot, hj])).trans h2 fun j hj => .inl (by simp at hj; simp [foot, hj])
  · simp [Value.blk] at hk
    subst hk
    exact hat.imp id fun e => by have := h0.size; omega
  · simp [Value.blk]
    rintro rfl
    rcases hat with h | h
    · exact hab _ hk h
    · have := ha.lt _ hk; omega

theorem len28 {w : World} {p : Nat} {va vb : Value} {s : WSt T} (h : IsWin thK (fc F cap) w p va vb s) (hl : s.len < 9000000000000000000) :
    Calls Try.prog 28 #[.pointer (some ⟨p,0,none⟩)] w fun e w' => e = .returned (.int .i64 s.len) ∧ ∃ n, w' = w.drewN n := by
  obtain ⟨hp, ha, hb, _⟩ := h
  obtain ⟨aa, ca, rfl, _, _⟩ := ha.shape
  obtain ⟨ab, cb, rfl, _, _⟩ := hb.shape
  obtain ⟨_, _, _, h2, h3, _, _, _, hf⟩ := eight hp
  unfold WSt.len at *
  have Hp := Lib.hid hp; clear hp
  have hA : s.ahead.length < 9000000000000000000 := by omega
  have hB : s.behind.length < 9000000000000000000 := by omega
  generalize s.ahead.length = A at *
  generalize s.behind.length = B at *
  have hw : IntKind.i64.wrap ((A : Int) + B) = (A : Int) + B := IntWalk.i64_in _ (by omega)
  go_enter Try.func28, Try.ntmps28
  go_wp2
  go_quiet (fail)
  go_wp2
  go_ret
  exact ⟨rfl, _, rfl⟩

theorem infoT : (Try.prog.info? 26).map (fun i => (i.zero, i.size, i.bytes)) = some (some (.agg #[.int .u64 0, .int .u64 0]), 2, 16) := by kernel_rfl

theorem push9_full (hF : OpOk F cap f J Lo ok) {w : World} {p : Nat} {L : List Nat} {s : WSt T} (h : THas F cap J Lo w p s L) (hl : 4096 ≤ s.len) (hl2 : s.len < 1000000) (x : T) :
    Calls Try.prog 9 #[.pointer (some ⟨p,0,none⟩), tv x] w (TPost F cap J Lo p w L s (.int .i64 3)) := by
  obtain ⟨⟨va, vb, h, rfl⟩, hJ, hoff⟩ := h
  have hlen := fun o => len28 (w := w.alloc o) (F := F) (cap := cap) (va := va) (vb := vb) (p := p) (s := s) ⟨heap_alloc_some h.cells _, h.ahead.alloc _, h.behind.alloc _, h.pa, h.pb, h.ab⟩ (by omega)
  have Hl := Lib.hid hlen; clear hlen
  have hd1 : decide ((4096 : Int) ≤ (s.len : Int)) = true := decide_eq_true (by omega)
  have hd2 : decide (4096 ≤ s.len) = true := decide_eq_true (by omega)
  have hfin : ∀ o nq, TPost F cap J Lo p w (foot p va vb) s (.int .i64 3) (.returned (.int .i64 3)) ((w.alloc o).drewN nq) := fun o nq =>
    TPost.mk hF (heap_alloc_some h.cells _) (h.ahead.alloc _) (h.behind.alloc _) (hF.stay _ _ _ [] hJ (((World.Fr.refl w []).alloc o).of_drewN nq) (by simp)) hJ hoff (((World.Fr.refl w _).alloc o).of_drewN nq) (fun k hk => .inl hk) (fun k hk => .inl hk) h.pa h.pb (lt_of_heap h.cells) h.ab
  have Hfin := Lib.hid hfin; clear hfin hl hl2 h hJ hoff
  generalize s.len = N at *
  go_enter Try.func9, Try.ntmps9
  go_wp2_with fail
  refine (Hl.out _).mono ?_
  rintro e w' ⟨rfl, nq, rfl⟩
  go_wp2
  go_ret
  exact Hfin.out _ _

end
end Go.Proofs.Ytikodccbecmjiaa
