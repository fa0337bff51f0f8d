/-
  The walks of the window of strings: does, Len, Push, turn, Pop, All, New, each as the plain state says.
-/
import Derived.Test.YtikodccbecmjiaaProg
import Derived.Test.YtikodccbecmjiaaWin
import Derived.WalkKit
import Derived.Outline
import Derived.Deep.QuietTactic
import Derived.BigQuiet
import Derived.WalkLawsBesides
import Derived.WalkSpells
import Derived.Deep.DeepCutAuto
import Derived.Deep.RegionLaw
namespace Go.Proofs.Ytikodccbecmjiaa
open Go.RowKit Go.Win

abbrev strK : Kind ByteArray := { tw := 65, tp := 67, te := 9, k := 1, enc := fun x => [.string x] }

structure Cat (F : FuncId) : Prop where
  call : ∀ args w, Sem.run Try.prog (callFunc F args) w = .ok (.enter F args) w
  op : ∀ x y w, x.size + y.size ≤ 9223372036854775807 → Calls Try.prog F #[.string x, .string y] w fun e w' => e = .returned (.string (x ++ y)) ∧ w = w'

theorem cat13 : Cat 13 := by
  refine ⟨fun args w => by kernel_rfl, fun x y w h => ?_⟩
  go_enter Try.func13, Try.ntmps13
  go_wp2
  go_ret
  exact ⟨rfl, rfl⟩
theorem cat16 : Cat 16 := by
  refine ⟨fun args w => by kernel_rfl, fun x y w h => ?_⟩
  go_enter Try.func16, Try.ntmps16
  go_wp2
  go_ret
  exact ⟨rfl, rfl⟩
theorem cat30 : Cat 30 := by
  refine ⟨fun args w => by kernel_rfl, fun x y w h => ?_⟩
  go_enter Try.func30, Try.ntmps30
  go_wp2
  go_ret
  exact ⟨rfl, rfl⟩

theorem six {w : World} {p : Nat} {t : TypeId} {a b c d e f : Value} (h : w.heap[p]? = some (.cells #[a, b, c, d, e, f] t (0, 0))) :
    w.cell? ⟨p, 0, none⟩ = some a ∧ w.cell? ⟨p, 1, none⟩ = some b ∧ w.cell? ⟨p, 2, none⟩ = some c ∧ w.cell? ⟨p, 3, none⟩ = some d ∧ w.cell? ⟨p, 4, none⟩ = some e ∧ w.cell? ⟨p, 5, none⟩ = some f ∧
    ∀ j, w.frozen? ⟨p, j, none⟩ = false := by
  refine ⟨?_, ?_, ?_, ?_, ?_, ?_, fun j => frozen_of_row w p j _ _ h⟩ <;> simp [World.cell?, h]

def fv (F : FuncId) : Value := .func (.func F) #[] #[]

def DoesPost (p : Nat) (w : World) (no s : ByteArray) (va vb : Value) (F : FuncId) (n : Nat) (r : ByteArray) (e : Ending) (w' : World) : Prop :=
  e = .returned (.string r) ∧ w.Fr w' [p] ∧ w'.heap[p]? = some (.cells #[.func (.func F) #[] #[], .string no, va, vb, .string s, .int .i64 (n + 1 : Nat)] 65 (0,0))

theorem does31 {F : FuncId} (hF : Cat F) (p : Nat) (no s : ByteArray) (va vb : Value) (n : Nat) (x y : ByteArray) (w : World) 
   (hp : w.heap[p]? = some (.cells #[.func (.func F) #[] #[], .string no, va, vb, .string s, .int .i64 n] 65 (0,0))) (hn : n < 9000000000000000000) (hs : x.size + y.size ≤ 9223372036854775807) :
   Calls Try.prog 31 #[.pointer (some ⟨p,0,none⟩), .string x, .string y] w (DoesPost p w no s va vb F n (x ++ y)) := by
  obtain ⟨h0, _, _, _, _, h5, hf⟩ := six hp
  have hc := hF.call
  have hfr : w.Fr (w.setCell ⟨p, 5, none⟩ (.int .i64 (n + 1 : Nat))) [p] := (World.Fr.refl _ _).setCell (by simp) _
  have hh : (w.setCell ⟨p, 5, none⟩ (.int .i64 (n + 1 : Nat))).heap[p]? = some (.cells #[.func (.func F) #[] #[], .string no, va, vb, .string s, .int .i64 (n + 1 : Nat)] 65 (0,0)) := by
    rw [heap_setCell_same w p 5 _ _ _ hp]; rfl
  have Hfr := Lib.hid hfr; have Hh := Lib.hid hh; clear hfr hh
  have Hp := Lib.hid hp; clear hp
  go_enter Try.func31, Try.ntmps31
  go_wp2_with fail
  refine (hF.op _ _ _ hs).mono ?_
  rintro e w' ⟨rfl, rfl⟩
  go_wp2
  go_ret
  exact ⟨rfl, Hfr.out, Hh.out⟩

theorem len18 {F : FuncId} {w : World} {p : Nat} {va vb : Value} {s : WSt ByteArray} (h : IsWin strK (fv F) w p va vb s) (hl : s.len < 9000000000000000000) :
    Calls Try.prog 18 #[.pointer (some ⟨p,0,none⟩)] w fun e w' => e = .returned (.int .i64 s.len) ∧ ∃ n, w' = w.drewN n := by
  obtain ⟨hp, ha, hb, _⟩ := h
  obtain ⟨aa, ca, rfl, _, _⟩ := ha.shape
  obtain ⟨ab, cb, rfl, _, _⟩ := hb.shape
  obtain ⟨_, _, h2, h3, _, _, hf⟩ := six hp
  unfold WSt.len at *
  have Hp := Lib.hid hp; clear hp
  have hA : s.ahead.length < 9000000000000000000 := by omega
  have hB : s.behind.length < 9000000000000000000 := by omega
  generalize s.ahead.length = A at *
  generalize s.behind.length = B at *
  have hw : IntKind.i64.wrap ((A : Int) + B) = (A : Int) + B := IntWalk.i64_in _ (by omega)
  go_enter Try.func18, Try.ntmps18
  go_wp2
  go_quiet (fail)
  go_wp2
  go_ret
  exact ⟨rfl, _, rfl⟩

theorem infoS : (Try.prog.info? 9).map (fun i => (i.zero, i.size, i.bytes)) = some (some (.string .empty), 1, 16) := by kernel_rfl

theorem push14 {F : FuncId} (hF : Cat F) {w : World} {p : Nat} {L : List Nat} {s : WSt ByteArray} (h : HasWin strK (fv F) w p s L) (hl : s.len < 4096) (hc : s.calls < 8000000000000000000) (x : ByteArray) (hx : s.sum.size + x.size ≤ 9223372036854775807) :
    Calls Try.prog 14 #[.pointer (some ⟨p,0,none⟩), .string x] w (WPost strK (fv F) p w L (s.push (· ++ ·) x) (.int .i64 0)) := by
  obtain ⟨va, vb, h, rfl⟩ := h
  have hlen := len18 h (by omega)
  obtain ⟨hp, ha, hb, hpa, hpb, hab⟩ := h
  obtain ⟨ab, cb, hvb, _, _⟩ := hb.shape
  have hpl := lt_of_heap hp
  have hn1 : s.behind.length < 4096 := by unfold WSt.len at hl; omega
  obtain ⟨i0, hi, hz0, hz1, hz2⟩ := info_parts infoS
  have Hl := Lib.hid hlen; clear hlen
  have hd1 : decide ((4096 : Int) ≤ (s.len : Int)) = false := by simp; omega
  have hd2 : decide (4096 ≤ s.len) = false := by simp; omega
  clear hl
  generalize s.len = N at *
  cases hbe : s.behind with
  | nil =>
    rw [hbe] at hb hvb hn1
    simp only [List.length_nil] at hb hvb
    subst hvb
    obtain ⟨h0, h1, h2, h3, h4, h5, hf⟩ := six hp
    have hps : (s.push (· ++ ·) x) = { s with behind := [x], sum := x } := by unfold WSt.push; rw [hbe]
    have Hps := Lib.hid hps; clear hps
    have Hp := Lib.hid hp; have Hbe := Lib.hid hbe; have Hc := Lib.hid hc; have Hx := Lib.hid hx; have Hn1 := Lib.hid hn1; clear hp hbe hc hx hn1
    go_enter Try.func14, Try.ntmps14
    go_wp2_with fail
    refine Hl.out.mono ?_
    rintro e w' ⟨rfl, nq, rfl⟩
    go_wp2_with (at_builtin; refine wpList_append_one _ rfl (.tmp 32) (.tmp 34) 36 rfl 9 i0 (.string .empty) 1 16 Try.underlying36 hi hz0 hz1 hz2 rfl (.slice ab 0 cb) 0 [] rfl ?qhb w.heap.size 1 [.string x] 9 rfl ?qB rfl rfl ⟨?qc1, ?qc2⟩ ?_)
    case qhb => exact (World.Sl.setCell (w := w.drewN nq) hb hpb _).alloc _
    case qB => exact heap_alloc_at _ _ _ (by simp)
    case qc1 => omega
    case qc2 => omega
    intro g off cap w1 hsl hfr hat hlt
    have hW := heap_set_same (w := w.drewN nq) Hp.out 4 (.string x)
    have hW1 := hfr.heap (heap_alloc_some hW _) hpb
    obtain ⟨k0, k1, k2, k3, k4, k5, kf⟩ := six hW1
    have hfin := WPost.pushed (K := strK) (s' := { s with behind := [x], sum := x }) (r := .int .i64 0) (heap_set_same hW1 3 (.slice (some ⟨g, off, none⟩) 1 cap)) ((World.Sl.setCell (w := w.drewN nq) ha hpa _).alloc _) hsl
      (((World.Fr.refl w (foot p va (.slice ab 0 cb))).of_drewN nq |>.setCell (by simp [foot]) _).alloc _) hfr ((World.Fr.refl w1 [p]).setCell (a := ⟨p, 3, none⟩) (by simp) _) (by simpa using hat) hpa hpb hpl hab
    have Hfin := Lib.hid hfin; clear hfin hW1 hW hsl hfr hat
    go_wp2
    go_ret
    rw [Hps.out]
    exact Hfin.out
  | cons b r =>
    have hps : (s.push (· ++ ·) x) = { s with behind := s.behind ++ [x], sum := s.sum ++ x, calls := s.calls + 1 } := by unfold WSt.push; rw [hbe]
    have Hps := Lib.hid hps; clear hps
    have hbl : 0 < s.behind.length := by rw [hbe]; simp
    subst hvb
    obtain ⟨h0, h1, h2, h3, h4, h5, hf⟩ := six hp
    have hd3 : decide ((s.behind.length : Int) = 0) = false := decide_eq_false (by omega)
    have hd4 : ((s.behind.length : Int) == 0) = false := beq_eq_false_iff_ne.2 (by omega)
    have hdoes := fun nq => does31 hF p s.nothing s.sum va (.slice ab s.behind.length cb) s.calls s.sum x (w.drewN nq) hp (by omega) hx
    have Hd := Lib.hid hdoes; clear hdoes
    have hlen1 : (s.behind ++ [x]).length = s.behind.length + 1 := by simp
    have hfl : (s.behind ++ [x]).flatMap strK.enc = s.behind.flatMap strK.enc ++ [.string x] := by simp
    have Hlen := Lib.hid hlen1; have Hfl := Lib.hid hfl; clear hlen1 hfl
    have Hp := Lib.hid hp; have Hbe := Lib.hid hbe; have Hc := Lib.hid hc; have Hx := Lib.hid hx; have Hn1 := Lib.hid hn1; clear hp hbe hc hx hn1
    generalize hB : s.behind.length = B at *
    have HB := Lib.hid hB; clear hB
    go_enter Try.func14, Try.ntmps14
    go_wp2_with fail
    refine Hl.out.mono ?_
    rintro e w' ⟨rfl, nq, rfl⟩
    go_wp2_with fail
    refine (Hd.out nq).mono ?_
    rintro e w2 ⟨rfl, hfr2, hp2⟩
    obtain ⟨j0, j1, j2, j3, j4, j5, jf⟩ := six hp2
    have Hp2 := Lib.hid hp2; have Hfr2 := Lib.hid hfr2; clear hp2 hfr2
    have hb2 := World.Sl.fr (w := w.drewN nq) hb Hfr2.out (fun k hk => by simp; exact fun e => hpb (e ▸ hk))
    have ha2 := World.Sl.fr (w := w.drewN nq) ha Hfr2.out (fun k hk => by simp; exact fun e => hpa (e ▸ hk))
    go_wp2_with (at_builtin; refine wpList_append_one _ rfl (.tmp 32) (.tmp 34) 36 rfl 9 i0 (.string .empty) 1 16 Try.underlying36 hi hz0 hz1 hz2 rfl (.slice ab B cb) B (s.behind.flatMap strK.enc) rfl ?qhb w2.heap.size 1 [.string x] 9 rfl ?qB rfl rfl ⟨?qc1, ?qc2⟩ ?_)
    case qhb => exact (hb2.setCell hpb _).alloc _
    case qB => exact heap_alloc_at _ _ _ (by simp)
    case qc1 => have := Hn1.out; omega
    case qc2 => have := Hn1.out; omega
    intro g off cap w1 hsl hfr hat hlt
    have hW := heap_set_same Hp2.out 4 (.string (s.sum ++ x))
    have hW1 := hfr.heap (heap_alloc_some hW _) hpb
    obtain ⟨k0, k1, k2, k3, k4, k5, kf⟩ := six hW1
    have hfin := WPost.pushed (K := strK) (s' := { s with behind := s.behind ++ [x], sum := s.sum ++ x, calls := s.calls + 1 }) (r := .int .i64 0) (heap_set_same hW1 3 (.slice (some ⟨g, off, none⟩) (B + 1) cap)) ((ha2.setCell hpa _).alloc _) (by rw [Hlen.out, Hfl.out]; exact hsl)
      (((((World.Fr.refl w (foot p va (.slice ab B cb))).of_drewN nq).trans Hfr2.out (by simp [foot])).setCell (by simp [foot]) _).alloc _) hfr ((World.Fr.refl w1 [p]).setCell (a := ⟨p, 3, none⟩) (by simp) _) (by simpa using hat) hpa hpb hpl hab
    have Hfin := Lib.hid hfin; clear hfin hW1 hW hsl hfr hat
    go_wp2
    go_ret
    rw [Hps.out]
    exact Hfin.out
end Go.Proofs.Ytikodccbecmjiaa
