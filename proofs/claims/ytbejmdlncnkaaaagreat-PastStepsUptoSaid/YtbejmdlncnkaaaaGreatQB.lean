/-
  The statements' begun of the past: an operator and its reference, at their beginning.
-/
import Derived.Test.YtbejmdlncnkaaaaGreatXQR
import Derived.Test.YtbejmdlncnkaaaaGreatPaD
import Derived.Test.YtbejmdlncnkaaaaGreatXQL
import Derived.Test.YtbejmdlncnkaaaaGreatQS
set_option maxRecDepth 100000
set_option maxHeartbeats 16000000
set_option linter.unusedSimpArgs false
namespace Go.Proofs.YtbejmdlncnkaaaaGreat
open Go.RowKit
theorem PastAt.off {Q : Nat -> Prop} {w w' : World} {p : Nat} {S : PS} {vl vr vw : Value} {M : List Nat} (h : PastAt Q w p S vl vr vw) (hf : w.Fr w' M) (hM : ∀ k, k ∈ M -> ¬ Q k) (hd : ∀ k, k ∈ p :: vw.blk -> k ∉ M) : PastAt Q w' p S vl vr vw :=
 ⟨hf.heap h.box (hd p (by simp)), h.left.fr hf (fun k hk hm => hM k hm (h.names.1 k hk)), h.right.fr hf (fun k hk hm => hM k hm (h.names.2 k hk)), h.lw, h.rw, h.names, ⟨h.kept.sl.fr hf (fun k hk => hd k (by simp [hk])), fun k hk => (h.kept.tab k hk).off hf hM⟩⟩
theorem OpAt.off {Q : Nat -> Prop} {w w' : World} {p : Nat} {X : PX} {B M : List Nat} (h : OpAt Q w p X B) (hf : w.Fr w' M) (hM : ∀ k, k ∈ M -> ¬ Q k) (hd : ∀ k, k ∈ B -> k ∉ M) : OpAt Q w' p X B := by
 obtain ⟨S, vl, vr, vw, hx, hp, rfl⟩ := h
 exact ⟨S, vl, vr, vw, hx, hp.off hf hM hd, rfl⟩
theorem sev {w : World} {p : Nat} {t : TypeId} {a b c d e f g : Value} (hh : w.heap[p]? = some (.cells #[a, b, c, d, e, f, g] t (0, 0))) :
  w.cell? ⟨p, 0, none⟩ = some a /\ w.cell? ⟨p, 1, none⟩ = some b /\ w.cell? ⟨p, 2, none⟩ = some c /\ w.cell? ⟨p, 3, none⟩ = some d /\ w.cell? ⟨p, 4, none⟩ = some e /\ w.cell? ⟨p, 5, none⟩ = some f /\ w.cell? ⟨p, 6, none⟩ = some g /\ ∀ j, w.frozen? ⟨p, j, none⟩ = false := by
 refine ⟨?_, ?_, ?_, ?_, ?_, ?_, ?_, fun j => frozen_of_row w p j _ _ hh⟩ <;> simp [World.cell?, hh]
structure MkD where
 kind : Int
 i : Iv
 nt : Bool
 left : List BA
 right : List BA
def MkD.l (m : MkD) : List BA := if m.kind = 15 then m.left else []
def MkD.n (m : MkD) : Bool := if m.kind = 15 then m.nt else false
def MkD.p (m : MkD) : Int := if m.kind = 15 then 2 else 1
def MkD.x (m : MkD) : Nat := if m.kind = 15 then 65 else if m.kind = 13 then 65 else 59
def MkD.r (m : MkD) : Int := if m.kind = 15 then 15 else if m.kind = 13 then 13 else 11
abbrev MkD.X (m : MkD) : PX := beginP m.i m.n m.l m.right m.x m.p
abbrev MkD.v (m : MkD) (v1 v2 : Value) : Value := .agg #[.int .i64 m.kind, .int .i64 m.i.lo, .int .i64 m.i.hi, .bool m.i.op, .bool m.nt, v1, v2]
def BegP (w w' : World) (m : MkD) (p x : Value) : Prop :=
 beginE m.i m.l m.right ≠ 0 /\ p = .pointer none /\ x = .pointer none ∨
 beginE m.i m.l m.right = 0 /\ ∃ k kx xl xr, p = .pointer (some ⟨k, 0, none⟩) /\ x = .pointer (some ⟨kx, 0, none⟩) /\ w.heap.size <= k /\ w.heap.size <= kx /\ OpAt anyB w' k m.X [k] /\
  w'.heap[kx]? = some (.cells (rcells10 m.r m.i m.n xl xr (.slice none 0 0) (.slice none 0 0) (.slice none 0 0)) 107 (0, 0)) /\ NamesIn anyB w' xl (sortS m.l) /\ NamesIn anyB w' xr (sortS m.right)
theorem BegP.of {w wA wB wC w' : World} {m : MkD} {p x : Value} {L : List Nat} (hA : w.Fr wA []) (hB : wA.Fr wB []) (hC : wB.Fr wC []) (hL : ∀ k, k ∈ L -> k < wA.heap.size)
  (hp : beginE m.i m.l m.right ≠ 0 /\ p = .pointer none ∨ beginE m.i m.l m.right = 0 /\ ∃ k vl vr, p = .pointer (some ⟨k, 0, none⟩) /\ wA.heap.size <= k /\ PastAt (fun b => wA.heap.size <= b) wB k (beginS m.i m.n m.l m.right m.x m.p) vl vr (.slice none 0 0))
  (hx : MadeP (fun b => wA.heap.size <= b) wB wC m.r m.i m.n m.l m.right x) (hw : wC.Fr w' L) : BegP w w' m p x := by
 rcases hp with ⟨h0, rfl⟩ | ⟨h0, k, vl, vr, rfl, hk, hpa⟩
 ·rcases hx with ⟨_, rfl⟩ | ⟨h1, _⟩
  ·exact .inl ⟨h0, rfl, rfl⟩
  ·exact absurd h1 h0
 ·rcases hx with ⟨h1, _⟩ | ⟨_, kx, xl, xr, rfl, hkx, hbx, hn1, hn2⟩
  ·exact absurd h0 h1
  ·have hM : ∀ k, k ∈ L -> ¬ wA.heap.size <= k := fun k hk => by have := hL k hk; omega
   have hs := hB.size
   have hs0 := hA.size
   refine .inr ⟨h0, k, kx, xl, xr, rfl, rfl, by omega, by omega, ?_, ?_, ?_, ?_⟩
   ·exact ((OpAt.begun (hpa.still hC)).off hw hM (fun b hb hm => by simp at hb; subst hb; exact hM b hm hk)).imp (fun _ _ _ => trivial)
   ·exact hw.heap hbx (fun hm => by have := hL kx hm; omega)
   ·exact (hn1.off hw hM).imp (fun _ _ _ => trivial)
   ·exact (hn2.off hw hM).imp (fun _ _ _ => trivial)
theorem begun24 {cf : V -> V -> Int} (hK : Ctx V.wf cf) (hRC : RCtx cf) {w : World} {m : MkD} {v1 v2 : Value} (h1 : RdStr w v1 m.left) (h2 : RdStr w v2 m.right) (hl : m.left.length <= 1048576) (hr : m.right.length <= 1048576) :
  Calls Tryz.prog 24 #[m.v v1 v2] w fun e w' => ∃ p x, e = .returned (.tuple #[p, x, .bool true]) /\ BegP w w' m p x /\ w.Fr w' [] := by
 obtain ⟨kind, lo, hi, op, nt, l, r, hm⟩ : ∃ kind lo hi op nt l r, m = ⟨kind, ⟨lo, hi, op⟩, nt, l, r⟩ := ⟨_, _, _, _, _, _, _, rfl⟩
 have h1 : RdStr w v1 l := by rw [hm] at h1; exact h1
 have h2 : RdStr w v2 r := by rw [hm] at h2; exact h2
 have hl : l.length <= 1048576 := by rw [hm] at hl; exact hl
 have hr : r.length <= 1048576 := by rw [hm] at hr; exact hr
 have hv : m.v v1 v2 = .agg #[.int .i64 kind, .int .i64 lo, .int .i64 hi, .bool op, .bool nt, v1, v2] := by rw [hm]
 rw [hv]
 clear hv
 have HM := Hz hm
 clear hm
 obtain ⟨a1, a2, rfl, _, _⟩ := h1.rd.shape
 obtain ⟨b1, b2, rfl, _, _⟩ := h2.rd.shape
 have hl1 := one_strings l
 have hr1 := one_strings r
 generalize hn1 : l.length = n1 at *
 generalize hn2 : r.length = n2 at *
 have q1 := heap_alloc_at w (.cells #[.int .i64 kind, .int .i64 lo, .int .i64 hi, .bool op, .bool nt, .slice a1 n1 a2, .slice b1 n2 b2] 47) _ rfl
 have f1 := (World.Fr.refl w []).alloc (.cells #[.int .i64 kind, .int .i64 lo, .int .i64 hi, .bool op, .bool nt, .slice a1 n1 a2, .slice b1 n2 b2] 47)
 have H1 := Hz h1; have H2 := Hz h2; have HK := Hz hK; have HRC := Hz hRC; have Hl := Hz hl; have Hr := Hz hr; have Q1 := Hz q1; have F := Hz f1; have HN1 := Hz hn1; have HN2 := Hz hn2; have HL1 := Hz hl1; have HR1 := Hz hr1
 clear h1 h2 hK hRC hl hr q1 f1 hn1 hn2 hl1 hr1
 go_enter Tryz.func24, Tryz.ntmps24
 go_upto_region 1 with (fail)
 generalize hW : World.alloc w _ = w1 at *
 clear hW
 generalize hp1 : w.heap.size = p1 at *
 have HP1 := Hz hp1
 clear hp1
 obtain ⟨c0, c1, c2, c3, c4, c5, c6, cf0⟩ := sev Q1.out
 have hz := lt_of_heap Q1.out
 obtain ⟨i0, hi0, hz0, hz1, hz2⟩ := info_parts infoS
 go_wp2_with (at_builtin; refine wpList_append_src _ rfl (.const (.slice none 0 0)) (.tmp 14) 24 rfl 9 i0 (.string .empty) 1 16 Tryz.underlying24 hi0 hz0 hz1 hz2 rfl (.slice none 0 0) 0 [] rfl (World.Sl.nil _ _ _) (.slice a1 n1 a2) n1 (l.map Value.string) rfl (by have := (H1.out.fr F.out (by simp)).rd; rw [HN1.out] at this; exact this) HL1.out ⟨by have := Hl.out; omega, by have := Hl.out; omega⟩ ?_)
 intro v' w2 hs1 hf1 hb1
 obtain ⟨xa, xc, rfl, _, _⟩ := hs1.shape
 try simp only [Nat.zero_add, List.nil_append] at hs1
 try simp only [Nat.zero_add]
 have hf1' : w1.Fr w2 [] := by simpa [Value.blk] using hf1
 have hb1' : ∀ k, k ∈ (Value.slice xa n1 xc).blk -> w1.heap.size <= k /\ k < w2.heap.size := fun k hk => ⟨by
  rcases hb1 k (by simpa [Value.blk] using hk) with h | h
  ·simp [Value.blk] at h
  ·omega, hs1.lt k hk⟩
 have Q1 := Hz (hf1'.heap Q1.out (by simp)); have HS1 := Hz hs1; have HB1 := Hz hb1'; have Fa := Hz hf1'
 have FW1 := Hz F.out.size
 have F := Hz (F.out.trans hf1' (by simp))
 clear hs1 hf1 hb1 hf1' hb1' c0 c1 c2 c3 c4 c5 c6 cf0 hz
 obtain ⟨c0, c1, c2, c3, c4, c5, c6, cf0⟩ := sev Q1.out
 have hz := lt_of_heap Q1.out
 go_upto_region 2 with (fail)
 go_wp2_with (at_builtin; refine wpList_append_src _ rfl (.const (.slice none 0 0)) (.tmp 17) 24 rfl 9 i0 (.string .empty) 1 16 Tryz.underlying24 hi0 hz0 hz1 hz2 rfl (.slice none 0 0) 0 [] rfl (World.Sl.nil _ _ _) (.slice b1 n2 b2) n2 (r.map Value.string) rfl (by have := (H2.out.fr F.out (by simp)).rd; rw [HN2.out] at this; exact this) HR1.out ⟨by have := Hr.out; omega, by have := Hr.out; omega⟩ ?_)
 intro v' w3 hs1 hf1 hb1
 obtain ⟨ya, yc, rfl, _, _⟩ := hs1.shape
 try simp only [Nat.zero_add, List.nil_append] at hs1
 try simp only [Nat.zero_add]
 have hf1' : w2.Fr w3 [] := by simpa [Value.blk] using hf1
 have hb1' : ∀ k, k ∈ (Value.slice ya n2 yc).blk -> w2.heap.size <= k /\ k < w3.heap.size := fun k hk => ⟨by
  rcases hb1 k (by simpa [Value.blk] using hk) with h | h
  ·simp [Value.blk] at h
  ·omega, hs1.lt k hk⟩
 have Q1 := Hz (hf1'.heap Q1.out (by simp)); have HS2 := Hz hs1; have HS1 := Hz (HS1.out.fr hf1' (by simp)); have HB2 := Hz hb1'; have FW2 := Hz F.out.size
 have HB1 := Hz (show ∀ k, k ∈ (Value.slice xa n1 xc).blk -> w1.heap.size <= k /\ k < w3.heap.size from fun k hk => ⟨(HB1.out k hk).1, Nat.lt_of_lt_of_le (HB1.out k hk).2 hf1'.size⟩)
 have F := Hz (F.out.trans hf1' (by simp))
 clear hs1 hf1 hb1 hf1' hb1' c0 c1 c2 c3 c4 c5 c6 cf0 hz i0 hi0 hz0 hz1 hz2
 obtain ⟨c0, c1, c2, c3, c4, c5, c6, cf0⟩ := sev Q1.out
 have hz := lt_of_heap Q1.out
 have HD1 := Hz (show RdStr w3 (.slice xa n1 xc) l from ⟨by have := HS1.out.rd; rw [<- HN1.out] at this ⊢; exact this, H1.out.wf⟩)
 have HD2 := Hz (show RdStr w3 (.slice ya n2 yc) r from ⟨by have := HS2.out.rd; rw [<- HN2.out] at this ⊢; exact this, H2.out.wf⟩)
 have hz1' : w.heap.size <= w1.heap.size := by have := FW1.out; have := HP1.out; omega
 have Hz1 := Hz hz1'; have FA := Hz F.out; have HB2 := Hz (show ∀ k, k ∈ (Value.slice ya n2 yc).blk -> w.heap.size <= k /\ k < w3.heap.size from fun k hk => ⟨Nat.le_trans FW2.out (HB2.out k hk).1, (HB2.out k hk).2⟩); have HB1 := Hz (show ∀ k, k ∈ (Value.slice xa n1 xc).blk -> w.heap.size <= k /\ k < w3.heap.size from fun k hk => ⟨Nat.le_trans hz1' (HB1.out k hk).1, (HB1.out k hk).2⟩)
 clear hz1' FW1 FW2 Hz1 Fa
 by_cases h14 : kind = 13
 ·have hk1 : (kind == 13) = true := by simp [h14]
  have HK14 := Hz h14
  clear h14
  obtain ⟨e1, e2, e3, e4, e5, e6, e7⟩ : m.l = [] /\ m.n = false /\ m.p = 1 /\ m.x = 65 /\ m.r = 13 /\ m.i = ⟨lo, hi, op⟩ /\ m.right = r := by rw [HM.out]; simp [MkD.l, MkD.n, MkD.p, MkD.x, MkD.r, HK14.out]
  have HE1 := Hz e1; have HE2 := Hz e2; have HE3 := Hz e3; have HE4 := Hz e4; have HE5 := Hz e5; have HE6 := Hz e6; have HE7 := Hz e7
  clear e1 e2 e3 e4 e5 e6 e7
  obtain ⟨E, hE⟩ : ∃ E, beginE ⟨lo, hi, op⟩ [] r = E := ⟨_, rfl⟩
  have kp := once20 HK.out (Q := fun b => w3.heap.size <= b) (fun _ h => h) (i := ⟨lo, hi, op⟩) HD2.out (by have := Hr.out; have := HN2.out; omega)
  rw [hE] at kp
  have kp := Hz kp; have HE := Hz hE
  clear hE
  go_wp2_with fail
  (with_reducible refine kp.out.mono ?_)
  rintro e w4 ⟨⟨pv, rfl, hp⟩, fx⟩
  have HPp := Hz hp; have FB := Hz fx
  have Q1 := Hz (fx.heap Q1.out (by simp)); have F := Hz (F.out.trans fx (by simp)); have HS1 := Hz (HS1.out.fr fx (by simp)); have HS2 := Hz (HS2.out.fr fx (by simp))
  clear kp hp fx c0 c1 c2 c3 c4 c5 c6 cf0 hz
  obtain ⟨c0, c1, c2, c3, c4, c5, c6, cf0⟩ := sev Q1.out
  have hz := lt_of_heap Q1.out
  have kx := ronce69 HRC.out (Q := fun b => w3.heap.size <= b) (w := w4) (fun b h => Nat.le_trans FB.out.size h) (i := ⟨lo, hi, op⟩) (H2.out.fr F.out (by simp)) (by have := Hr.out; have := HN2.out; omega)
  rw [HE.out] at kx
  have kx := Hz kx
  go_wp2_with fail
  (with_reducible refine kx.out.mono ?_)
  rintro e w5 ⟨⟨xv, rfl, hp⟩, fx⟩
  have HPx := Hz hp; have FC := Hz fx
  have F := Hz (F.out.trans fx (by simp)); have HS1 := Hz (HS1.out.fr fx (by simp)); have HS2 := Hz (HS2.out.fr fx (by simp))
  clear kx hp fx c0 c1 c2 c3 c4 c5 c6 cf0 hz Q1
  have hbeg : ∀ W L, w5.Fr W L -> (∀ k, k ∈ L -> w.heap.size <= k /\ k < w3.heap.size) -> BegP w W m pv xv /\ w.Fr W [] := fun W L hW hL => by
   refine ⟨BegP.of (wA := w3) (wB := w4) (wC := w5) (L := L) FA.out FB.out FC.out (fun k hk => (hL k hk).2) ?_ ?_ hW, F.out.trans hW (fun k hk => .inr (hL k hk).1)⟩
   ·rw [HE1.out, HE2.out, HE3.out, HE4.out, HE6.out, HE7.out, HE.out]
    exact HPp.out
   ·rw [HE1.out, HE2.out, HE5.out, HE6.out, HE7.out]
    exact HPx.out
  have hE0 : E = 0 ∨ (E ≠ 0 /\ pv = .pointer none) := HPp.out.elim (fun h => .inr h) (fun h => .inl h.1)
  have hE1 : E = 0 -> ∃ k, pv = .pointer (some ⟨k, 0, none⟩) := fun h0 => HPp.out.elim (fun h => absurd h0 h.1) (fun ⟨_, k, _, _, h, _⟩ => ⟨k, h⟩)
  have HBeg := Hz hbeg; have HE0 := Hz hE0; have HEP := Hz hE1
  clear hbeg hE0 hE1 HPp HPx FB FC HE HE1 HE2 HE3 HE4 HE5 HE6 HE7 FA F
  have HR2 : Hid (Room w5 9 1 (.slice ya n2 yc) n2) := Hz (Room.of_sl HS2.out)
  have HF0 := Hz (World.Fr.refl w5 (Value.slice ya n2 yc).blk)
  have HR1 : Hid (Room w5 9 1 (.slice xa n1 xc) n1) := Hz (Room.of_sl HS1.out)
  clear HS1 HS2
  go_wp2
  go_loopw [79] (fun i wr => ∃ q : Nat, i = .int .i64 q /\ q <= n2 /\ Hid (Room wr 9 1 (.slice ya n2 yc) n2) /\ Hid (Room wr 9 1 (.slice xa n1 xc) n1) /\ Hid (w5.Fr wr (Value.slice ya n2 yc).blk)) (fun i _ => (n2 - intOf i).toNat)
  case atStart => exact ⟨0, rfl, Nat.zero_le _, HR2, HR1, HF0⟩
  case round =>
   obtain ⟨q, rfl, hq, HT, HU, HF⟩ := hrel
   clear HF0 HR2 HR1
   by_cases hqn : q < n2
   ·obtain ⟨g4, off4, cap4, he4, hg4, ⟨cur4, hcur⟩, hcs⟩ := HT.out.at hqn
    cases he4
    obtain ⟨s0, hs0⟩ := hcs 0 (by decide)
    rw [Nat.mul_one, Nat.add_zero] at hs0
    have hqI : (q : Int) < (n2 : Int) := by omega
    have hw2 : IntKind.i64.wrap ((q : Int) + 1) = (q : Int) + 1 := IntWalk.i64_in _ (by have := Hr.out; have := HN2.out; omega)
    have hnn : (0 : Int) <= (q : Int) := by omega
    have hfz := fun i => frozen_of_row wr g4 i _ _ hcur
    have HT1 := Hz (HT.out.set g4 (off4 + q) (.string ⟨#[122, 122]⟩)); have HU1 := Hz (HU.out.set g4 (off4 + q) (.string ⟨#[122, 122]⟩))
    have HF1 := Hz (HF.out.setCell (a := ⟨g4, off4 + q, none⟩) (.inl (by simp [Value.blk])) (.string ⟨#[122, 122]⟩))
    clear hcur hcs HT HU HF
    go_wp2
    go_roundw
    case rel => exact ⟨q + 1, by go_num, by omega, HT1, HU1, HF1⟩
    case measure => simp [intOf]; omega
   ·have hd : decide ((q : Int) < (n2 : Int)) = false := decide_eq_false (by omega)
    have hd2 : decide (q < n2) = false := decide_eq_false hqn
    have HF2 := Hz (World.Fr.refl wr (Value.slice xa n1 xc).blk)
    go_wp2
    go_loopw [88] (fun i wr' => ∃ q : Nat, i = .int .i64 q /\ q <= n1 /\ Hid (Room wr' 9 1 (.slice xa n1 xc) n1) /\ Hid (wr.Fr wr' (Value.slice xa n1 xc).blk)) (fun i _ => (n1 - intOf i).toNat)
    case atStart => exact ⟨0, rfl, Nat.zero_le _, HU, HF2⟩
    case round =>
     obtain ⟨q', rfl, hq', HT2, HF3⟩ := hrel
     clear HF2 HU HT hd hd2
     by_cases hqn' : q' < n1
     ·obtain ⟨g4, off4, cap4, he4, hg4, ⟨cur4, hcur⟩, hcs⟩ := HT2.out.at hqn'
      cases he4
      obtain ⟨s0, hs0⟩ := hcs 0 (by decide)
      rw [Nat.mul_one, Nat.add_zero] at hs0
      have hqI : (q' : Int) < (n1 : Int) := by omega
      have hw2 : IntKind.i64.wrap ((q' : Int) + 1) = (q' : Int) + 1 := IntWalk.i64_in _ (by have := Hl.out; have := HN1.out; omega)
      have hnn : (0 : Int) <= (q' : Int) := by omega
      have hfz := fun i => frozen_of_row wr g4 i _ _ hcur
      have HT1 := Hz (HT2.out.set g4 (off4 + q') (.string ⟨#[122, 122]⟩))
      have HF1 := Hz (HF3.out.setCell (a := ⟨g4, off4 + q', none⟩) (.inl (by simp [Value.blk])) (.string ⟨#[122, 122]⟩))
      clear hcur hcs HT2 HF3
      go_wp2
      go_roundw
      case rel => exact ⟨q' + 1, by go_num, by omega, HT1, HF1⟩
      case measure => simp [intOf]; omega
     ·have hd : decide ((q' : Int) < (n1 : Int)) = false := decide_eq_false (by omega)
      have hd2 : decide (q' < n1) = false := decide_eq_false hqn'
      have hfin := HBeg.out wr ((Value.slice ya n2 yc).blk ++ (Value.slice xa n1 xc).blk) ((HF.out.mono (fun k hk => List.mem_append.2 (.inl hk))).trans HF3.out (fun k hk => .inl (List.mem_append.2 (.inr hk)))) (fun k hk => (List.mem_append.1 hk).elim (HB2.out k) (HB1.out k))
      have HFin := Hz hfin
      clear hfin HBeg HF HF3 HT2 hqn' hqn hq hq'
      have hEE : (E == E) = true := by simp
      rcases HE0.out with h0 | ⟨h0, rfl⟩
      ·obtain ⟨kk, rfl⟩ := HEP.out h0
       subst h0
       clear HE0 HEP
       go_wp2
       refine bodyPost_ret (v := .tuple #[_, xv, .bool true]) (by simp [results, Tryz.results24, go_sem]) rfl ⟨_, _, rfl, HFin.out⟩
      ·have hb : (E == 0) = false := by simpa using h0
       have HH0 := Hz h0
       clear HE0 HEP h0
       go_wp2
       refine bodyPost_ret (v := .tuple #[.pointer none, xv, .bool true]) (by simp [results, Tryz.results24, go_sem]) rfl ⟨_, _, rfl, HFin.out⟩
 ·have hk1 : (kind == 13) = false := by simpa using h14
  by_cases h16 : kind = 15
  ·have hk2 : (kind == 15) = true := by simp [h16]
   have HK16 := Hz h16
   clear h14 h16
   obtain ⟨e1, e2, e3, e4, e5, e6, e7⟩ : m.l = l /\ m.n = nt /\ m.p = 2 /\ m.x = 65 /\ m.r = 15 /\ m.i = ⟨lo, hi, op⟩ /\ m.right = r := by rw [HM.out]; simp [MkD.l, MkD.n, MkD.p, MkD.x, MkD.r, HK16.out]
   have HE1 := Hz e1; have HE2 := Hz e2; have HE3 := Hz e3; have HE4 := Hz e4; have HE5 := Hz e5; have HE6 := Hz e6; have HE7 := Hz e7
   clear e1 e2 e3 e4 e5 e6 e7
   obtain ⟨E, hE⟩ : ∃ E, beginE ⟨lo, hi, op⟩ l r = E := ⟨_, rfl⟩
   have kp := since21 HK.out (Q := fun b => w3.heap.size <= b) (fun _ h => h) (i := ⟨lo, hi, op⟩) (nt := nt) HD1.out HD2.out (by have := Hl.out; have := HN1.out; omega) (by have := Hr.out; have := HN2.out; omega)
   rw [hE] at kp
   have kp := Hz kp; have HE := Hz hE
   clear hE
   go_wp2_with fail
   (with_reducible refine kp.out.mono ?_)
   rintro e w4 ⟨⟨pv, rfl, hp⟩, fx⟩
   have HPp := Hz hp; have FB := Hz fx
   have Q1 := Hz (fx.heap Q1.out (by simp)); have F := Hz (F.out.trans fx (by simp)); have HS1 := Hz (HS1.out.fr fx (by simp)); have HS2 := Hz (HS2.out.fr fx (by simp))
   clear kp hp fx c0 c1 c2 c3 c4 c5 c6 cf0 hz
   obtain ⟨c0, c1, c2, c3, c4, c5, c6, cf0⟩ := sev Q1.out
   have hz := lt_of_heap Q1.out
   have kx := rsince70 HRC.out (Q := fun b => w3.heap.size <= b) (w := w4) (fun b h => Nat.le_trans FB.out.size h) (i := ⟨lo, hi, op⟩) (nt := nt) (H1.out.fr F.out (by simp)) (H2.out.fr F.out (by simp)) (by have := Hl.out; have := HN1.out; omega) (by have := Hr.out; have := HN2.out; omega)
   rw [HE.out] at kx
   have kx := Hz kx
   go_wp2_with fail
   (with_reducible refine kx.out.mono ?_)
   rintro e w5 ⟨⟨xv, rfl, hp⟩, fx⟩
   have HPx := Hz hp; have FC := Hz fx
   have F := Hz (F.out.trans fx (by simp)); have HS1 := Hz (HS1.out.fr fx (by simp)); have HS2 := Hz (HS2.out.fr fx (by simp))
   clear kx hp fx c0 c1 c2 c3 c4 c5 c6 cf0 hz Q1
   have hbeg : ∀ W L, w5.Fr W L -> (∀ k, k ∈ L -> w.heap.size <= k /\ k < w3.heap.size) -> BegP w W m pv xv /\ w.Fr W [] := fun W L hW hL => by
    refine ⟨BegP.of (wA := w3) (wB := w4) (wC := w5) (L := L) FA.out FB.out FC.out (fun k hk => (hL k hk).2) ?_ ?_ hW, F.out.trans hW (fun k hk => .inr (hL k hk).1)⟩
    ·rw [HE1.out, HE2.out, HE3.out, HE4.out, HE6.out, HE7.out, HE.out]
     exact HPp.out
    ·rw [HE1.out, HE2.out, HE5.out, HE6.out, HE7.out]
     exact HPx.out
   have hE0 : E = 0 ∨ (E ≠ 0 /\ pv = .pointer none) := HPp.out.elim (fun h => .inr h) (fun h => .inl h.1)
   have hE1 : E = 0 -> ∃ k, pv = .pointer (some ⟨k, 0, none⟩) := fun h0 => HPp.out.elim (fun h => absurd h0 h.1) (fun ⟨_, k, _, _, h, _⟩ => ⟨k, h⟩)
   have HBeg := Hz hbeg; have HE0 := Hz hE0; have HEP := Hz hE1
   clear hbeg hE0 hE1 HPp HPx FB FC HE HE1 HE2 HE3 HE4 HE5 HE6 HE7 FA F
   have HR2 : Hid (Room w5 9 1 (.slice ya n2 yc) n2) := Hz (Room.of_sl HS2.out)
   have HF0 := Hz (World.Fr.refl w5 (Value.slice ya n2 yc).blk)
   have HR1 : Hid (Room w5 9 1 (.slice xa n1 xc) n1) := Hz (Room.of_sl HS1.out)
   clear HS1 HS2
   go_wp2
   go_loopw [79] (fun i wr => ∃ q : Nat, i = .int .i64 q /\ q <= n2 /\ Hid (Room wr 9 1 (.slice ya n2 yc) n2) /\ Hid (Room wr 9 1 (.slice xa n1 xc) n1) /\ Hid (w5.Fr wr (Value.slice ya n2 yc).blk)) (fun i _ => (n2 - intOf i).toNat)
   case atStart => exact ⟨0, rfl, Nat.zero_le _, HR2, HR1, HF0⟩
   case round =>
    obtain ⟨q, rfl, hq, HT, HU, HF⟩ := hrel
    clear HF0 HR2 HR1
    by_cases hqn : q < n2
    ·obtain ⟨g4, off4, cap4, he4, hg4, ⟨cur4, hcur⟩, hcs⟩ := HT.out.at hqn
     cases he4
     obtain ⟨s0, hs0⟩ := hcs 0 (by decide)
     rw [Nat.mul_one, Nat.add_zero] at hs0
     have hqI : (q : Int) < (n2 : Int) := by omega
     have hw2 : IntKind.i64.wrap ((q : Int) + 1) = (q : Int) + 1 := IntWalk.i64_in _ (by have := Hr.out; have := HN2.out; omega)
     have hnn : (0 : Int) <= (q : Int) := by omega
     have hfz := fun i => frozen_of_row wr g4 i _ _ hcur
     have HT1 := Hz (HT.out.set g4 (off4 + q) (.string ⟨#[122, 122]⟩)); have HU1 := Hz (HU.out.set g4 (off4 + q) (.string ⟨#[122, 122]⟩))
     have HF1 := Hz (HF.out.setCell (a := ⟨g4, off4 + q, none⟩) (.inl (by simp [Value.blk])) (.string ⟨#[122, 122]⟩))
     clear hcur hcs HT HU HF
     go_wp2
     go_roundw
     case rel => exact ⟨q + 1, by go_num, by omega, HT1, HU1, HF1⟩
     case measure => simp [intOf]; omega
    ·have hd : decide ((q : Int) < (n2 : Int)) = false := decide_eq_false (by omega)
     have hd2 : decide (q < n2) = false := decide_eq_false hqn
     have HF2 := Hz (World.Fr.refl wr (Value.slice xa n1 xc).blk)
     go_wp2
     go_loopw [88] (fun i wr' => ∃ q : Nat, i = .int .i64 q /\ q <= n1 /\ Hid (Room wr' 9 1 (.slice xa n1 xc) n1) /\ Hid (wr.Fr wr' (Value.slice xa n1 xc).blk)) (fun i _ => (n1 - intOf i).toNat)
     case atStart => exact ⟨0, rfl, Nat.zero_le _, HU, HF2⟩
     case round =>
      obtain ⟨q', rfl, hq', HT2, HF3⟩ := hrel
      clear HF2 HU HT hd hd2
      by_cases hqn' : q' < n1
      ·obtain ⟨g4, off4, cap4, he4, hg4, ⟨cur4, hcur⟩, hcs⟩ := HT2.out.at hqn'
       cases he4
       obtain ⟨s0, hs0⟩ := hcs 0 (by decide)
       rw [Nat.mul_one, Nat.add_zero] at hs0
       have hqI : (q' : Int) < (n1 : Int) := by omega
       have hw2 : IntKind.i64.wrap ((q' : Int) + 1) = (q' : Int) + 1 := IntWalk.i64_in _ (by have := Hl.out; have := HN1.out; omega)
       have hnn : (0 : Int) <= (q' : Int) := by omega
       have hfz := fun i => frozen_of_row wr g4 i _ _ hcur
       have HT1 := Hz (HT2.out.set g4 (off4 + q') (.string ⟨#[122, 122]⟩))
       have HF1 := Hz (HF3.out.setCell (a := ⟨g4, off4 + q', none⟩) (.inl (by simp [Value.blk])) (.string ⟨#[122, 122]⟩))
       clear hcur hcs HT2 HF3
       go_wp2
       go_roundw
       case rel => exact ⟨q' + 1, by go_num, by omega, HT1, HF1⟩
       case measure => simp [intOf]; omega
      ·have hd : decide ((q' : Int) < (n1 : Int)) = false := decide_eq_false (by omega)
       have hd2 : decide (q' < n1) = false := decide_eq_false hqn'
       have hfin := HBeg.out wr ((Value.slice ya n2 yc).blk ++ (Value.slice xa n1 xc).blk) ((HF.out.mono (fun k hk => List.mem_append.2 (.inl hk))).trans HF3.out (fun k hk => .inl (List.mem_append.2 (.inr hk)))) (fun k hk => (List.mem_append.1 hk).elim (HB2.out k) (HB1.out k))
       have HFin := Hz hfin
       clear hfin HBeg HF HF3 HT2 hqn' hqn hq hq'
       have hEE : (E == E) = true := by simp
       rcases HE0.out with h0 | ⟨h0, rfl⟩
       ·obtain ⟨kk, rfl⟩ := HEP.out h0
        subst h0
        clear HE0 HEP
        go_wp2
        refine bodyPost_ret (v := .tuple #[_, xv, .bool true]) (by simp [results, Tryz.results24, go_sem]) rfl ⟨_, _, rfl, HFin.out⟩
       ·have hb : (E == 0) = false := by simpa using h0
        have HH0 := Hz h0
        clear HE0 HEP h0
        go_wp2
        refine bodyPost_ret (v := .tuple #[.pointer none, xv, .bool true]) (by simp [results, Tryz.results24, go_sem]) rfl ⟨_, _, rfl, HFin.out⟩
  ·have hk2 : (kind == 15) = false := by simpa using h16
   have HK14 := Hz h14; have HK16 := Hz h16
   clear h14 h16
   obtain ⟨e1, e2, e3, e4, e5, e6, e7⟩ : m.l = [] /\ m.n = false /\ m.p = 1 /\ m.x = 59 /\ m.r = 11 /\ m.i = ⟨lo, hi, op⟩ /\ m.right = r := by rw [HM.out]; simp [MkD.l, MkD.n, MkD.p, MkD.x, MkD.r, HK14.out, HK16.out]
   have HE1 := Hz e1; have HE2 := Hz e2; have HE3 := Hz e3; have HE4 := Hz e4; have HE5 := Hz e5; have HE6 := Hz e6; have HE7 := Hz e7
   clear e1 e2 e3 e4 e5 e6 e7
   obtain ⟨E, hE⟩ : ∃ E, beginE ⟨lo, hi, op⟩ [] r = E := ⟨_, rfl⟩
   have kp := prev16 HK.out (Q := fun b => w3.heap.size <= b) (fun _ h => h) (i := ⟨lo, hi, op⟩) HD2.out (by have := Hr.out; have := HN2.out; omega)
   rw [hE] at kp
   have kp := Hz kp; have HE := Hz hE
   clear hE
   go_wp2_with fail
   (with_reducible refine kp.out.mono ?_)
   rintro e w4 ⟨⟨pv, rfl, hp⟩, fx⟩
   have HPp := Hz hp; have FB := Hz fx
   have Q1 := Hz (fx.heap Q1.out (by simp)); have F := Hz (F.out.trans fx (by simp)); have HS1 := Hz (HS1.out.fr fx (by simp)); have HS2 := Hz (HS2.out.fr fx (by simp))
   clear kp hp fx c0 c1 c2 c3 c4 c5 c6 cf0 hz
   obtain ⟨c0, c1, c2, c3, c4, c5, c6, cf0⟩ := sev Q1.out
   have hz := lt_of_heap Q1.out
   have kx := rprev71 HRC.out (Q := fun b => w3.heap.size <= b) (w := w4) (fun b h => Nat.le_trans FB.out.size h) (i := ⟨lo, hi, op⟩) (H2.out.fr F.out (by simp)) (by have := Hr.out; have := HN2.out; omega)
   rw [HE.out] at kx
   have kx := Hz kx
   go_wp2_with fail
   (with_reducible refine kx.out.mono ?_)
   rintro e w5 ⟨⟨xv, rfl, hp⟩, fx⟩
   have HPx := Hz hp; have FC := Hz fx
   have F := Hz (F.out.trans fx (by simp)); have HS1 := Hz (HS1.out.fr fx (by simp)); have HS2 := Hz (HS2.out.fr fx (by simp))
   clear kx hp fx c0 c1 c2 c3 c4 c5 c6 cf0 hz Q1
   have hbeg : ∀ W L, w5.Fr W L -> (∀ k, k ∈ L -> w.heap.size <= k /\ k < w3.heap.size) -> BegP w W m pv xv /\ w.Fr W [] := fun W L hW hL => by
    refine ⟨BegP.of (wA := w3) (wB := w4) (wC := w5) (L := L) FA.out FB.out FC.out (fun k hk => (hL k hk).2) ?_ ?_ hW, F.out.trans hW (fun k hk => .inr (hL k hk).1)⟩
    ·rw [HE1.out, HE2.out, HE3.out, HE4.out, HE6.out, HE7.out, HE.out]
     exact HPp.out
    ·rw [HE1.out, HE2.out, HE5.out, HE6.out, HE7.out]
     exact HPx.out
   have hE0 : E = 0 ∨ (E ≠ 0 /\ pv = .pointer none) := HPp.out.elim (fun h => .inr h) (fun h => .inl h.1)
   have hE1 : E = 0 -> ∃ k, pv = .pointer (some ⟨k, 0, none⟩) := fun h0 => HPp.out.elim (fun h => absurd h0 h.1) (fun ⟨_, k, _, _, h, _⟩ => ⟨k, h⟩)
   have HBeg := Hz hbeg; have HE0 := Hz hE0; have HEP := Hz hE1
   clear hbeg hE0 hE1 HPp HPx FB FC HE HE1 HE2 HE3 HE4 HE5 HE6 HE7 FA F
   have HR2 : Hid (Room w5 9 1 (.slice ya n2 yc) n2) := Hz (Room.of_sl HS2.out)
   have HF0 := Hz (World.Fr.refl w5 (Value.slice ya n2 yc).blk)
   have HR1 : Hid (Room w5 9 1 (.slice xa n1 xc) n1) := Hz (Room.of_sl HS1.out)
   clear HS1 HS2
   go_wp2
   go_loopw [79] (fun i wr => ∃ q : Nat, i = .int .i64 q /\ q <= n2 /\ Hid (Room wr 9 1 (.slice ya n2 yc) n2) /\ Hid (Room wr 9 1 (.slice xa n1 xc) n1) /\ Hid (w5.Fr wr (Value.slice ya n2 yc).blk)) (fun i _ => (n2 - intOf i).toNat)
   case atStart => exact ⟨0, rfl, Nat.zero_le _, HR2, HR1, HF0⟩
   case round =>
    obtain ⟨q, rfl, hq, HT, HU, HF⟩ := hrel
    clear HF0 HR2 HR1
    by_cases hqn : q < n2
    ·obtain ⟨g4, off4, cap4, he4, hg4, ⟨cur4, hcur⟩, hcs⟩ := HT.out.at hqn
     cases he4
     obtain ⟨s0, hs0⟩ := hcs 0 (by decide)
     rw [Nat.mul_one, Nat.add_zero] at hs0
     have hqI : (q : Int) < (n2 : Int) := by omega
     have hw2 : IntKind.i64.wrap ((q : Int) + 1) = (q : Int) + 1 := IntWalk.i64_in _ (by have := Hr.out; have := HN2.out; omega)
     have hnn : (0 : Int) <= (q : Int) := by omega
     have hfz := fun i => frozen_of_row wr g4 i _ _ hcur
     have HT1 := Hz (HT.out.set g4 (off4 + q) (.string ⟨#[122, 122]⟩)); have HU1 := Hz (HU.out.set g4 (off4 + q) (.string ⟨#[122, 122]⟩))
     have HF1 := Hz (HF.out.setCell (a := ⟨g4, off4 + q, none⟩) (.inl (by simp [Value.blk])) (.string ⟨#[122, 122]⟩))
     clear hcur hcs HT HU HF
     go_wp2
     go_roundw
     case rel => exact ⟨q + 1, by go_num, by omega, HT1, HU1, HF1⟩
     case measure => simp [intOf]; omega
    ·have hd : decide ((q : Int) < (n2 : Int)) = false := decide_eq_false (by omega)
     have hd2 : decide (q < n2) = false := decide_eq_false hqn
     have HF2 := Hz (World.Fr.refl wr (Value.slice xa n1 xc).blk)
     go_wp2
     go_loopw [88] (fun i wr' => ∃ q : Nat, i = .int .i64 q /\ q <= n1 /\ Hid (Room wr' 9 1 (.slice xa n1 xc) n1) /\ Hid (wr.Fr wr' (Value.slice xa n1 xc).blk)) (fun i _ => (n1 - intOf i).toNat)
     case atStart => exact ⟨0, rfl, Nat.zero_le _, HU, HF2⟩
     case round =>
      obtain ⟨q', rfl, hq', HT2, HF3⟩ := hrel
      clear HF2 HU HT hd hd2
      by_cases hqn' : q' < n1
      ·obtain ⟨g4, off4, cap4, he4, hg4, ⟨cur4, hcur⟩, hcs⟩ := HT2.out.at hqn'
       cases he4
       obtain ⟨s0, hs0⟩ := hcs 0 (by decide)
       rw [Nat.mul_one, Nat.add_zero] at hs0
       have hqI : (q' : Int) < (n1 : Int) := by omega
       have hw2 : IntKind.i64.wrap ((q' : Int) + 1) = (q' : Int) + 1 := IntWalk.i64_in _ (by have := Hl.out; have := HN1.out; omega)
       have hnn : (0 : Int) <= (q' : Int) := by omega
       have hfz := fun i => frozen_of_row wr g4 i _ _ hcur
       have HT1 := Hz (HT2.out.set g4 (off4 + q') (.string ⟨#[122, 122]⟩))
       have HF1 := Hz (HF3.out.setCell (a := ⟨g4, off4 + q', none⟩) (.inl (by simp [Value.blk])) (.string ⟨#[122, 122]⟩))
       clear hcur hcs HT2 HF3
       go_wp2
       go_roundw
       case rel => exact ⟨q' + 1, by go_num, by omega, HT1, HF1⟩
       case measure => simp [intOf]; omega
      ·have hd : decide ((q' : Int) < (n1 : Int)) = false := decide_eq_false (by omega)
       have hd2 : decide (q' < n1) = false := decide_eq_false hqn'
       have hfin := HBeg.out wr ((Value.slice ya n2 yc).blk ++ (Value.slice xa n1 xc).blk) ((HF.out.mono (fun k hk => List.mem_append.2 (.inl hk))).trans HF3.out (fun k hk => .inl (List.mem_append.2 (.inr hk)))) (fun k hk => (List.mem_append.1 hk).elim (HB2.out k) (HB1.out k))
       have HFin := Hz hfin
       clear hfin HBeg HF HF3 HT2 hqn' hqn hq hq'
       have hEE : (E == E) = true := by simp
       rcases HE0.out with h0 | ⟨h0, rfl⟩
       ·obtain ⟨kk, rfl⟩ := HEP.out h0
        subst h0
        clear HE0 HEP
        go_wp2
        refine bodyPost_ret (v := .tuple #[_, xv, .bool true]) (by simp [results, Tryz.results24, go_sem]) rfl ⟨_, _, rfl, HFin.out⟩
       ·have hb : (E == 0) = false := by simpa using h0
        have HH0 := Hz h0
        clear HE0 HEP h0
        go_wp2
        refine bodyPost_ret (v := .tuple #[.pointer none, xv, .bool true]) (by simp [results, Tryz.results24, go_sem]) rfl ⟨_, _, rfl, HFin.out⟩
end Go.Proofs.YtbejmdlncnkaaaaGreat
