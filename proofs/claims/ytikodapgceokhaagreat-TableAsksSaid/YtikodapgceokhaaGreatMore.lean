/-
  The walks of table.made's second closure, slices.Clone of a row, slices.Index and Contains of numbers.
-/
import Derived.Test.YtikodapgceokhaaGreatBoth
namespace Go.Proofs.YtikodapgceokhaaGreat
open Go.RowKit

theorem same103 {w : World} {v1 v2 : Value} {r s : Row} (h1 : RdRow w v1 r) (h2 : RdRow w v2 s) (hl : r.length ≤ 8000000000000000000) :
    Calls Tryz.prog 103 #[v1, v2] w fun e w' => e = .returned (.bool (eqB r s)) ∧ w.Fr w' [] := by
  have hc := equal59 h1 h2 hl
  obtain ⟨a1, c1, rfl, _, _⟩ := h1.rd.shape
  obtain ⟨a2, c2, rfl, _, _⟩ := h2.rd.shape
  have Hc := Lib.hid hc; clear hc h1 h2 hl
  go_enter Tryz.func103, Tryz.ntmps103
  go_wp2_with fail
  refine Hc.out.mono ?_
  rintro e w2 ⟨rfl, hf⟩
  have Hf := Lib.hid hf; clear hf
  go_wp2
  go_ret
  exact ⟨rfl, Hf.out⟩

theorem infoV : (Tryz.prog.info? 60).map (fun i => (i.zero, i.size, i.bytes)) = some (some (.agg #[.int .i64 0, .int .i64 0, .int .i64 0, .string .empty]), 4, 40) := by kernel_rfl
theorem one_row (r : Row) : (r.flatMap V.enc).all Value.oneCell' = true := by
  induction r with
  | nil => rfl
  | cons a t ih => simp only [List.flatMap_cons, List.all_append, ih]; rfl

/-- a row of the call's own -/
structure OwnRow (w w' : World) (v : Value) (r : Row) : Prop where
  sl : w'.Sl 60 4 v r.length (r.flatMap V.enc)
  new : ∀ k, k ∈ v.blk → w.heap.size ≤ k
  fr : w.Fr w' []

set_option maxRecDepth 100000 in
set_option maxHeartbeats 1000000 in
theorem clone72 {w : World} {v : Value} {r : Row} (h : RdRow w v r) (hl : r.length ≤ 3518437208780) :
    Calls Tryz.prog 72 #[v] w fun e w' => ∃ v', e = .returned v' ∧ OwnRow w w' v' r := by
  obtain ⟨a, c, rfl, _, _⟩ := h.rd.shape
  have H := Lib.hid h; have Hl := Lib.hid hl; clear h hl
  have q32 : ∀ (w : World) (a : Option Addr) (n c n' c' : Nat), (binOp .eql 32 (.slice a n c) (.slice none n' c')).run Tryz.prog w = .ok (.bool a.isNone) w := fun w a n c n' c' => Lib.run_eql_slice_nil w _ _ a n c n' c' Tryz.underlying32
  cases a with
  | none =>
    have hl0 : r = [] := by
      rcases H.out.rd.2 with ⟨h0, _⟩ | ⟨g, off, cap, he, _⟩
      · exact List.eq_nil_of_length_eq_zero h0
      · cases he
    subst hl0
    go_enter Tryz.func72, Tryz.ntmps72
    go_wp2
    go_ret
    exact ⟨_, rfl, ⟨World.Sl.nil _ _ _, by simp [Value.blk], World.Fr.refl w []⟩⟩
  | some a =>
    obtain ⟨i0, hi, hz0, hz1, hz2⟩ := info_parts infoV
    have hroom : r.length ≤ 3518437208780 := Hl.out
    go_enter Tryz.func72, Tryz.ntmps72
    go_wp2_with (at_builtin; refine wpList_append_src _ rfl (.tmp 5) (.tmp 6) 32 rfl 60 i0 (.agg #[.int .i64 0, .int .i64 0, .int .i64 0, .string .empty]) 4 40 Tryz.underlying32 hi hz0 hz1 hz2 rfl (.slice (some ⟨w.heap.size, 0, none⟩) 0 0) 0 [] rfl ?qs0 (.slice (some a) r.length c) r.length (r.flatMap V.enc) rfl ?qs1 (one_row r) ⟨?qr1, ?qr2⟩ ?_)
    case qs0 => exact World.Sl.lit w 60 #[] 0 4 (by simp [maxLen]) rfl
    case qs1 => exact (H.out.fr ((World.Fr.refl w []).alloc _) (by simp)).rd
    case qr1 => omega
    case qr2 => omega
    intro v' w1 hs hf hb
    obtain ⟨a1, c1, rfl, _, _⟩ := hs.shape
    try simp only [Nat.zero_add, List.nil_append] at hs
    have hown : OwnRow w w1 (.slice a1 r.length c1) r := by
      refine ⟨?_, fun k hk => ?_, ((World.Fr.refl w []).alloc _).trans hf (fun j hj => ?_)⟩
      · simpa using hs
      · rcases hb k hk with h | h
        · simp [Value.blk] at h; omega
        · omega
      · simp [Value.blk] at hj; exact .inr (by omega)
    have Hown := Lib.hid hown; clear hown hs hf hb
    go_wp2
    go_ret
    exact ⟨_, rfl, Hown.out⟩
end Go.Proofs.YtikodapgceokhaaGreat
