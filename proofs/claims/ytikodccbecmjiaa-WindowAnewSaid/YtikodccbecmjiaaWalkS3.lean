/-
  The walks of the window of strings, more: turn.
-/
import Derived.Test.YtikodccbecmjiaaWalkS2
namespace Go.Proofs.Ytikodccbecmjiaa
open Go.RowKit Go.Win

/-- what turn has made when k things are behind still -/
def turnAt {α : Type} (f : α → α → α) (s : WSt α) (k : Nat) : List (α × α) × Nat := (s.behind.drop k).reverse.foldl (turn1 f) (s.ahead, s.calls)
theorem turnAt_succ {α : Type} (f : α → α → α) (s : WSt α) (j : Nat) (h : j < s.behind.length) : turnAt f s j = turn1 f (turnAt f s (j + 1)) s.behind[j] := by
  unfold turnAt
  rw [List.drop_eq_getElem_cons h, List.reverse_cons, List.foldl_append]
  rfl
theorem turnAt_end {α : Type} (f : α → α → α) (s : WSt α) : turnAt f s s.behind.length = (s.ahead, s.calls) := by simp [turnAt]
theorem turnAt_zero {α : Type} (f : α → α → α) (s : WSt α) : s.turn f = { s with ahead := (turnAt f s 0).1, calls := (turnAt f s 0).2, behind := [] } := by simp [WSt.turn, turnAt]

structure TurnInv (F : FuncId) (w : World) (p : Nat) (va vb : Value) (s : WSt ByteArray) (k : Nat) (wr : World) (vk : Value) : Prop where
  cells : wr.heap[p]? = some (.cells #[.func (.func F) #[] #[], .string s.nothing, vk, vb, .string s.sum, .int .i64 (turnAt (· ++ ·) s k).2] 65 (0, 0))
  ahead : wr.Sl 67 2 vk (turnAt (· ++ ·) s k).1.length ((turnAt (· ++ ·) s k).1.flatMap strK.pair)
  behind : wr.Sl 9 1 vb s.behind.length (s.behind.flatMap strK.enc)
  fr : w.Fr wr (foot p va vb)
  new : ∀ k, k ∈ vk.blk → k ∈ va.blk ∨ w.heap.size ≤ k

theorem infoP : (Try.prog.info? 67).map (fun i => (i.zero, i.size, i.bytes)) = some (some (.agg #[.string .empty, .string .empty]), 2, 32) := by kernel_rfl

theorem flat1 (l : List ByteArray) (j : Nat) : (l.flatMap strK.enc)[j]? = (l[j]?).map Value.string := by
  have : l.flatMap strK.enc = l.map Value.string := by simp [List.flatMap_def]; induction l <;> simp_all
  rw [this, List.getElem?_map]

theorem TurnInv.next {F : FuncId} {w W w1 : World} {p : Nat} {va vb vk : Value} {s : WSt ByteArray} {j g off cap n : Nat} {Ta : List (ByteArray × ByteArray)} {Tc : Nat}
    (hT : turnAt (· ++ ·) s j = (Ta, Tc)) (hn : Ta.length = n)
    (hp : W.heap[p]? = some (.cells #[.func (.func F) #[] #[], .string s.nothing, vk, vb, .string s.sum, .int .i64 Tc] 65 (0, 0)))
    (hb : W.Sl 9 1 vb s.behind.length (s.behind.flatMap strK.enc)) (h0 : w.Fr W (foot p va vb)) (hnew : ∀ k, k ∈ vk.blk → k ∈ va.blk ∨ w.heap.size ≤ k)
    (hsl : w1.Sl 67 2 (.slice (some ⟨g, off, none⟩) n cap) n (Ta.flatMap strK.pair)) (hfr : W.Fr w1 vk.blk) (hat : g ∈ vk.blk ∨ g = W.heap.size)
    (hpa : p ∉ va.blk) (hpb : p ∉ vb.blk) (hpl : p < w.heap.size) (hab : ∀ k, k ∈ va.blk → k ∉ vb.blk) (hbl : ∀ k, k ∈ vb.blk → k < w.heap.size) :
    TurnInv F w p va vb s j (w1.setCell ⟨p, 2, none⟩ (.slice (some ⟨g, off, none⟩) n cap)) (.slice (some ⟨g, off, none⟩) n cap) := by
  have hpk : p ∉ vk.blk := fun e => (hnew p e).elim hpa (fun h => by omega)
  have hkb : ∀ k, k ∈ vb.blk → k ∉ vk.blk := fun k hk e => (hnew k e).elim (fun h => hab k h hk) (fun h => by have := hbl k hk; omega)
  have hg : g ∈ va.blk ∨ w.heap.size ≤ g := hat.elim (hnew g) (fun e => .inr (by have := h0.size; omega))
  refine ⟨?_, ?_, (hb.fr hfr hkb).setCell hpb _, ?_, fun k hk => ?_⟩
  · rw [hT]; exact heap_set_same (hfr.heap hp hpk) 2 _
  · rw [hT]; subst hn
    exact hsl.setCell (by simp [Value.blk]; rintro rfl; exact hg.elim hpa (fun h => by omega)) _
  · exact (h0.trans hfr fun k hk => (hnew k hk).imp (fun h => by simp [foot, h]) id).setCell (by simp [foot]) _
  · simp [Value.blk] at hk; subst hk; exact hg

set_option maxHeartbeats 400000 in
theorem turn32 {F : FuncId} (hF : Cat F) {w : World} {p : Nat} {L : List Nat} {s : WSt ByteArray} (h : HasWin strK (fv F) w p s L) (hl : s.len < 1000000) (hc : ∀ k, (turnAt (· ++ ·) s k).2 < 8000000000000000000)
    (hlen : ∀ k, k ≤ s.behind.length → (turnAt (· ++ ·) s k).1.length = s.ahead.length + (s.behind.length - k))
    (hx : ∀ j q x, s.behind[j]? = some x → (turnAt (· ++ ·) s (j + 1)).1.getLast? = some q → x.size + q.2.size ≤ 9223372036854775807) :
    Calls Try.prog 32 #[.pointer (some ⟨p,0,none⟩)] w (WPost strK (fv F) p w L (s.turn (· ++ ·)) (.tuple #[])) := by
  obtain ⟨va, vb, h, rfl⟩ := h
  obtain ⟨hp, ha, hb, hpa, hpb, hab⟩ := h
  have hpl := lt_of_heap hp
  obtain ⟨ab, cb, rfl, hcb1, hcb2⟩ := hb.shape
  obtain ⟨h0, h1, h2, h3, h4, h5, hf⟩ := six hp
  have hBl : s.behind.length < 1000000 := by unfold WSt.len at hl; omega
  have hl2 := hl
  obtain ⟨i0, hi, hz0, hz1, hz2⟩ := info_parts infoP
  have hinv : TurnInv F w p va (.slice ab s.behind.length cb) s s.behind.length w va := by
    refine ⟨?_, ?_, hb, World.Fr.refl _ _, fun k hk => .inl hk⟩
    · rw [turnAt_end]; exact hp
    · rw [turnAt_end]; exact ha
  have Hinv := Lib.hid hinv; clear hinv
  have Hp := Lib.hid hp; have Ha := Lib.hid ha; have Hb := Lib.hid hb; have Hc := Lib.hid hc; have Hlen := Lib.hid hlen; have Hx := Lib.hid hx; clear hp ha hb hc hlen hx hl
  have Hl2 := Lib.hid hl2; clear hl2
  have hw1 : IntKind.i64.wrap ((s.behind.length : Int) - 1) = (s.behind.length : Int) - 1 := IntWalk.i64_in _ (by omega)
  go_enter Try.func32, Try.ntmps32
  go_wp2
  go_loopw [2] (fun i wr => ∃ k vk, k ≤ s.behind.length ∧ i = .int .i64 ((k : Int) - 1) ∧ Hid (TurnInv F w p va (.slice ab s.behind.length cb) s k wr vk)) (fun i _ => (intOf i + 1).toNat)
  case atStart => exact ⟨s.behind.length, va, Nat.le_refl _, rfl, Hinv⟩
  case round =>
    obtain ⟨k, vk, hk, rfl, HI⟩ := hrel
    clear h0 h1 h2 h3 h4 h5 hf
    obtain ⟨i1, i2, i3, i4, i5⟩ := HI.out
    obtain ⟨h0, h1, h2, h3, h4, h5, hf⟩ := six i1
    cases k with
    | zero =>
      have HI1 := Lib.hid i1; have HI2 := Lib.hid i2; have HI3 := Lib.hid i3; have HI4 := Lib.hid i4; have HI5 := Lib.hid i5; clear i1 i2 i3 i4 i5 HI
      have hz : (((0 : Nat) : Int) - 1) = -1 := rfl
      rw [hz]
      clear hz
      go_wp2
      go_end0
      have hp' := heap_set_same HI1.out 3 (.slice none 0 0)
      rw [turnAt_zero]
      have hnp : p ∉ vk.blk := fun e => (HI5.out p e).elim hpa (fun h => by omega)
      exact WPost.mk (K := strK) (va' := vk) (vb' := .slice none 0 0) (s' := { s with ahead := (turnAt (· ++ ·) s 0).1, calls := (turnAt (· ++ ·) s 0).2, behind := [] }) hp' (HI2.out.setCell hnp _) (World.Sl.nil _ _ _)
        (HI4.out.setCell (by simp [foot]) _) HI5.out (by simp [Value.blk]) hpa hpb hpl (by simp [Value.blk])
    | succ j =>
      have hz : (((j + 1 : Nat) : Int) - 1) = (j : Int) := by omega
      rw [hz]
      clear hz
      have hjB : j < s.behind.length := by omega
      obtain ⟨g, off, cap, he, _, _, hgl, hcells, _⟩ := i3.form (by omega)
      cases he
      have hxj : s.behind[j]? = some s.behind[j] := List.getElem?_eq_getElem hjB
      have hx1 := hcells j (by omega)
      rw [flat1, hxj] at hx1
      simp only [Option.map_some] at hx1
      have hA := Hlen.out (j + 1) hk
      have hA1 := Hlen.out j (by omega)
      have hc1 := Hc.out (j + 1)
      have hts := turnAt_succ (· ++ ·) s j hjB
      have hxx := Hx.out j
      generalize hxv : s.behind[j] = x at *
      generalize hT : turnAt (· ++ ·) s (j + 1) = T at *
      obtain ⟨Ta, Tc⟩ := T
      simp only at i1 i2 h2 h5 hA hc1
      have Hcells := Lib.hid hcells; clear hcells
      have HI1 := Lib.hid i1; have HI2 := Lib.hid i2; have HI3 := Lib.hid i3; have HI4 := Lib.hid i4; have HI5 := Lib.hid i5; clear i1 i2 i3 i4 i5 HI
      have Hxj := Lib.hid hxj; have HA := Lib.hid hA; have HA1 := Lib.hid hA1; have Hc1 := Lib.hid hc1; have Hts := Lib.hid hts; have Hxx := Lib.hid hxx; have Hxv := Lib.hid hxv; have HT := Lib.hid hT; clear hxj hA hA1 hc1 hts hxx hxv hT
      have hjI : (j : Int) < (s.behind.length : Int) := by omega
      obtain ⟨ak, ck, rfl, hck1, hck2⟩ := HI2.out.shape
      rcases List.eq_nil_or_concat Ta with hTa | ⟨a0, q, hTa⟩
      · subst hTa
        simp only [List.length_nil] at h2 HI1 HI2 HA
        go_wp2_with (at_builtin; refine wpList_append_one _ rfl (.tmp 47) (.tmp 51) 63 rfl 67 i0 (.agg #[.string .empty, .string .empty]) 2 32 Try.underlying63 hi hz0 hz1 hz2 rfl (.slice ak 0 ck) 0 [] rfl ?qhb wr.heap.size 1 [.string x, .string x] 67 rfl ?qB rfl rfl ⟨?qc1, ?qc2⟩ ?_)
        case qhb => exact HI2.out.alloc _
        case qB => exact (Array.getElem?_eq_some_iff.1 (heap_alloc_at wr _ _ rfl)).2
        try case qc1 => omega
        try case qc2 => omega
        intro g2 off2 cap2 w1 hsl hfr hat hlt
        have hts : turnAt (· ++ ·) s j = ([(x, x)], Tc) := by rw [Hts.out]; rfl
        have hnext := TurnInv.next (F := F) (n := 1) hts rfl (heap_alloc_some HI1.out _) (HI3.out.alloc _) (HI4.out.alloc _) HI5.out hsl hfr (by simpa using hat) hpa hpb hpl hab Hb.out.lt
        have hnp : p ∉ (Value.slice ak 0 ck).blk := fun e => (HI5.out p e).elim hpa (fun h => by omega)
        obtain ⟨k0, k1, k2, k3, k4, k5, kf⟩ := six (hfr.heap (heap_alloc_some HI1.out _) hnp)
        have Hnext := Lib.hid hnext; clear hnext hsl hfr hat
        go_wp2
        go_roundw
        case rel => exact ⟨j, _, by omega, rfl, Hnext.out⟩
        case measure => simp [intOf]
      · rw [List.concat_eq_append] at hTa
        have hn : Ta.length = a0.length + 1 := by rw [hTa]; simp
        have hal : a0.length < 1000000 := by have := HA.out; have h2 := Hl2.out; unfold WSt.len at h2; omega
        have hlast : Ta.getLast? = some q := by rw [hTa]; simp
        have hqs : x.size + q.2.size ≤ 9223372036854775807 := by
          have := Hxx.out q x Hxj.out; simp only at this; exact this hlast
        have hts : turnAt (· ++ ·) s j = (Ta ++ [(x, x ++ q.2)], Tc + 1) := by rw [Hts.out]; unfold turn1; simp [hlast]
        have hget : (Ta.flatMap strK.pair)[2 * a0.length + 1]? = some (.string q.2) := by
          rw [hTa, List.flatMap_append, List.getElem?_append_right (by rw [pair_len]; omega), pair_len]
          simp [Kind.pair]
        have hq0 := HI2.out
        rw [hn] at hq0 h2 HI1 HI2
        obtain ⟨gk, offk, capk, hek, _, _, hgkl, hcellk, _⟩ := hq0.form (by omega)
        cases hek
        have hq := hcellk (2 * a0.length + 1) (by omega)
        rw [hget, show offk + (2 * a0.length + 1) = offk + a0.length * 2 + 1 from by omega] at hq
        have hdoes := does31 hF p s.nothing s.sum (.slice (some ⟨gk, offk, none⟩) (a0.length + 1) ck) (.slice (some ⟨g, off, none⟩) s.behind.length cb) Tc x q.2 wr HI1.out (by have := Hc1.out; omega) hqs
        have Hd := Lib.hid hdoes
        have Hq0 := Lib.hid hq0; have Hn := Lib.hid hn; have Htsj := Lib.hid hts; have Hqs := Lib.hid hqs
        have HTa := Lib.hid hTa
        clear hget hcellk hdoes hq0 hn hts hqs hTa hlast
        generalize a0.length = n at *
        have hs1 : IntKind.i64.wrap ((n : Int) + 1 - 1) = n := by rw [IntWalk.i64_in _ (by omega)]; omega
        have hs2 : IntKind.i64.wrap (n : Int) = n := IntWalk.i64_in _ (by omega)
        have hs3 : (n : Int) < n + 1 := by omega
        have hpos : decide ((0 : Int) < (n : Int) + 1) = true := decide_eq_true (by omega)
        go_wp2_with fail
        refine Hd.out.mono ?_
        rintro e w2 ⟨rfl, hfr2, hp2⟩
        obtain ⟨j0, j1, j2, j3, j4, j5, jf⟩ := six hp2
        have Hp2 := Lib.hid hp2; have Hfr2 := Lib.hid hfr2; clear hp2 hfr2
        have hnp : p ∉ (Value.slice (some ⟨gk, offk, none⟩) (n + 1) ck).blk := fun e => (HI5.out p e).elim hpa (fun h => by omega)
        have Hq2 := Lib.hid (Hq0.out.fr Hfr2.out (fun k hk => by simp; exact fun e => hnp (e ▸ hk)))
        have Hb2 := Lib.hid (HI3.out.fr Hfr2.out (fun k hk => by simp; exact fun e => hpb (e ▸ hk)))
        have Hf2 := Lib.hid (HI4.out.trans Hfr2.out (by simp [foot]))
        go_wp2_with (at_builtin; refine wpList_append_one _ rfl (.tmp 47) (.tmp 51) 63 rfl 67 i0 (.agg #[.string .empty, .string .empty]) 2 32 Try.underlying63 hi hz0 hz1 hz2 rfl (.slice (some ⟨gk, offk, none⟩) (n + 1) ck) (n + 1) (Ta.flatMap strK.pair) rfl ?rhb w2.heap.size 1 [.string x, .string (x ++ q.2)] 67 rfl ?rB rfl rfl ?rc1 ?_)
        case rhb => exact Hq2.out.alloc _
        case rB => exact heap_alloc_at _ _ _ rfl
        case rc1 => exact ⟨by omega, by omega⟩
        intro g2 off2 cap2 w1 hsl hfr hat hlt
        have hnext := TurnInv.next (F := F) (n := n + 1 + 1) Htsj.out (by simp [Hn.out]) (heap_alloc_some Hp2.out _) (Hb2.out.alloc _) (Hf2.out.alloc _) HI5.out (by simpa [Kind.pair] using hsl) hfr (by simpa using hat) hpa hpb hpl hab Hb.out.lt
        obtain ⟨k0, k1, k2, k3, k4, k5, kf⟩ := six (hfr.heap (heap_alloc_some Hp2.out _) hnp)
        have Hnext := Lib.hid hnext; clear hnext hsl hfr hat
        go_wp2
        go_roundw
        case rel => exact ⟨j, _, by omega, rfl, Hnext.out⟩
        case measure => simp [intOf]
end Go.Proofs.Ytikodccbecmjiaa
