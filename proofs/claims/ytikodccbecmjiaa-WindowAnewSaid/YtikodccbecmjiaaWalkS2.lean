/-
  The walks of the window of strings, more: All, turn, Pop, New.
-/
import Derived.Test.YtikodccbecmjiaaWalkS
import Derived.StillTailTactics
namespace Go.Proofs.Ytikodccbecmjiaa
open Go.RowKit Go.Win

theorem pair_len (l : List (ByteArray × ByteArray)) : (l.flatMap strK.pair).length = 2 * l.length := by
  induction l with
  | nil => rfl
  | cons q r ih => simp [Kind.pair, ih]; omega

theorem all17 {F : FuncId} (hF : Cat F) {w : World} {p : Nat} {L : List Nat} {s : WSt ByteArray} (h : HasWin strK (fv F) w p s L) (hl : s.len < 4294967296) (hc : s.calls < 8000000000000000000)
    (hx : ∀ q, s.ahead.getLast? = some q → q.2.size + s.sum.size ≤ 9223372036854775807) :
    Calls Try.prog 17 #[.pointer (some ⟨p,0,none⟩)] w (WPost strK (fv F) p w L s.asked (.string (s.all (· ++ ·)))) := by
  obtain ⟨va, vb, h, rfl⟩ := h
  obtain ⟨hp, ha, hb, hpa, hpb, hab⟩ := h
  have hpl := lt_of_heap hp
  obtain ⟨aa, ca, rfl, _, _⟩ := ha.shape
  obtain ⟨ab, cb, rfl, _, _⟩ := hb.shape
  obtain ⟨h0, h1, h2, h3, h4, h5, hf⟩ := six hp
  unfold WSt.len at hl
  have hsame : ∀ r w', w.Fr w' [] → WPost strK (fv F) p w (foot p (.slice aa s.ahead.length ca) (.slice ab s.behind.length cb)) s r (.returned r) w' := fun r w' hw =>
    WPost.mk (hw.heap hp (by simp)) (ha.fr hw (by simp)) (hb.fr hw (by simp)) (hw.mono (by simp)) (fun k hk => .inl hk) (fun k hk => .inl hk) hpa hpb hpl hab
  have Hsame := Lib.hid hsame; clear hsame
  rcases List.eq_nil_or_concat s.ahead with hA | ⟨a0, q, hA⟩
  · have hall : s.all (· ++ ·) = if s.behind = [] then s.nothing else s.sum := by unfold WSt.all; rw [hA]; cases s.behind <;> simp
    have hask : s.asked = s := by unfold WSt.asked; rw [hA]
    have Hall := Lib.hid hall; have Hask := Lib.hid hask; clear hall hask
    have hl2 : s.ahead.length = 0 := by rw [hA]; rfl
    have hAl : ((s.ahead.length : Int) == 0) = true := by rw [hl2]; rfl
    have hB := Lib.hid (rfl : s.behind = s.behind)
    by_cases hB : s.behind = []
    · have hBl : ((s.behind.length : Int) == 0) = true := by rw [hB]; rfl
      have HB := Lib.hid hB; have HA := Lib.hid hA; have Hp := Lib.hid hp; have Ha := Lib.hid ha; have Hb := Lib.hid hb; clear hB hA hp ha hb hc hx hl hl2
      go_enter Try.func17, Try.ntmps17
      go_wp2
      go_ret
      rw [Hask.out, Hall.out, if_pos HB.out]
      exact Hsame.out _ _ (World.Fr.refl _ _)
    · have hBl : ((s.behind.length : Int) == 0) = false := beq_eq_false_iff_ne.2 (by cases h : s.behind with | nil => exact absurd h hB | cons a b => simp; omega)
      have HB := Lib.hid hB; have HA := Lib.hid hA; have Hp := Lib.hid hp; have Ha := Lib.hid ha; have Hb := Lib.hid hb; clear hB hA hp ha hb hc hx hl hl2
      go_enter Try.func17, Try.ntmps17
      go_wp2
      go_ret
      rw [Hask.out, Hall.out, if_neg HB.out]
      exact Hsame.out _ _ (World.Fr.refl _ _)
  · have hlast : s.ahead.getLast? = some q := by rw [hA]; simp
    have hAn : s.ahead.length = a0.length + 1 := by rw [hA]; simp
    have hn : a0.length < 4294967296 := by omega
    have hAl : ((a0.length : Int) + 1 == 0) = false := beq_eq_false_iff_ne.2 (by omega)
    have hget : (s.ahead.flatMap strK.pair)[2 * a0.length + 1]? = some (.string q.2) := by
      rw [hA, List.concat_eq_append, List.flatMap_append, List.getElem?_append_right (by rw [pair_len]; omega), pair_len]
      simp [Kind.pair]
    obtain ⟨g, off, cap, he, hcap, hmax, hgl, hcells, hfree⟩ := ha.form (by omega)
    cases he
    have hq := hcells (2 * a0.length + 1) (by rw [hAn]; simp; omega)
    rw [hget, show off + (2 * a0.length + 1) = off + a0.length * 2 + 1 from by omega] at hq
    rw [hAn] at h2 ha hp hpa hab Hsame hcap
    clear hcells hget
    have hall : s.all (· ++ ·) = if s.behind = [] then q.2 else q.2 ++ s.sum := by unfold WSt.all; rw [hlast]; cases s.behind <;> simp
    have hask : s.asked = if s.behind = [] then s else { s with calls := s.calls + 1 } := by unfold WSt.asked; rw [hA]; cases s.behind <;> cases a0 <;> simp
    have Hall := Lib.hid hall; have Hask := Lib.hid hask; clear hall hask
    have hx := hx q hlast
    have HA := Lib.hid hA; have HAn := Lib.hid hAn; have Hlast := Lib.hid hlast; clear hA hAn hlast
    generalize a0.length = n at *
    by_cases hB : s.behind = []
    · have hBl : ((s.behind.length : Int) == 0) = true := by rw [hB]; rfl
      have HB := Lib.hid hB; have Hp := Lib.hid hp; have Ha := Lib.hid ha; have Hb := Lib.hid hb; have Hx := Lib.hid hx; have Hc := Lib.hid hc; clear hB hp ha hb hx hc hl
      go_enter Try.func17, Try.ntmps17
      go_wp2
      go_ret
      rw [Hask.out, Hall.out, if_pos HB.out, if_pos HB.out]
      exact Hsame.out _ _ (World.Fr.refl _ _)
    · have hBl : ((s.behind.length : Int) == 0) = false := beq_eq_false_iff_ne.2 (by cases h : s.behind with | nil => exact absurd h hB | cons a b => simp; omega)
      have hdoes := fun nq => does31 hF p s.nothing s.sum _ (.slice ab s.behind.length cb) s.calls q.2 s.sum (w.drewN nq) hp (by omega) hx
      have Hd := Lib.hid hdoes; clear hdoes
      have HB := Lib.hid hB; have Hp := Lib.hid hp; have Ha := Lib.hid ha; have Hb := Lib.hid hb; have Hx := Lib.hid hx; have Hc := Lib.hid hc; clear hB hp ha hb hx hc hl
      have hs1 : IntKind.i64.wrap ((n : Int) + 1 - 1) = n := by rw [IntWalk.i64_in _ (by omega)]; omega
      have hs3 : (n : Int) < n + 1 := by omega
      have hs2 : IntKind.i64.wrap (n : Int) = n := IntWalk.i64_in _ (by omega)
      go_enter Try.func17, Try.ntmps17
      go_wp2
      go_still_tail 14, (by kernel_rfl)
      change wpList _ _ _ _ _ w.drew
      go_wp2_with fail
      refine (Hd.out 1).mono ?_
      rintro e w2 ⟨rfl, hfr2, hp2⟩
      go_wp2
      go_ret
      rw [Hask.out, Hall.out, if_neg HB.out, if_neg HB.out]
      have hfr : w.Fr w2 [p] := ((World.Fr.refl w [p]).of_drewN 1).trans hfr2 (by simp)
      exact WPost.mk (K := strK) (s' := { s with calls := s.calls + 1 }) hp2 (HAn.out ▸ (Ha.out.fr hfr fun k hk => by simp; exact fun e => hpa (e ▸ hk))) (Hb.out.fr hfr fun k hk => by simp; exact fun e => hpb (e ▸ hk))
        (hfr.mono (by simp [foot])) (fun k hk => .inl hk) (fun k hk => .inl hk) hpa hpb hpl hab
end Go.Proofs.Ytikodccbecmjiaa
