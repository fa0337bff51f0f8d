/-
  The walks of table.rises, table.checkRow.
-/
import Derived.Test.YtikodapgceokhaaGreatVal
namespace Go.Proofs.YtikodapgceokhaaGreat
open Go.RowKit

abbrev ltS (a b : BA) : Bool := Op.bytesLess a.toList b.toList
def Rises (l : List BA) : Prop := ∀ (i : Nat) (a b : BA), l[i]? = some a → l[i + 1]? = some b → ltS a b = true
open Classical in
noncomputable def risesB (l : List BA) : Bool := decide (Rises l)
theorem risesB_true {l : List BA} (h : Rises l) : risesB l = true := by unfold risesB; simp [h]
theorem risesB_false {l : List BA} (h : ¬ Rises l) : risesB l = false := by unfold risesB; simp [h]

set_option maxHeartbeats 1000000 in
theorem rises47 {w : World} {v : Value} {l : List BA} (h : RdStr w v l) (hl : l.length ≤ 8000000000000000000) : Calls Tryz.prog 47 #[v] w fun e w' => e = .returned (.bool (risesB l)) ∧ w.Fr w' [] := by
  obtain ⟨va, vc, rfl, _, _⟩ := h.rd.shape
  have H := Lib.hid h; have Hl := Lib.hid hl; clear h hl
  go_enter Tryz.func47, Tryz.ntmps47
  go_wp2
  go_loopw [3] (fun i wr => ∃ m : Nat, i = .int .i64 ((m : Int) + 1) ∧ (m = 0 ∨ m + 1 ≤ l.length) ∧ Hid (∀ (k : Nat) (a b : BA), k < m → l[k]? = some a → l[k + 1]? = some b → ltS a b = true) ∧ Hid (w.Fr wr [])) (fun i _ => (l.length + 1 - intOf i).toNat)
  case atStart => exact ⟨0, rfl, .inl rfl, Lib.hid (fun k a b hk => by omega), Lib.hid (World.Fr.refl w [])⟩
  case round =>
    obtain ⟨m, rfl, hm, HA, HF⟩ := hrel
    by_cases hlt : m + 1 < l.length
    · have hltI : (m : Int) + 1 < (l.length : Int) := by omega
      obtain ⟨x, hx⟩ : ∃ x, l[m]? = some x := ⟨l[m], List.getElem?_eq_getElem (by omega)⟩
      obtain ⟨y, hy⟩ : ∃ y, l[m + 1]? = some y := ⟨l[m + 1], List.getElem?_eq_getElem (by omega)⟩
      have hr := H.out.fr HF.out (by simp)
      obtain ⟨g, off, c, hv, hg, kx⟩ := hr.at hx
      obtain ⟨g2, off2, c2, hv2, _, ky⟩ := hr.at hy
      cases hv; cases hv2
      have hs1 : IntKind.i64.wrap (m : Int) = (m : Int) := IntWalk.i64_in _ (by have := Hl.out; omega)
      have hw1 : IntKind.i64.wrap ((m : Int) + 1 + 1) = ((m + 1 : Nat) : Int) + 1 := by rw [IntWalk.i64_in _ (by have := Hl.out; omega)]; omega
      have hmI : (m : Int) < (l.length : Int) := by omega
      have Hx := Lib.hid hx; have Hy := Lib.hid hy; clear hx hy hr
      go_wp2
      cases hxy : ltS x y with
      | true =>
        have hb : Op.bytesLess x.toList y.toList = true := hxy
        go_quiet (fail)
        go_wp2
        go_roundw
        case rel => exact ⟨m + 1, by go_num, by omega, Lib.hid (fun k a b hk ha hb' => by
          rcases Nat.lt_or_ge k m with h | h
          · exact HA.out k a b h ha hb'
          · obtain rfl : k = m := by omega
            rw [Hx.out] at ha; rw [Hy.out] at hb'
            cases ha; cases hb'; exact hxy), Lib.hid (HF.out.of_drewN _)⟩
        case measure => simp [intOf]; omega
      | false =>
        have hb : Op.bytesLess x.toList y.toList = false := hxy
        have hres : risesB l = false := risesB_false (fun h => by have := h m x y Hx.out Hy.out; rw [hxy] at this; cases this)
        have Hres := Lib.hid hres; clear hres hxy
        go_quiet (fail)
        go_wp2
        go_ret
        rw [Hres.out]
        exact ⟨rfl, HF.out.of_drewN _⟩
    · have hd : decide ((m : Int) + 1 < (l.length : Int)) = false := decide_eq_false (by omega)
      have hres : risesB l = true := risesB_true (fun k a b ha hb => by
        have := (List.getElem?_eq_some_iff.1 hb).1
        exact HA.out k a b (by omega) ha hb)
      have Hres := Lib.hid hres; clear hres hlt HA
      go_wp2
      go_ret
      rw [Hres.out]
      exact ⟨rfl, HF.out⟩
end Go.Proofs.YtikodapgceokhaaGreat
