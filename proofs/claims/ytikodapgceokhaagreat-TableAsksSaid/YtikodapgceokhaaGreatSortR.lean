/-
  What slices.SortFunc makes of a table's rows with value.CompareRow.
-/
import Derived.Test.YtikodapgceokhaaGreatOrd
namespace Go.Proofs.YtikodapgceokhaaGreat
open Go.RowKit Go.Sort

/-- the order of rows is one, of values of which okv holds -/
def RowOrd (okv : V → Prop) (cf : V → V → Int) : Prop := SWO (fun (p q : { r : Row // ∀ x, x ∈ r → okv x }) => decide (rcmp cf p.1 q.1 < 0))

/-- a header, and the row behind it, in the world w and aside from the block list B -/
structure HdRow (okv : V → Prop) (w : World) (B : List Nat) (p : Value × Row) : Prop where
  rd : RdRow w p.1 p.2
  off : ∀ k, k ∈ p.1.rblk → k ∉ B
  ok : ∀ x, x ∈ p.2 → okv x
  short : p.2.length ≤ 8000000000000000000
theorem HdRow.one {okv : V → Prop} {w : World} {B : List Nat} {p : Value × Row} (h : HdRow okv w B p) : p.1.oneCell' = true := by
  obtain ⟨a, c, he, _⟩ := h.rd.rd.shape
  rw [he]; rfl

theorem sort101 {okv : V → Prop} {cf : V → V → Int} (hK : CmpOk okv cf) (hO : RowOrd okv cf) {w : World} {v : Value} (ps : List (Value × Row)) (h : w.Sl 32 1 v ps.length (ps.map (·.1))) (hp : ∀ p, p ∈ ps → HdRow okv w v.blk p) (hl : ps.length ≤ 8796093021952) :
    Calls Tryz.prog 101 #[v, .func (.func 49) #[] #[]] w fun e w' => e = .returned (.tuple #[]) ∧ ∃ qs : List (Value × Row), qs.Perm ps ∧ (qs.Pairwise fun x y => ¬ rcmp cf y.2 x.2 < 0) ∧ w'.Sl 32 1 v ps.length (qs.map (·.1)) ∧ w.Fr w' v.blk := by
  by_cases h0 : ps.length = 0
  · obtain rfl := List.eq_nil_of_length_eq_zero h0
    obtain ⟨a, c, rfl, _, _⟩ := h.shape
    refine (Tryz.slices_SortFunc_none_f101 (α := Nat) a c _ w).mono fun e w' ⟨he, hw⟩ => ⟨he, [], List.Perm.refl _, List.Pairwise.nil, ?_, ?_⟩
    · subst hw; exact h
    · subst hw; exact World.Fr.refl _ _
  · obtain ⟨g, off, c, rfl, _, _, hg, _, _⟩ := h.form (by omega)
    have hblk : (Value.slice (some ⟨g, off, none⟩) ps.length c).blk = [g] := rfl
    rw [hblk] at hp ⊢
    obtain ⟨p0, t, rfl⟩ : ∃ p0 t, ps = p0 :: t := by cases ps with | nil => simp at h0 | cons a t => exact ⟨a, t, rfl⟩
    haveI : Inhabited { p : Value × Row // HdRow okv w [g] p } := ⟨⟨p0, hp p0 (by simp)⟩⟩
    generalize hps : p0 :: t = ps at *
    let L : List { p : Value × Row // HdRow okv w [g] p } := ps.pmap (fun p hq => ⟨p, hq⟩) hp
    have hL : L.map (·.1) = ps := by simp [L, List.map_pmap]
    have hLl : L.length = ps.length := by simp [L]
    let enc : { p : Value × Row // HdRow okv w [g] p } → Value := fun p => p.1.1
    have hLe : L.map enc = ps.map (·.1) := by rw [← hL, List.map_map]; rfl
    have h' : w.Sl 32 1 (.slice (some ⟨g, off, none⟩) L.length c) L.length (L.map enc) := by rw [hLl, hLe]; exact h
    have e1 : L.toArray.size = ps.length := by simp [hLl]
    let cmp : { p : Value × Row // HdRow okv w [g] p } → { p : Value × Row // HdRow okv w [g] p } → Int := fun p q => rcmp cf p.1.2 q.1.2
    have hswo : SWO (ltOf cmp) := by
      refine ⟨fun x => ?_, fun x y z h1 h2 => ?_, fun x y z h1 h2 => ?_⟩
      · exact hO.irrefl ⟨x.1.2, x.2.ok⟩
      · exact hO.trans ⟨x.1.2, x.2.ok⟩ ⟨y.1.2, y.2.ok⟩ ⟨z.1.2, z.2.ok⟩ h1 h2
      · exact hO.ntrans ⟨x.1.2, x.2.ok⟩ ⟨y.1.2, y.2.ok⟩ ⟨z.1.2, z.2.ok⟩ h1 h2
    have hcmp : CmpLays1 Tryz.prog 49 #[] enc cmp g off L.toArray.size w := fun m os dk hs x y => by
      have hf := (h'.sorted dk (by rw [hs, e1, hLl]) m os).2
      refine (compareRow49 hK (x.2.rd.fr hf x.2.off) (y.2.rd.fr hf y.2.off) x.2.ok y.2.ok x.2.short).mono fun e w' ⟨he, hw⟩ => ⟨he, hw⟩
    have hc := Tryz.slices_SortFunc_f101 enc (fun p => p.2.one) cmp hswo 49 #[] g off c L.toArray w (fun args w => by kernel_rfl) hcmp h'.holds hg (by rw [e1]; omega)
    rw [e1] at hc
    refine hc.mono fun e w' ⟨he, d', n, os, hpm, hs, hw⟩ => ⟨he, d'.toList.map (·.1), ?_⟩
    have hp' := perm_whole (d := L.toArray) (by rw [e1]; exact hpm)
    have hsz : d'.size = ps.length := by rw [hp'.2, e1]
    obtain ⟨h1, h2⟩ := h'.sorted d' (by rw [hsz, hLl]) n os
    rw [← hw, hLl] at h1
    rw [← hw] at h2
    refine ⟨?_, ?_, ?_, h2⟩
    · have := hp'.1.map (·.1)
      rw [← hL]
      exact this
    · have hs' := sorted_pairs (lt := ltOf cmp) (by rw [hsz]; exact hs)
      rw [List.pairwise_map]
      exact hs'.imp fun {x y} hxy => by
        have : decide (rcmp cf y.1.2 x.1.2 < 0) = false := hxy
        simpa using this
    · rw [List.map_map]
      exact h1
end Go.Proofs.YtikodapgceokhaaGreat
