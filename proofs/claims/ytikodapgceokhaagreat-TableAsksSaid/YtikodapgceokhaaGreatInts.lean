/-
  Values that are whole numbers: Check and Compare are known of them, and their order is total.
-/
import Derived.Test.YtikodapgceokhaaGreatRowOrd
namespace Go.Proofs.YtikodapgceokhaaGreat
open Go.RowKit

structure okI (v : V) : Prop where
  k : v.k = 1
  d : v.d = 0
  s : v.s = ⟨#[]⟩
noncomputable def cfI : V → V → Int := vcmpBy fun _ _ => 0
theorem okI_check {v : V} (h : okI v) : vcheck v = 0 := by
  have : v.s.size = 0 := by rw [h.s]; rfl
  unfold vcheck
  rw [if_pos h.k, if_pos ⟨h.d, this⟩]
theorem cfI_eq {a b : V} (ha : okI a) (hb : okI b) : cfI a b = Lib.compareInt a.n b.n := by
  unfold cfI vcmpBy
  rw [if_neg (by rw [okI_check ha, okI_check hb]; simp), if_neg (by rw [ha.k, hb.k]; simp), if_pos ha.k]
theorem knownI : Known okI cfI :=
  ⟨fun v w h => check88 v (by rw [h.k]; decide) w, fun a b w ha hb => compare89 _ a b (by rw [ha.k]; decide) (by rw [hb.k]; decide) w⟩
theorem ordI : OrdOk okI cfI := by
  refine ⟨fun a ha => ?_, fun a b ha hb h => ?_, fun a b ha hb => ?_, fun a b c ha hb hc h1 h2 => ?_⟩
  · rw [cfI_eq ha ha]; simp [Lib.compareInt]
  · rw [cfI_eq ha hb] at h
    have hn : a.n = b.n := by
      unfold Lib.compareInt at h
      split at h
      · omega
      · split at h <;> omega
    obtain ⟨ak, an, ad, sa⟩ := a
    obtain ⟨bk, bn, bd, sb⟩ := b
    have h1 := ha.k; have h2 := hb.k; have h3 := ha.d; have h4 := hb.d; have h5 := ha.s; have h6 := hb.s
    simp only at h1 h2 h3 h4 h5 h6 hn
    subst h1 h2 h3 h4 h5 h6 hn
    rfl
  · rw [cfI_eq ha hb, cfI_eq hb ha]
    unfold Lib.compareInt
    (repeat' split) <;> omega
  · rw [cfI_eq ha hb] at h1
    rw [cfI_eq hb hc] at h2
    rw [cfI_eq ha hc]
    unfold Lib.compareInt at *
    split at h1
    · split at h2
      · rw [if_pos (by omega)]; omega
      · split at h2 <;> omega
    · split at h1 <;> omega
end Go.Proofs.YtikodapgceokhaaGreat
