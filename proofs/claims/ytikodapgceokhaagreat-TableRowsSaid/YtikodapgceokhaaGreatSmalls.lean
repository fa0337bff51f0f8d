/-
  What the sets and joins tell is small: plainly; the law's two on each of them.
-/
import Derived.Test.YtikodapgceokhaaGreatTwo
import Derived.Test.YtikodapgceokhaaGreatCuts
import Derived.Test.YtikodapgceokhaaGreatJn2
import Derived.Test.YtikodapgceokhaaGreatLight
namespace Go.Proofs.YtikodapgceokhaaGreat
open Go.RowKit

theorem joinL_len (a b : Tb) : ∀ rs : List Row, (joinL a b rs).length ≤ rs.length * b.rows.length
  | [] => by simp [joinL]
  | x :: t => by
    have ih := joinL_len a b t
    have h : joinL a b (x :: t) = ((fitRows a b x).map fun y => x ++ pick b.vars y (leftL b.vars a.vars)) ++ joinL a b t := by unfold joinL; rw [List.flatMap_cons]
    have hf : (fitRows a b x).length ≤ b.rows.length := List.length_filter_le _ _
    rw [h, List.length_append, List.length_map, List.length_cons, Nat.add_mul, Nat.one_mul]
    omega
theorem joinRows_len (a b : Tb) : (joinRows a b).length ≤ a.rows.length * b.rows.length := joinL_len a b a.rows
section
variable {cf : V → V → Int} (hO : OrdOk (fun v => V.wf v ∧ vcheck v = 0) cf) {a b : Tb}
include hO
theorem unionT_small (sa : Small a) (wa : ∀ r, r ∈ a.rows → ∀ x, x ∈ r → V.wf x) (wb : ∀ r, r ∈ b.rows → ∀ x, x ∈ r → V.wf x) (hm : a.rows.length + b.rows.length ≤ 5864062014634) : Small (unionT cf a b).2 := by
  unfold unionT
  split
  · exact tNone_small
  · rename_i h0
    split
    · exact tNone_small
    · rename_i hv
      have hv : a.vars = b.vars := Classical.not_not.1 hv
      obtain ⟨ha, hb⟩ := bothE_zero (Classical.not_not.1 h0)
      obtain ⟨_, k2, k3, _⟩ := tcheck_zero ha
      obtain ⟨_, _, l3, _⟩ := tcheck_zero hb
      refine madeT_small hO (nodup_of_pair k2) sa.vars (by rw [List.length_append]; omega) (fun r hr => ?_) (fun r hr x hx => ?_)
      · rcases List.mem_append.1 hr with h | h
        · exact (k3 r h).1
        · rw [hv]; exact (l3 r h).1
      · rcases List.mem_append.1 hr with h | h
        · exact ⟨wa r h x hx, (k3 r h).2 x hx⟩
        · exact ⟨wb r h x hx, (l3 r h).2 x hx⟩
theorem antiT_small (sa : Small a) (wa : ∀ r, r ∈ a.rows → ∀ x, x ∈ r → V.wf x) : Small (antiT cf a b).2 := by
  unfold antiT
  split
  · exact tNone_small
  · rename_i h0
    obtain ⟨ha, _⟩ := bothE_zero (Classical.not_not.1 h0)
    obtain ⟨_, k2, k3, _⟩ := tcheck_zero ha
    have hsub : ∀ r, r ∈ antiRows a b → r ∈ a.rows := fun r hr => (List.mem_filter.1 hr).1
    have hlen : (antiRows a b).length ≤ a.rows.length := List.length_filter_le _ _
    exact madeT_small hO (nodup_of_pair k2) sa.vars (Nat.le_trans hlen sa.rows) (fun r hr => (k3 r (hsub r hr)).1) (fun r hr x hx => ⟨wa r (hsub r hr) x hx, (k3 r (hsub r hr)).2 x hx⟩)
theorem minusT_small (sa : Small a) (wa : ∀ r, r ∈ a.rows → ∀ x, x ∈ r → V.wf x) : Small (minusT cf a b).2 := by
  unfold minusT
  split
  · exact tNone_small
  · split
    · exact tNone_small
    · exact antiT_small hO sa wa
theorem joinT_small (wa : ∀ r, r ∈ a.rows → ∀ x, x ∈ r → V.wf x) (wb : ∀ r, r ∈ b.rows → ∀ x, x ∈ r → V.wf x) (hm : a.rows.length * b.rows.length ≤ 1000000000) : Small (joinT cf a b).2 := by
  unfold joinT
  split
  · exact tNone_small
  · rename_i h0
    split
    · exact tNone_small
    · rename_i h8
      obtain ⟨ha, hb⟩ := bothE_zero (Classical.not_not.1 h0)
      obtain ⟨_, k2, k3, _⟩ := tcheck_zero ha
      obtain ⟨_, l2, l3, _⟩ := tcheck_zero hb
      have hc := joinRows_fine (P := fun v => vcheck v = 0) k3 l3
      have hw := joinRows_fine (P := V.wf) (a := a) (b := b) (fun r hr => ⟨(k3 r hr).1, wa r hr⟩) (fun r hr => ⟨(l3 r hr).1, wb r hr⟩)
      have := joinRows_len a b
      exact madeT_small hO (joinNames_nodup (nodup_of_pair k2) (nodup_of_pair l2)) (by omega) (by omega) (fun r hr => (hc r hr).1) (fun r hr x hx => ⟨(hw r hr).2 x hx, (hc r hr).2 x hx⟩)
end
theorem light2 {x y : Nat} (h : lightF 1 [x, y] = true) : x * y ≤ 20000 := by
  simp only [lightF] at h
  split at h
  · cases h
  · split at h
    · cases h
    · rename_i h2
      have h3 : x * y ≤ 1 * max 1 x * max 1 y := by
        rw [Nat.one_mul]
        exact Nat.mul_le_mul (by omega) (by omega)
      omega

section
variable {cf : V → V → Int} (hK : Ctx V.wf cf) (hRK : RChkOk V.wf) (hRC : RCmpOk V.wf cf) {w : World} {v1 v2 : Value} {a b : Tb} (h1 : RdTab w v1 a) (h2 : RdTab w v2 b) (sa : Fit14 a) (sb : Fit14 b)
include hK hRK hRC h1 h2 sa sb
theorem two_union (hm : a.rows.length + b.rows.length ≤ 5864062014634) : Calls Tryz.prog 23 #[v1, v2, .func (.func 39) #[] #[], .func (.func 43) #[] #[]] w fun e w' => e = .returned (.bool true) ∧ w.Fr w' [] := by
  have fa : Fits V.wf a := ⟨sa.small, sa.rows, h1.wf⟩
  have fb : Fits V.wf b := ⟨sb.small, sb.rows, h2.wf⟩
  exact two23 h1 h2 sa sb (unionT_small hK.ord sa.small h1.wf h2.wf hm) Tryz.call39 Tryz.call43 (fun w' hf => union39 hK (h1.still hf) (h2.still hf) fa fb hm) (fun w' u1 u2 k1 k2 => runion43 hRK hRC hK.ord k1 k2 fa fb hm)
theorem two_minus : Calls Tryz.prog 23 #[v1, v2, .func (.func 44) #[] #[], .func (.func 45) #[] #[]] w fun e w' => e = .returned (.bool true) ∧ w.Fr w' [] := by
  have fa : Fits V.wf a := ⟨sa.small, sa.rows, h1.wf⟩
  have fb : Fits V.wf b := ⟨sb.small, sb.rows, h2.wf⟩
  exact two23 h1 h2 sa sb (minusT_small hK.ord sa.small h1.wf) Tryz.call44 Tryz.call45 (fun w' hf => minus44 hK (h1.still hf) (h2.still hf) fa fb) (fun w' u1 u2 k1 k2 => rminus45 hRK hRC hK.ord k1 k2 fa fb)
theorem two_join (hm : a.rows.length * b.rows.length ≤ 1000000000) : Calls Tryz.prog 23 #[v1, v2, .func (.func 24) #[] #[], .func (.func 25) #[] #[]] w fun e w' => e = .returned (.bool true) ∧ w.Fr w' [] := by
  have fa : Fits V.wf a := ⟨sa.small, sa.rows, h1.wf⟩
  have fb : Fits V.wf b := ⟨sb.small, sb.rows, h2.wf⟩
  exact two23 h1 h2 sa sb (joinT_small hK.ord h1.wf h2.wf hm) Tryz.call24 Tryz.call25 (fun w' hf => join24 hK (h1.still hf) (h2.still hf) fa fb hm) (fun w' u1 u2 k1 k2 => rjoin25 hRK hRC hK.ord k1 k2 fa fb hm)
theorem two_anti : Calls Tryz.prog 23 #[v1, v2, .func (.func 26) #[] #[], .func (.func 27) #[] #[]] w fun e w' => e = .returned (.bool true) ∧ w.Fr w' [] := by
  have fa : Fits V.wf a := ⟨sa.small, sa.rows, h1.wf⟩
  have fb : Fits V.wf b := ⟨sb.small, sb.rows, h2.wf⟩
  exact two23 h1 h2 sa sb (antiT_small hK.ord sa.small h1.wf) Tryz.call26 Tryz.call27 (fun w' hf => anti26 hK (h1.still hf) (h2.still hf) fa fb) (fun w' u1 u2 k1 k2 => ranti27 hRK hRC hK.ord k1 k2 fa fb)
end
theorem lens2 {W : World} {x1 x2 y1 y2 : Option Addr} {n1 n2 m1 m2 c1 c2 d1 d2 : Nat} : Lens (W.alloc (.cells #[.slice x1 n1 c1, .slice x2 n2 c2, .slice y1 m1 d1, .slice y2 m2 d2] 25)) W.heap.size 0 [n2, m2] := by
  have hg := heap_alloc_at W (.cells #[.slice x1 n1 c1, .slice x2 n2 c2, .slice y1 m1 d1, .slice y2 m2 d2] 25) _ rfl
  intro i n h
  match i with
  | 0 => simp at h; subst h; exact ⟨x2, c2, by rw [cell_of_row _ _ _ _ _ _ hg]; rfl⟩
  | 1 => simp at h; subst h; exact ⟨y2, d2, by rw [cell_of_row _ _ _ _ _ _ hg]; rfl⟩
  | i + 2 => simp at h
end Go.Proofs.YtikodapgceokhaaGreat
