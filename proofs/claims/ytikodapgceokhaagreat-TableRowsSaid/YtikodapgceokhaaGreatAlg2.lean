/-
  What fits and what does not are the whole; the rows of a union, a difference, a join: plainly.
-/
import Derived.Test.YtikodapgceokhaaGreatAlg
import Derived.Test.YtikodapgceokhaaGreatSmalls
namespace Go.Proofs.YtikodapgceokhaaGreat
open Go.RowKit

section
variable {cf : V → V → Int} (hO : OrdOk okW cf) {a b : Tb} (ha : Good cf a) (hb : Good cf b)
include hO ha
theorem sub_made {rs : List Row} (hs : ∀ r, r ∈ rs → r ∈ a.rows) : Good cf (madeT cf a.vars rs) ∧ (madeT cf a.vars rs).vars = a.vars ∧ ∀ r, r ∈ (madeT cf a.vars rs).rows ↔ r ∈ rs :=
  ⟨made_good hO ha.nd ha.len (fun r hr => ha.row r (hs r hr)) (fun r hr => ha.ok r (hs r hr)), made_vars_up ha.up, fun _ => made_rows_up hO ha.up (fun r hr => ha.row r (hs r hr)) (fun r hr => ha.ok r (hs r hr))⟩
/-- a table cut to some of its names -/
theorem projectT_good {l : List BA} (hu : l.Pairwise fun x y => ltS x y = true) (hs : ∀ s, s ∈ l → s ∈ a.vars) : ∃ p, projectT cf a l = (0, p) ∧ Good cf p ∧ p.vars = l ∧ ∀ r, r ∈ p.rows ↔ ∃ z, z ∈ a.rows ∧ pick a.vars z l = r := by
  have hn := nodup_of_pair hu
  have hw : ∀ r, r ∈ (a.rows.map fun r => pick a.vars r l) → r.length = l.length := fun r hr => by
    obtain ⟨q, _, rfl⟩ := List.mem_map.1 hr
    exact pick_len _ _ _
  have hk : ∀ r, r ∈ (a.rows.map fun r => pick a.vars r l) → ∀ x, x ∈ r → okW x := fun r hr x hx => by
    obtain ⟨q, hq, rfl⟩ := List.mem_map.1 hr
    exact ha.ok q hq x (pick_mem hs (ha.row q hq) hx)
  have hl : l.length ≤ 8 := Nat.le_trans (nodup_le l a.vars hn hs) ha.len
  refine ⟨madeT cf l (a.rows.map fun r => pick a.vars r l), ?_, made_good hO hn hl hw hk, made_vars_up hu, fun r => by rw [made_rows_up hO hu hw hk, List.mem_map]⟩
  unfold projectT
  rw [if_neg (by rw [ha.check]; simp), if_neg (fun h => h.elim (fun h => h hn) (fun h => h hs))]
include hb
open Classical in
theorem antiT_good : ∃ n, antiT cf a b = (0, n) ∧ Good cf n ∧ n.vars = a.vars ∧ ∀ r, r ∈ n.rows ↔ r ∈ a.rows ∧ ∀ y, y ∈ b.rows → ¬ ∀ s, s ∈ a.vars → s ∈ b.vars → val b.vars y s = val a.vars r s := by
  obtain ⟨g, v, m⟩ := sub_made hO ha (rs := antiRows a b) (fun r hr => (List.mem_filter.1 hr).1)
  refine ⟨_, ?_, g, v, fun r => ?_⟩
  · unfold antiT
    rw [if_neg (by rw [ha.both hb]; simp)]
  · rw [m]
    unfold antiRows
    rw [List.mem_filter, decide_eq_true_iff]
    constructor
    · rintro ⟨h1, h2⟩
      refine ⟨h1, fun y hy hf => h2 y hy (pick_eq.2 fun s hs => hf s (sharedL_mem.1 hs).1 (sharedL_mem.1 hs).2)⟩
    · rintro ⟨h1, h2⟩
      refine ⟨h1, fun y hy he => h2 y hy fun s p q => pick_eq.1 he s (sharedL_mem.2 ⟨p, q⟩)⟩
/-- what Minus tells of tables of like names -/
theorem minusT_like (hv : a.vars = b.vars) : ∃ m, minusT cf a b = (0, m) ∧ antiT cf a b = (0, m) ∧ Good cf m ∧ m.vars = a.vars ∧ ∀ r, r ∈ m.rows ↔ r ∈ a.rows ∧ r ∉ b.rows := by
  obtain ⟨g, v, m⟩ := sub_made hO ha (rs := antiRows a b) (fun r hr => (List.mem_filter.1 hr).1)
  have e : antiT cf a b = (0, madeT cf a.vars (antiRows a b)) := by
    unfold antiT
    rw [if_neg (by rw [ha.both hb]; simp)]
  refine ⟨_, ?_, e, g, v, fun r => ?_⟩
  · unfold minusT
    rw [if_neg (by rw [ha.both hb]; simp), if_neg (by simp [hv])]
    exact e
  · rw [m, anti_minus hv ha.nd ha.row hb.row, List.mem_filter]
    simp [hasB]
omit hO in
theorem minusT_unlike (hv : a.vars ≠ b.vars) : minusT cf a b = (30, tNone) := by
  unfold minusT
  rw [if_neg (by rw [ha.both hb]; simp), if_pos hv]
/-- what fits and what does not are the whole -/
theorem apart_whole (h8 : (allN a b).length ≤ 8) : ∃ n p d, antiT cf a b = (0, n) ∧ projectT cf (joinTab cf a b) a.vars = (0, p) ∧ minusT cf a p = (0, d) ∧ unionT cf d p = (0, a) ∧ d = n ∧ Good cf p ∧ p.vars = a.vars ∧ (∀ r, r ∈ p.rows → r ∈ a.rows) ∧ Good cf d ∧ d.vars = a.vars ∧ ∀ r, r ∈ d.rows → r ∈ a.rows := by
  have gj := join_good ha hb hO h8
  obtain ⟨n, en, gn, vn, rn⟩ := antiT_good hO ha hb
  obtain ⟨p, ep, gp, vp, rp⟩ := projectT_good hO gj ha.up (fun s hs => join_vars.2 (.inl hs))
  obtain ⟨d, ed, _, gd, vd, rd⟩ := minusT_like hO ha gp vp.symm
  have hpa : ∀ r, r ∈ p.rows → r ∈ a.rows := fun r hr => by
    obtain ⟨z, hz, rfl⟩ := (rp r).1 hr
    exact ((join_mem ha hb hO).1 hz).2.1
  have hpf : ∀ r, r ∈ a.rows → (r ∈ p.rows ↔ ∃ y, y ∈ b.rows ∧ ∀ s, s ∈ a.vars → s ∈ b.vars → val b.vars y s = val a.vars r s) := fun r hr => by
    rw [rp]
    constructor
    · rintro ⟨z, hz, rfl⟩
      obtain ⟨_, _, h3⟩ := (join_mem ha hb hO).1 hz
      exact ⟨_, h3, fun s p q => by rw [val_pick hb.nd q, val_pick ha.nd p]⟩
    · rintro ⟨y, hy, hf⟩
      obtain ⟨e1, _⟩ := join_row ha hb hr hy hf
      refine ⟨pick (allN a b) (r ++ pick b.vars y (leftL b.vars a.vars)) (sortS (allN a b)), (made_rows hO (fun r hr => (joinRows_ok ha hb r hr).1) (fun r hr => (joinRows_ok ha hb r hr).2)).2 ⟨_, joinRows_iff.2 ⟨r, y, hr, hy, hf, rfl⟩, rfl⟩, ?_⟩
      show pick (sortS (allN a b)) _ _ = r
      rw [pick_pick ((sortS_perm _).nodup_iff.2 (allN_nodup ha hb)) (fun s hs => (sortS_perm _).mem_iff.2 (allN_mem.2 (.inl hs))), e1]
  have hdn : d = n := good_ext hO gd gn (fun s => by rw [vd, vn]) fun r => by
    rw [rd, rn]
    constructor
    · rintro ⟨h1, h2⟩
      exact ⟨h1, fun y hy hf => h2 ((hpf r h1).2 ⟨y, hy, hf⟩)⟩
    · rintro ⟨h1, h2⟩
      exact ⟨h1, fun h => by
        obtain ⟨y, hy, hf⟩ := (hpf r h1).1 h
        exact h2 y hy hf⟩
  have hda : ∀ r, r ∈ d.rows → r ∈ a.rows := fun r hr => ((rd r).1 hr).1
  obtain ⟨u, eu, gu, vu, ru⟩ := unionT_like hO gd gp (vd.trans vp.symm)
  have hua : u = a := good_ext hO gu ha (fun s => by rw [vu, vd]) fun r => by
    rw [ru]
    constructor
    · rintro (h | h)
      · exact hda r h
      · exact hpa r h
    · intro h
      by_cases hp : r ∈ p.rows
      · exact .inr hp
      · exact .inl ((rd r).2 ⟨h, hp⟩)
  exact ⟨n, p, d, en, ep, ed, hua ▸ eu, hdn, gp, vp, hpa, gd, vd, hda⟩

omit hb in
theorem rows_nodup : a.rows.Nodup := by
  refine List.Pairwise.imp_of_mem (fun {x y} hx _ hxy e => ?_) ha.rise
  subst e
  have := rcmp_self hO x (ha.ok x hx)
  unfold rlt at hxy
  omega
theorem joinRows_nodup : (joinRows a b).Nodup := by
  unfold joinRows
  have hn := rows_nodup hO ha
  have hm := rows_nodup hO hb
  have hlen : ∀ {x y : Row} {A B : Row}, x.length = y.length → x ++ A = y ++ B → x = y ∧ A = B := fun h e => List.append_inj e h
  refine List.pairwise_flatMap.2 ⟨fun x hx => ?_, ?_⟩
  · rw [List.pairwise_map]
    refine List.Pairwise.imp_of_mem (fun {y z} hy hz hne e => hne ?_) (hm.sublist (List.filter_sublist (p := fun y => rowsFit a.vars x b.vars y)))
    obtain ⟨hy1, hy2⟩ := List.mem_filter.1 hy
    obtain ⟨hz1, hz2⟩ := List.mem_filter.1 hz
    have e2 := (hlen rfl e).2
    refine row_ext hb.nd (hb.row y hy1) (hb.row z hz1) fun s hs => ?_
    by_cases h : s ∈ a.vars
    · have f1 := fits_iff.1 hy2 s h hs
      have f2 := fits_iff.1 hz2 s h hs
      unfold val
      rw [f1, f2]
    · exact pick_eq.1 e2 s (leftL_mem.2 ⟨hs, h⟩)
  · refine List.Pairwise.imp_of_mem (fun {x y} hx hy hne => ?_) hn
    intro p hp q hq e
    obtain ⟨y1, _, rfl⟩ := List.mem_map.1 hp
    obtain ⟨y2, _, rfl⟩ := List.mem_map.1 hq
    exact hne (hlen (by rw [ha.row x hx, ha.row y hy]) e).1
/-- of each two rows that fit there is one row -/
theorem join_count : (joinTab cf a b).rows.length = (joinRows a b).length := by
  have hL := allN_nodup ha hb
  have hp := sortS_perm (allN a b)
  show (canon cf _).length = _
  rw [canon_len hO, List.length_map]
  · show List.Pairwise _ _
    rw [List.pairwise_map]
    refine List.Pairwise.imp_of_mem (fun {x y} hx hy hne e => hne ?_) (joinRows_nodup hO ha hb)
    exact row_ext hL (joinRows_ok ha hb x hx).1 (joinRows_ok ha hb y hy).1 fun s hs => pick_eq.1 e s (hp.mem_iff.2 hs)
  · intro r hr x hx
    obtain ⟨q, hq, rfl⟩ := List.mem_map.1 hr
    exact (joinRows_ok ha hb q hq).2 x (pick_mem (fun z hz => hp.mem_iff.1 hz) (joinRows_ok ha hb q hq).1 hx)
/-- some row of the first fits each row that is joined -/
theorem join_some {r : Row} (hr : r ∈ (joinTab cf a b).rows) : (a.rows.any fun x => rowsFit (joinTab cf a b).vars r a.vars x) = true := by
  obtain ⟨_, h2, _⟩ := (join_mem ha hb hO).1 hr
  rw [List.any_eq_true]
  refine ⟨_, h2, fits_iff.2 fun s _ hs => ?_⟩
  exact val_pick ha.nd hs
end
end Go.Proofs.YtikodapgceokhaaGreat
