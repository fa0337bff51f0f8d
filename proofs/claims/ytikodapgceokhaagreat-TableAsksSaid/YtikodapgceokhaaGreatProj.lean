/-
  The walk of table.Project.
-/
import Derived.Test.YtikodapgceokhaaGreatCols2
namespace Go.Proofs.YtikodapgceokhaaGreat
open Go.RowKit

theorem rowsCheck_zero {cf : V → V → Int} {n : Nat} : ∀ (rs : List Row) (p : Option Row), rowsCheck cf n p rs = 0 → (∀ r, r ∈ rs → rowCheck n r = 0) ∧ (∀ q r, p = some q → rs.head? = some r → rcmp cf q r < 0) ∧ ∀ (i : Nat) (a b : Row), rs[i]? = some a → rs[i + 1]? = some b → rcmp cf a b < 0
  | [], _, _ => by simp
  | r :: rs, p, h => by
    have h0 : rowCheck n r = 0 := by
      by_cases hr : rowCheck n r = 0
      · exact hr
      · simp only [rowsCheck, hr, if_false] at h
    simp only [rowsCheck, h0, if_true] at h
    have hup : (∀ q, p = some q → rcmp cf q r < 0) ∧ rowsCheck cf n (some r) rs = 0 := by
      cases p with
      | none => simp only [Bool.false_eq_true, if_false] at h; exact ⟨by simp, h⟩
      | some q =>
        by_cases hq : 0 ≤ rcmp cf q r
        · simp [hq] at h
        · simp [hq] at h
          exact ⟨fun q' e => by cases e; omega, h⟩
    obtain ⟨a1, a2, a3⟩ := rowsCheck_zero rs (some r) hup.2
    refine ⟨fun x hx => ?_, fun q x hq hx => ?_, fun i a b ha hb => ?_⟩
    · rcases List.mem_cons.1 hx with rfl | hx
      · exact h0
      · exact a1 x hx
    · subst hq
      simp at hx
      subst hx
      exact hup.1 q rfl
    · cases i with
      | zero =>
        simp at ha
        subst ha
        exact a2 r b rfl (by rw [List.head?_eq_getElem?]; simpa using hb)
      | succ i => exact a3 i a b (by simpa using ha) (by simpa using hb)
theorem tcheck_zero {cf : V → V → Int} {t : Tb} (h : tcheck cf t = 0) : t.vars.length ≤ 8 ∧ (t.vars.Pairwise fun a b => ltS a b = true) ∧ (∀ r, r ∈ t.rows → r.length = t.vars.length ∧ ∀ x, x ∈ r → vcheck x = 0) ∧ ∀ (i : Nat) (a b : Row), t.rows[i]? = some a → t.rows[i + 1]? = some b → rcmp cf a b < 0 := by
  unfold tcheck at h
  split at h
  · cases h
  · rename_i h8
    split at h
    · rename_i hr
      obtain ⟨a1, _, a3⟩ := rowsCheck_zero _ _ h
      refine ⟨by omega, pair_of_rises _ (by unfold risesB at hr; simpa using hr), fun r hr => rowCheck_zero (a1 r hr), a3⟩
    · cases h
theorem nodup_le' {α : Type} [DecidableEq α] : ∀ (l m : List α), l.Nodup → (∀ x, x ∈ l → x ∈ m) → l.length ≤ m.length
  | [], _, _, _ => Nat.zero_le _
  | a :: t, m, hn, hs => by
    obtain ⟨h1, h2⟩ := List.nodup_cons.1 hn
    have ha := hs a (by simp)
    have ih := nodup_le' t (m.erase a) h2 (fun x hx => (List.mem_erase_of_ne (fun e => h1 (by rw [← e]; exact hx))).2 (hs x (by simp [hx])))
    have := List.length_erase_of_mem ha
    have := List.length_pos_of_mem ha
    simp only [List.length_cons]
    omega
theorem nodup_le (l m : List BA) (h1 : l.Nodup) (h2 : ∀ x, x ∈ l → x ∈ m) : l.length ≤ m.length := by classical exact nodup_le' l m h1 h2
theorem pair_all {okv : V → Prop} {cf : V → V → Int} (hO : OrdOk okv cf) : ∀ (rs : List Row), (∀ r, r ∈ rs → ∀ x, x ∈ r → okv x) → (∀ (i : Nat) (a b : Row), rs[i]? = some a → rs[i + 1]? = some b → rcmp cf a b < 0) → rs.Pairwise (rlt cf)
  | [], _, _ => List.Pairwise.nil
  | [a], _, _ => by simp
  | a :: b :: t, ho, h => by
    have ih := pair_all hO (b :: t) (fun r hr => ho r (by simp only [List.mem_cons] at hr ⊢; exact .inr hr)) (fun i x y hx hy => h (i + 1) x y (by simpa using hx) (by simpa using hy))
    have h0 := h 0 a b rfl rfl
    refine List.pairwise_cons.2 ⟨fun c hc => ?_, ih⟩
    rcases List.mem_cons.1 hc with rfl | hc
    · exact h0
    · exact rcmp_trans hO a b c (ho a (by simp)) (ho b (by simp)) (ho c (by simp [hc])) h0 ((List.pairwise_cons.1 ih).1 c hc)

abbrev tNone : Tb := ⟨[], []⟩
open Classical in
/-- what Project answers -/
noncomputable def projectT (cf : V → V → Int) (t : Tb) (want : List BA) : Int × Tb :=
  if tcheck cf t ≠ 0 then (tcheck cf t, tNone) else if ¬ want.Nodup ∨ ¬ (∀ x, x ∈ want → x ∈ t.vars) then (30, tNone) else (0, madeT cf want (t.rows.map fun r => pick t.vars r want))

theorem no_places {l want : List BA} : hasI (want.map (idx l)) (-1) = false ↔ ∀ x, x ∈ want → x ∈ l := by
  constructor
  · intro h x hx
    rw [← idx_mem]
    have h1 := idx_range l x
    by_cases h2 : idx l x = -1
    · have : (-1 : Int) ∈ want.map (idx l) := by rw [← h2]; exact List.mem_map_of_mem hx
      rw [hasI_iff.2 this] at h; cases h
    · omega
  · intro h
    cases hb : hasI (want.map (idx l)) (-1) with
    | false => rfl
    | true =>
      obtain ⟨x, hx, he⟩ := List.mem_map.1 (hasI_iff.1 hb)
      have := idx_mem.2 (h x hx)
      omega

/-- the bounds of tables and of lists of names in this work -/
structure Fits (okc : V → Prop) (t : Tb) : Prop where
  small : Small t
  rows : t.rows.length ≤ 5864062014634
  ok : TabOf okc t
open Classical in
set_option maxRecDepth 100000 in
set_option maxHeartbeats 4000000 in
theorem project35 {okc : V → Prop} {cf : V → V → Int} (hK : Ctx okc cf) {w : World} {v1 v2 : Value} {t : Tb} {want : List BA} (h1 : RdTab w v1 t) (h2 : RdStr w v2 want) (ht : Fits okc t) (hl : want.length ≤ 8796093021952) :
    Calls Tryz.prog 35 #[v1, v2] w fun e w' => ∃ v, e = .returned (.tuple #[v, .int .i64 (projectT cf t want).1]) ∧ OwnTab w w' v (projectT cf t want).2 := by
  have hchk := fun w' (hf : w.Fr w' []) => check15' hK.known (h1.still hf) ht.ok ht.small
  have hcol := fun w' (hf : w.Fr w' []) => columns83 (want := want) hK (h1.still hf) (h2.fr hf (by simp))
  obtain ⟨x1, y1, hs1, rfl, hv1, hr1⟩ := h1.ex
  obtain ⟨a1, c1, rfl, _, _⟩ := hv1.rd.shape
  obtain ⟨a2, c2, rfl, _, _⟩ := h2.rd.shape
  obtain ⟨a3, c3, rfl, _, _⟩ := hr1.rd.shape
  have hlen := hr1.len
  generalize hR : projectT cf t want = R
  rw [hlen] at hr1 hchk hcol ⊢
  clear hlen h1
  have Hv1 := Lib.hid hv1; have H2 := Lib.hid h2; have Hr1 := Lib.hid hr1; have Hl := Lib.hid hl; have Ht := Lib.hid ht; have HK := Lib.hid hK; have Hchk := Lib.hid hchk; have Hcol := Lib.hid hcol; have HR := Lib.hid hR; clear h2 hv1 hr1 hl ht hK hchk hcol hR
  go_enter Tryz.func35, Tryz.ntmps35
  go_upto_region 1 with (fail)
  generalize hW : World.alloc (World.alloc w _) _ = W
  have q1 : W.heap[w.heap.size]? = some (.cells #[.slice a1 t.vars.length c1, .slice a3 t.rows.length c3] 25 (0, 0)) := by rw [← hW]; exact heap_alloc_some (heap_alloc_at _ _ _ rfl) _
  have q2 : W.heap[w.heap.size + 1]? = some (.cells #[.slice none 0 0, .slice none 0 0] 25 (0, 0)) := by rw [← hW]; exact heap_alloc_at _ _ _ (by simp)
  have q3 : w.Fr W [] := by rw [← hW]; exact ((World.Fr.refl w []).alloc _).alloc _
  clear hW
  generalize hb1 : w.heap.size = b1 at *
  have Hb1 := Lib.hid hb1; clear hb1
  obtain ⟨p0, p1, pf⟩ := two q1
  have Q1 := Lib.hid q1; have Q2 := Lib.hid q2; have Q3 := Lib.hid q3; clear q1 q2 q3
  go_wp2_with fail
  refine (Hchk.out _ Q3.out).mono ?_
  rintro e w1 ⟨rfl, hf1⟩
  have q1 := hf1.heap Q1.out (by simp)
  have q2 := hf1.heap Q2.out (by simp)
  have q3 := Q3.out.trans hf1 (by simp)
  clear p0 p1 pf Q1 Q2 Q3 hf1
  obtain ⟨p0, p1, pf⟩ := two q1
  obtain ⟨r0, r1, rf⟩ := two q2
  have hlb := lt_of_heap q1
  have hlb2 := lt_of_heap q2
  have Q1 := Lib.hid q1; have Q2 := Lib.hid q2; have Q3 := Lib.hid q3; clear q1 q2 q3
  by_cases h0 : tcheck cf t = 0
  · rw [h0]
    have hres : R = if ¬ want.Nodup ∨ ¬ (∀ x, x ∈ want → x ∈ t.vars) then (30, tNone) else (0, madeT cf want (t.rows.map fun r => pick t.vars r want)) := by rw [← HR.out]; unfold projectT; rw [if_neg (by simp [h0])]
    obtain ⟨k1, k2, k3, k4⟩ := tcheck_zero h0
    have hun := unlike78 (H2.out.fr Q3.out (by simp)) Hl.out
    have Hun := Lib.hid hun; have HR2 := Lib.hid hres; have K1 := Lib.hid k1; have K2 := Lib.hid k2; have K3 := Lib.hid k3
    clear hun hres k1 k2 k3 k4 h0 HR
    go_wp2_with fail
    refine Hun.out.mono ?_
    rintro e w2 ⟨rfl, hf2⟩
    have q1 := hf2.heap Q1.out (by simp)
    have q2 := hf2.heap Q2.out (by simp)
    have q3 := Q3.out.trans hf2 (by simp)
    clear p0 p1 pf r0 r1 rf Q1 Q2 Q3 hf2 Hun hlb hlb2
    obtain ⟨p0, p1, pf⟩ := two q1
    obtain ⟨r0, r1, rf⟩ := two q2
    have hlb := lt_of_heap q1
    have hlb2 := lt_of_heap q2
    have Q1 := Lib.hid q1; have Q2 := Lib.hid q2; have Q3 := Lib.hid q3; clear q1 q2 q3
    cases hu : risesB (sortS want) with
    | false =>
      have hres : R = (30, tNone) := by rw [HR2.out, if_pos (.inl fun h => by rw [(unlike_iff want).2 h] at hu; cases hu)]
      subst hres
      clear HR2
      go_wp2
      have hfin := (OwnTab.empty (w := w) Q3.out).put Q2.out (by have := Hb1.out; omega)
      obtain ⟨f0, f1, _⟩ := two hfin.2
      have Hfin := Lib.hid hfin.1
      clear hfin p0 p1 pf
      refine bodyPost_ret (v := .tuple #[.agg #[.slice none 0 0, .slice none 0 0], .int .i64 30]) (by simp [results, Tryz.results35, go_sem, f0, f1]) rfl ⟨_, rfl, Hfin.out⟩
    | true =>
      have hnd := (unlike_iff want).1 hu
      have hpl := places70 (Hv1.out.fr Q3.out (by simp)) (H2.out.fr Q3.out (by simp)) (by have := K1.out; omega) (by have := Hl.out; omega)
      have Hpl := Lib.hid hpl; have Hnd := Lib.hid hnd; clear hpl hnd hu
      go_wp2_with fail
      refine Hpl.out.mono ?_
      rintro e w3 ⟨vp, rfl, hop⟩
      obtain ⟨pa, pc, rfl⟩ := hop.shape
      have hps := hop.sl
      rw [pcells_icells] at hps hop ⊢
      have hpw : (icells (want.map (idx t.vars))).length = (want.map (idx t.vars)).length := by simp
      rw [hpw] at hps ⊢
      have hct := contains79 (-1) hps (by simp; have := Hl.out; omega)
      have q1 := hop.fr.heap Q1.out (by simp)
      have q2 := hop.fr.heap Q2.out (by simp)
      have q3 := Q3.out.trans hop.fr (by simp)
      rw [List.length_map] at hct
      have Hct := Lib.hid hct
      clear p0 p1 pf r0 r1 rf Q1 Q2 Q3 hop Hpl hps hct hlb hlb2 hpw
      obtain ⟨p0, p1, pf⟩ := two q1
      obtain ⟨r0, r1, rf⟩ := two q2
      have hlb := lt_of_heap q1
      have hlb2 := lt_of_heap q2
      have Q1 := Lib.hid q1; have Q2 := Lib.hid q2; have Q3 := Lib.hid q3; clear q1 q2 q3
      go_wp2_with fail
      refine Hct.out.mono ?_
      rintro e w4 ⟨rfl, rfl⟩
      cases hh : hasI (want.map (idx t.vars)) (-1) with
      | true =>
        have hres : R = (30, tNone) := by
          rw [HR2.out, if_pos (.inr fun h => by rw [no_places.2 h] at hh; cases hh)]
        subst hres
        clear HR2 hh Hct
        go_wp2
        have hfin := (OwnTab.empty (w := w) Q3.out).put Q2.out (by have := Hb1.out; omega)
        obtain ⟨f0, f1, _⟩ := two hfin.2
        have Hfin := Lib.hid hfin.1
        clear hfin p0 p1 pf
        refine bodyPost_ret (v := .tuple #[.agg #[.slice none 0 0, .slice none 0 0], .int .i64 30]) (by simp [results, Tryz.results35, go_sem, f0, f1]) rfl ⟨_, rfl, Hfin.out⟩
      | false =>
        have hin := no_places.1 hh
        have hres : R = (0, madeT cf want (t.rows.map fun r => pick t.vars r want)) := by
          rw [HR2.out, if_neg (fun h => h.elim (fun h => h Hnd.out) (fun h => h hin))]
        subst hres
        have hwl := nodup_le want t.vars Hnd.out hin
        have hc := Hcol.out _ Q3.out K1.out (by have := K1.out; omega) Ht.out.rows (fun r hr => (K3.out r hr).1) (fun r hr x hx => ⟨Ht.out.ok r hr x hx, (K3.out r hr).2 x hx⟩) Hnd.out hin
        have Hc := Lib.hid hc
        clear HR2 hh Hct hin hc hwl
        go_wp2_with fail
        refine Hc.out.mono ?_
        rintro e w5 ⟨v, rfl, ho⟩
        obtain ⟨x1, y1, x2, y2, rfl⟩ := ho.shape
        have hbx := ho.fr.heap Q2.out (by simp)
        have ho2 := (ho.since Q3.out).put hbx (by have := Hb1.out; omega)
        clear p0 p1 pf r0 r1 rf hlb hlb2
        obtain ⟨p0, p1, pf⟩ := two hbx
        have hbW := lt_of_heap hbx
        obtain ⟨f0, f1, _⟩ := two ho2.2
        have Hfin := Lib.hid ho2.1
        clear ho2 ho hbx
        go_wp2
        refine bodyPost_ret (v := .tuple #[.agg #[.slice x1 _ y1, .slice x2 _ y2], .int .i64 0]) (by simp [results, Tryz.results35, go_sem, f0, f1]) rfl ⟨_, rfl, Hfin.out⟩
  · have hres : R = (tcheck cf t, tNone) := by rw [← HR.out]; unfold projectT; rw [if_pos h0]
    have h0b : (tcheck cf t == 0) = false := beq_eq_false_iff_ne.2 h0
    have h0c : (tcheck cf t != 0) = true := by simp [h0]
    clear h0 HR
    generalize tcheck cf t = z at *
    subst hres
    go_wp2
    have hfin := (OwnTab.empty (w := w) Q3.out).put Q2.out (by have := Hb1.out; omega)
    obtain ⟨f0, f1, _⟩ := two hfin.2
    have Hfin := Lib.hid hfin.1
    clear hfin p0 p1 pf
    refine bodyPost_ret (v := .tuple #[.agg #[.slice none 0 0, .slice none 0 0], .int .i64 z]) (by simp [results, Tryz.results35, go_sem, f0, f1]) rfl ⟨_, rfl, Hfin.out⟩
end Go.Proofs.YtikodapgceokhaaGreat
