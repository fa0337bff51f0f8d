/-
  The document's merged: two lists of rows that rise, as one, each row once.
-/
import Derived.Test.YtikodapgceokhaaGreatRm2
import Derived.Test.YtikodapgceokhaaGreatRvs
import Derived.Test.YtikodapgceokhaaGreatAsks
namespace Go.Proofs.YtikodapgceokhaaGreat
open Go.RowKit

/-- two lists of rows as one -/
def mergeP (cf : V → V → Int) : List HR → List HR → List HR
  | [], q => q
  | p, [] => p
  | a :: p, b :: q => if rcmp cf a.2 b.2 < 0 then a :: mergeP cf p (b :: q) else if 0 < rcmp cf a.2 b.2 then b :: mergeP cf (a :: p) q else a :: mergeP cf p q
termination_by p q => p.length + q.length
theorem mergeP_nil (cf : V → V → Int) (q : List HR) : mergeP cf [] q = q := by unfold mergeP; cases q <;> rfl
theorem mergeP_nil2 (cf : V → V → Int) (p : List HR) : mergeP cf p [] = p := by unfold mergeP; cases p <;> rfl
theorem mergeP_cons (cf : V → V → Int) (a b : HR) (p q : List HR) : mergeP cf (a :: p) (b :: q) = if rcmp cf a.2 b.2 < 0 then a :: mergeP cf p (b :: q) else if 0 < rcmp cf a.2 b.2 then b :: mergeP cf (a :: p) q else a :: mergeP cf p q := by
  conv => lhs; unfold mergeP
theorem rdrows_pair {w : World} {v : Value} {p : List HR} (h : RdRows w v (p.map (·.2)) (p.map (·.1))) {i : Nat} {x : HR} (hx : p[i]? = some x) : ∃ g off c ax mx, v = .slice (some ⟨g, off, none⟩) p.length c ∧ g < w.heap.size ∧ w.cell? ⟨g, off + i, none⟩ = some (.slice ax x.2.length mx) ∧ x.1 = .slice ax x.2.length mx ∧ RdRow w (.slice ax x.2.length mx) x.2 := by
  have e1 : (p.map (·.1))[i]? = some x.1 := by rw [List.getElem?_map, hx]; rfl
  have e2 : (p.map (·.2))[i]? = some x.2 := by rw [List.getElem?_map, hx]; rfl
  have hrow := h.row i x.1 x.2 e1 e2
  obtain ⟨ax, mx, hv, _, _⟩ := hrow.rd.shape
  have hi := (List.getElem?_eq_some_iff.1 hx).1
  obtain ⟨g, off, c, hve, _, _, hg, hcell⟩ := h.rd.form (by rw [List.length_map]; omega)
  rw [List.length_map] at hve
  refine ⟨g, off, c, ax, mx, hve, hg, ?_, hv, hv ▸ hrow⟩
  rw [hcell i (by rw [List.length_map, Nat.mul_one]; exact hi), e1, hv]

set_option maxRecDepth 100000 in
set_option maxHeartbeats 8000000 in
theorem rmerged122 {okv : V → Prop} {cf : V → V → Int} (hC : RCmpOk okv cf) {w : World} {v1 v2 : Value} {p q : List HR} (h1 : RdRows w v1 (p.map (·.2)) (p.map (·.1))) (h2 : RdRows w v2 (q.map (·.2)) (q.map (·.1)))
    (ho1 : ∀ x, x ∈ p → (∀ y, y ∈ x.2 → okv y) ∧ x.2.length ≤ 8000000000000000000) (ho2 : ∀ x, x ∈ q → ∀ y, y ∈ x.2 → okv y) (hl : p.length + q.length ≤ 5864062014634) :
    Calls Tryz.prog 122 #[v1, v2] w fun e w' => ∃ u, e = .returned u ∧ w'.Sl 32 1 u (mergeP cf p q).length ((mergeP cf p q).map (·.1)) ∧ (∀ k, k ∈ u.blk → w.heap.size ≤ k) ∧ w.Fr w' [] := by
  obtain ⟨a1, c1, rfl, _, _⟩ := h1.rd.shape
  obtain ⟨a2, c2, rfl, _, _⟩ := h2.rd.shape
  rw [List.length_map] at h1 h2
  rw [List.length_map, List.length_map]
  have H1 := Lib.hid h1; have H2 := Lib.hid h2; have Ho1 := Lib.hid ho1; have Ho2 := Lib.hid ho2; have HC := Lib.hid hC; clear h1 h2 ho1 ho2 hC
  generalize hM : mergeP cf p q = M
  have HM := Lib.hid hM
  have HS0 : Hid (w.Sl 32 1 (.slice none 0 0) 0 (([] : List HR).map (·.1)) ∧ (∀ k, k ∈ (Value.slice none 0 0).blk → w.heap.size ≤ k) ∧ w.Fr w [] ∧ M = [] ++ mergeP cf (p.drop 0) (q.drop 0)) := Lib.hid ⟨World.Sl.nil _ _ _, by simp [Value.blk], World.Fr.refl _ _, hM.symm⟩
  clear hM
  go_enter Tryz.func122, Tryz.ntmps122
  go_wp2
  go_loopw [5, 6, 7] (fun v i k wr => ∃ (m n : Nat) (P : List HR), i = .int .i64 m ∧ k = .int .i64 n ∧ m ≤ p.length ∧ n ≤ q.length ∧ P.length ≤ m + n ∧ Hid (wr.Sl 32 1 v P.length (P.map (·.1)) ∧ (∀ k, k ∈ v.blk → w.heap.size ≤ k) ∧ w.Fr wr [] ∧ M = P ++ mergeP cf (p.drop m) (q.drop n))) (fun _ i k _ => (p.length - intOf i).toNat + (q.length - intOf k).toNat)
  case atStart => exact ⟨0, 0, [], rfl, rfl, Nat.zero_le _, Nat.zero_le _, Nat.zero_le _, HS0⟩
  case round =>
    obtain ⟨m, n, P, rfl, rfl, hm, hn, hP, HS⟩ := hrel
    clear HS0
    obtain ⟨xa, xc, hv, _, _⟩ := HS.out.1.shape
    subst hv
    by_cases hi : m < p.length
    · obtain ⟨x, hx⟩ : ∃ x, p[m]? = some x := ⟨p[m], List.getElem?_eq_getElem hi⟩
      have hxd : p.drop m = x :: p.drop (m + 1) := by rw [List.drop_eq_getElem_cons hi, (List.getElem?_eq_some_iff.1 hx).2]
      obtain ⟨g1, f1, d1, ax, mx, hv1, hg1, kx, ex, hrx⟩ := rdrows_pair (by have := H1.out.still HS.out.2.2.1; exact this) hx
      cases hv1
      have miI : (m : Int) < (p.length : Int) := by omega
      have mib : decide ((m : Int) < (p.length : Int)) = true := decide_eq_true miI
      have meb : ((m : Int) == (p.length : Int)) = false := beq_eq_false_iff_ne.2 (by omega)
      have mw : IntKind.i64.wrap ((m : Int) + 1) = (m : Int) + 1 := IntWalk.i64_in _ (by omega)
      by_cases hk : n < q.length
      · obtain ⟨y, hy⟩ : ∃ y, q[n]? = some y := ⟨q[n], List.getElem?_eq_getElem hk⟩
        have hyd : q.drop n = y :: q.drop (n + 1) := by rw [List.drop_eq_getElem_cons hk, (List.getElem?_eq_some_iff.1 hy).2]
        obtain ⟨g2, f2, d2, ay, my, hv2, hg2, ky, ey, hry⟩ := rdrows_pair (by have := H2.out.still HS.out.2.2.1; exact this) hy
        cases hv2
        have nkI : (n : Int) < (q.length : Int) := by omega
        have nkb : decide ((n : Int) < (q.length : Int)) = true := decide_eq_true nkI
        have nw : IntKind.i64.wrap ((n : Int) + 1) = (n : Int) + 1 := IntWalk.i64_in _ (by omega)
        have hc := fun w' (hd : wr.Fr w' []) => rrow51 HC.out (hrx.fr hd (by simp)) (hry.fr hd (by simp)) (Ho1.out x (List.mem_of_getElem? hx)).1 (Ho2.out y (List.mem_of_getElem? hy)) (Ho1.out x (List.mem_of_getElem? hx)).2
        have hst := mergeP_cons cf x y (p.drop (m + 1)) (q.drop (n + 1))
        rw [← hxd, ← hyd] at hst
        have Hc := Lib.hid hc; have Hst := Lib.hid hst; have Hx := Lib.hid hx; have Hy := Lib.hid hy; have Hex := Lib.hid ex; have Hey := Lib.hid ey
        clear hc hst hx hy hxd hyd ex ey hrx hry
        go_wp2
        go_still_tail 8, (by kernel_rfl)
        change wpList _ _ _ _ _ wr.drew
        go_wp2_with fail
        refine (Hc.out _ ((World.Fr.refl wr []).drew)).mono ?_
        rintro e w2 ⟨rfl, hg⟩
        have hfx : wr.Fr w2 [] := ((World.Fr.refl wr []).drew).trans hg.fr (by simp)
        have kx2 := cellFrA hfx kx
        have ky2 := cellFrA hfx ky
        have hsl2 := HS.out.1.fr hfx (by simp)
        have hfr2 := HS.out.2.2.1.trans hfx (by simp)
        have hg12 : g1 < w2.heap.size := by have := hfx.size; omega
        have hg22 : g2 < w2.heap.size := by have := hfx.size; omega
        have Hsl2 := Lib.hid hsl2; have Hfr2 := Lib.hid hfr2; have Hfx := Lib.hid hfx
        clear hg hfx kx ky hsl2 hfr2 Hc hg1 hg2
        obtain ⟨ih, hih, hh0, hh1, hh2⟩ := info_parts infoH
        generalize rcmp cf x.2 y.2 = z at *
        rcases Int.lt_trichotomy z 0 with hz | hz | hz
        · have z1 : decide (z ≤ 0) = true := decide_eq_true (by omega)
          have z2 : decide (0 ≤ z) = false := decide_eq_false (by omega)
          go_wp2_with (at_builtin; refine wpList_append_one _ rfl (.tmp 38) (.tmp 43) 23 rfl 32 ih (.slice none 0 0) 1 24 Tryz.underlying23 hih hh0 hh1 hh2 rfl (.slice xa P.length xc) P.length (P.map (·.1)) rfl (Hsl2.out.alloc _) w2.heap.size 1 [.slice ax x.2.length mx] 32 rfl (heap_alloc_at _ _ _ rfl) rfl rfl ⟨by omega, by omega⟩ ?_)
          intro g3 off3 c3 w5 hsl3 hfr3 hat hlt3
          have hfin : w5.Sl 32 1 (.slice (some ⟨g3, off3, none⟩) (P.length + 1) c3) (P ++ [x]).length ((P ++ [x]).map (·.1)) ∧ (∀ k, k ∈ (Value.slice (some ⟨g3, off3, none⟩) (P.length + 1) c3).blk → w.heap.size ≤ k) ∧ w.Fr w5 [] ∧ M = (P ++ [x]) ++ mergeP cf (p.drop (m + 1)) (q.drop (n)) := by
            refine ⟨?_, fun k hk => ?_, (Hfr2.out.alloc _).trans hfr3 (fun k hk => .inr (HS.out.2.1 k hk)), ?_⟩
            · rw [List.map_append, List.length_append, List.map_cons, List.map_nil, Hex.out]; exact hsl3
            · simp [Value.blk] at hk
              subst hk
              rcases hat with h | h
              · exact HS.out.2.1 _ h
              · have h0 := Hfr2.out.size; (try simp at h); omega
            · rw [HS.out.2.2.2, Hst.out, if_pos hz]
              simp
          have Hfin := Lib.hid hfin
          clear hfin hsl3 hfr3 hat hlt3 kx2 ky2
          go_wp2
          go_roundw
          case rel => exact ⟨m + 1, n, P ++ [x], by go_num, by go_num, by omega, by omega, by simp; omega, Hfin⟩
          case measure => simp [intOf]; omega
        · have z1 : decide (z ≤ 0) = true := decide_eq_true (by omega)
          have z2 : decide (0 ≤ z) = true := decide_eq_true (by omega)
          go_wp2_with (at_builtin; refine wpList_append_one _ rfl (.tmp 38) (.tmp 43) 23 rfl 32 ih (.slice none 0 0) 1 24 Tryz.underlying23 hih hh0 hh1 hh2 rfl (.slice xa P.length xc) P.length (P.map (·.1)) rfl (Hsl2.out.alloc _) w2.heap.size 1 [.slice ax x.2.length mx] 32 rfl (heap_alloc_at _ _ _ rfl) rfl rfl ⟨by omega, by omega⟩ ?_)
          intro g3 off3 c3 w5 hsl3 hfr3 hat hlt3
          have hfin : w5.Sl 32 1 (.slice (some ⟨g3, off3, none⟩) (P.length + 1) c3) (P ++ [x]).length ((P ++ [x]).map (·.1)) ∧ (∀ k, k ∈ (Value.slice (some ⟨g3, off3, none⟩) (P.length + 1) c3).blk → w.heap.size ≤ k) ∧ w.Fr w5 [] ∧ M = (P ++ [x]) ++ mergeP cf (p.drop (m + 1)) (q.drop (n + 1)) := by
            refine ⟨?_, fun k hk => ?_, (Hfr2.out.alloc _).trans hfr3 (fun k hk => .inr (HS.out.2.1 k hk)), ?_⟩
            · rw [List.map_append, List.length_append, List.map_cons, List.map_nil, Hex.out]; exact hsl3
            · simp [Value.blk] at hk
              subst hk
              rcases hat with h | h
              · exact HS.out.2.1 _ h
              · have h0 := Hfr2.out.size; (try simp at h); omega
            · rw [HS.out.2.2.2, Hst.out, if_neg (by omega), if_neg (by omega)]
              simp
          have Hfin := Lib.hid hfin
          clear hfin hsl3 hfr3 hat hlt3 kx2 ky2
          go_wp2
          go_roundw
          case rel => exact ⟨m + 1, n + 1, P ++ [x], by go_num, by go_num, by omega, by omega, by simp; omega, Hfin⟩
          case measure => simp [intOf]; omega
        · have z1 : decide (z ≤ 0) = false := decide_eq_false (by omega)
          have z2 : decide (0 ≤ z) = true := decide_eq_true (by omega)
          go_wp2_with (at_builtin; refine wpList_append_one _ rfl (.tmp 47) (.tmp 52) 23 rfl 32 ih (.slice none 0 0) 1 24 Tryz.underlying23 hih hh0 hh1 hh2 rfl (.slice xa P.length xc) P.length (P.map (·.1)) rfl (Hsl2.out.alloc _) w2.heap.size 1 [.slice ay y.2.length my] 32 rfl (heap_alloc_at _ _ _ rfl) rfl rfl ⟨by omega, by omega⟩ ?_)
          intro g3 off3 c3 w5 hsl3 hfr3 hat hlt3
          have hfin : w5.Sl 32 1 (.slice (some ⟨g3, off3, none⟩) (P.length + 1) c3) (P ++ [y]).length ((P ++ [y]).map (·.1)) ∧ (∀ k, k ∈ (Value.slice (some ⟨g3, off3, none⟩) (P.length + 1) c3).blk → w.heap.size ≤ k) ∧ w.Fr w5 [] ∧ M = (P ++ [y]) ++ mergeP cf (p.drop (m)) (q.drop (n + 1)) := by
            refine ⟨?_, fun k hk => ?_, (Hfr2.out.alloc _).trans hfr3 (fun k hk => .inr (HS.out.2.1 k hk)), ?_⟩
            · rw [List.map_append, List.length_append, List.map_cons, List.map_nil, Hey.out]; exact hsl3
            · simp [Value.blk] at hk
              subst hk
              rcases hat with h | h
              · exact HS.out.2.1 _ h
              · have h0 := Hfr2.out.size; (try simp at h); omega
            · rw [HS.out.2.2.2, Hst.out, if_neg (by omega), if_pos hz]
              simp
          have Hfin := Lib.hid hfin
          clear hfin hsl3 hfr3 hat hlt3 kx2 ky2
          go_wp2
          go_roundw
          case rel => exact ⟨m, n + 1, P ++ [y], by go_num, by go_num, by omega, by omega, by simp; omega, Hfin⟩
          case measure => simp [intOf]; omega
      · have nkb : decide ((n : Int) < (q.length : Int)) = false := decide_eq_false (by omega)
        have nkb2 : decide (n < q.length) = false := decide_eq_false hk
        have hqd : q.drop n = [] := List.drop_of_length_le (by omega)
        have hst : mergeP cf (p.drop m) (q.drop n) = x :: mergeP cf (p.drop (m + 1)) (q.drop n) := by rw [hqd, mergeP_nil2, mergeP_nil2, hxd]
        have Hst := Lib.hid hst; have Hex := Lib.hid ex
        have Hsl2 := Lib.hid HS.out.1; have Hfr2 := Lib.hid HS.out.2.2.1; have Hfx := Lib.hid (World.Fr.refl wr [])
        have hg12 : g1 < wr.heap.size := hg1
        have kx2 := kx
        clear hst hx hxd ex hrx hqd kx hg1
        obtain ⟨ih, hih, hh0, hh1, hh2⟩ := info_parts infoH
        go_wp2_with (at_builtin; refine wpList_append_one _ rfl (.tmp 38) (.tmp 43) 23 rfl 32 ih (.slice none 0 0) 1 24 Tryz.underlying23 hih hh0 hh1 hh2 rfl (.slice xa P.length xc) P.length (P.map (·.1)) rfl (Hsl2.out.alloc _) wr.heap.size 1 [.slice ax x.2.length mx] 32 rfl (heap_alloc_at _ _ _ rfl) rfl rfl ⟨by omega, by omega⟩ ?_)
        intro g3 off3 c3 w5 hsl3 hfr3 hat hlt3
        have hfin : w5.Sl 32 1 (.slice (some ⟨g3, off3, none⟩) (P.length + 1) c3) (P ++ [x]).length ((P ++ [x]).map (·.1)) ∧ (∀ k, k ∈ (Value.slice (some ⟨g3, off3, none⟩) (P.length + 1) c3).blk → w.heap.size ≤ k) ∧ w.Fr w5 [] ∧ M = (P ++ [x]) ++ mergeP cf (p.drop (m + 1)) (q.drop (n)) := by
          refine ⟨?_, fun k hk => ?_, (Hfr2.out.alloc _).trans hfr3 (fun k hk => .inr (HS.out.2.1 k hk)), ?_⟩
          · rw [List.map_append, List.length_append, List.map_cons, List.map_nil, Hex.out]; exact hsl3
          · simp [Value.blk] at hk
            subst hk
            rcases hat with h | h
            · exact HS.out.2.1 _ h
            · have h0 := Hfr2.out.size; (try simp at h); omega
          · rw [HS.out.2.2.2, Hst.out]
            simp
        have Hfin := Lib.hid hfin
        clear hfin hsl3 hfr3 hat hlt3 kx2
        go_wp2
        go_roundw
        case rel => exact ⟨m + 1, n, P ++ [x], by go_num, by go_num, by omega, by omega, by simp; omega, Hfin⟩
        case measure => simp [intOf]; omega
    · by_cases hk : n < q.length
      · obtain ⟨y, hy⟩ : ∃ y, q[n]? = some y := ⟨q[n], List.getElem?_eq_getElem hk⟩
        have hyd : q.drop n = y :: q.drop (n + 1) := by rw [List.drop_eq_getElem_cons hk, (List.getElem?_eq_some_iff.1 hy).2]
        obtain ⟨g2, f2, d2, ay, my, hv2, hg2, ky, ey, hry⟩ := rdrows_pair (by have := H2.out.still HS.out.2.2.1; exact this) hy
        cases hv2
        have nkI : (n : Int) < (q.length : Int) := by omega
        have nkb : decide ((n : Int) < (q.length : Int)) = true := decide_eq_true nkI
        have nw : IntKind.i64.wrap ((n : Int) + 1) = (n : Int) + 1 := IntWalk.i64_in _ (by omega)
        have mib : decide ((m : Int) < (p.length : Int)) = false := decide_eq_false (by omega)
        have mib2 : decide (m < p.length) = false := decide_eq_false hi
        have meb : ((m : Int) == (p.length : Int)) = true := by rw [beq_iff_eq]; omega
        have hpd : p.drop m = [] := List.drop_of_length_le (by omega)
        have hst : mergeP cf (p.drop m) (q.drop n) = y :: mergeP cf (p.drop m) (q.drop (n + 1)) := by rw [hpd, mergeP_nil, mergeP_nil, hyd]
        have Hst := Lib.hid hst; have Hey := Lib.hid ey
        have Hsl2 := Lib.hid HS.out.1; have Hfr2 := Lib.hid HS.out.2.2.1; have Hfx := Lib.hid (World.Fr.refl wr [])
        have hg22 : g2 < wr.heap.size := hg2
        have ky2 := ky
        clear hst hy hyd ey hry hpd ky hg2
        obtain ⟨ih, hih, hh0, hh1, hh2⟩ := info_parts infoH
        go_wp2_with (at_builtin; refine wpList_append_one _ rfl (.tmp 47) (.tmp 52) 23 rfl 32 ih (.slice none 0 0) 1 24 Tryz.underlying23 hih hh0 hh1 hh2 rfl (.slice xa P.length xc) P.length (P.map (·.1)) rfl (Hsl2.out.alloc _) wr.heap.size 1 [.slice ay y.2.length my] 32 rfl (heap_alloc_at _ _ _ rfl) rfl rfl ⟨by omega, by omega⟩ ?_)
        intro g3 off3 c3 w5 hsl3 hfr3 hat hlt3
        have hfin : w5.Sl 32 1 (.slice (some ⟨g3, off3, none⟩) (P.length + 1) c3) (P ++ [y]).length ((P ++ [y]).map (·.1)) ∧ (∀ k, k ∈ (Value.slice (some ⟨g3, off3, none⟩) (P.length + 1) c3).blk → w.heap.size ≤ k) ∧ w.Fr w5 [] ∧ M = (P ++ [y]) ++ mergeP cf (p.drop (m)) (q.drop (n + 1)) := by
          refine ⟨?_, fun k hk => ?_, (Hfr2.out.alloc _).trans hfr3 (fun k hk => .inr (HS.out.2.1 k hk)), ?_⟩
          · rw [List.map_append, List.length_append, List.map_cons, List.map_nil, Hey.out]; exact hsl3
          · simp [Value.blk] at hk
            subst hk
            rcases hat with h | h
            · exact HS.out.2.1 _ h
            · have h0 := Hfr2.out.size; (try simp at h); omega
          · rw [HS.out.2.2.2, Hst.out]
            simp
        have Hfin := Lib.hid hfin
        clear hfin hsl3 hfr3 hat hlt3 ky2
        go_wp2
        go_roundw
        case rel => exact ⟨m, n + 1, P ++ [y], by go_num, by go_num, by omega, by omega, by simp; omega, Hfin⟩
        case measure => simp [intOf]; omega
      · have mib : decide ((m : Int) < (p.length : Int)) = false := decide_eq_false (by omega)
        have mib2 : decide (m < p.length) = false := decide_eq_false hi
        have nkb : decide ((n : Int) < (q.length : Int)) = false := decide_eq_false (by omega)
        have nkb2 : decide (n < q.length) = false := decide_eq_false hk
        have hend : M = P := by
          have := HS.out.2.2.2
          rw [List.drop_of_length_le (show p.length ≤ m by omega), List.drop_of_length_le (show q.length ≤ n by omega), mergeP_nil, List.append_nil] at this
          exact this
        have hs1 := HS.out.1; have hs2 := HS.out.2.1; have hs3 := HS.out.2.2.1
        rw [← hend] at hs1 hs2 ⊢
        have Hs1 := Lib.hid hs1; have Hs2 := Lib.hid hs2; have Hs3 := Lib.hid hs3
        clear hs1 hs2 hs3 HS hend
        go_wp2
        go_ret
        exact ⟨_, rfl, Hs1.out, Hs2.out, Hs3.out⟩
end Go.Proofs.YtikodapgceokhaaGreat
