/-
  The document's all, Fits.
-/
import Derived.Test.YtikodapgceokhaaGreatSe1
import Derived.Test.YtikodapgceokhaaGreatJoin
import Derived.Test.YtikodapgceokhaaGreatRsr
namespace Go.Proofs.YtikodapgceokhaaGreat
open Go.RowKit

open Classical in
/-- do two rows fit? -/
noncomputable def rowsFit (l : List BA) (x : Row) (m : List BA) (y : Row) : Bool := decide (pick m y (sharedL l m) = pick l x (sharedL l m))
open Classical in
theorem fits_iff {l m : List BA} {x y : Row} : rowsFit l x m y = true ↔ ∀ s, s ∈ l → s ∈ m → y.getD (idx m s).toNat default = x.getD (idx l s).toNat default := by
  unfold rowsFit
  rw [decide_eq_true_iff]
  unfold pick
  rw [List.map_inj_left]
  exact ⟨fun h s h1 h2 => h s (sharedL_mem.2 ⟨h1, h2⟩), fun h s hs => h s (sharedL_mem.1 hs).1 (sharedL_mem.1 hs).2⟩
theorem at_getD {r : Row} {j : Nat} {v : V} (h : r[j]? = some v) : r.getD j default = v := by
  rw [List.getD_eq_getElem?_getD, h]; rfl

set_option maxRecDepth 100000 in
set_option maxHeartbeats 2000000 in
theorem rfits46 {w : World} {v1 v2 v3 v4 : Value} {l m : List BA} {x y : Row} (h1 : RdStr w v1 l) (h2 : RdRow w v2 x) (h3 : RdStr w v3 m) (h4 : RdRow w v4 y) (hn : l.Nodup) (hx : x.length = l.length) (hy : y.length = m.length) (hl : l.length ≤ 8000000000000000000) (hm : m.length ≤ 8000000000000000000) :
    Calls Tryz.prog 46 #[v1, v2, v3, v4] w fun e w' => e = .returned (.bool (rowsFit l x m y)) ∧ w.Fr w' [] := by
  obtain ⟨a1, c1, rfl, _, _⟩ := h1.rd.shape
  obtain ⟨a2, c2, rfl, _, _⟩ := h2.rd.shape
  obtain ⟨a3, c3, rfl, _, _⟩ := h3.rd.shape
  obtain ⟨a4, c4, rfl, _, _⟩ := h4.rd.shape
  have hself := fun (i : Nat) (hi : i < l.length) => idx_self hn i hi
  have H1 := Lib.hid h1; have H2 := Lib.hid h2; have H3 := Lib.hid h3; have H4 := Lib.hid h4; have Hl := Lib.hid hl; have Hm := Lib.hid hm; have Hx := Lib.hid hx; have Hy := Lib.hid hy; have Hself := Lib.hid hself
  clear h1 h2 h3 h4 hl hm hx hy hn hself
  generalize hR : rowsFit l x m y = R
  have HR := Lib.hid hR; clear hR
  generalize hxl : x.length = xl at *
  generalize hyl : y.length = yl at *
  have Hxl := Lib.hid hxl; have Hyl := Lib.hid hyl; clear hxl hyl
  go_enter Tryz.func46, Tryz.ntmps46
  go_wp2
  go_loopw [9] (fun i wr => ∃ j : Nat, i = .int .i64 j ∧ j ≤ l.length ∧ Hid (∀ s, s ∈ l.take j → s ∈ m → y.getD (idx m s).toNat default = x.getD (idx l s).toNat default) ∧ Hid (w.Fr wr [])) (fun i _ => (l.length - intOf i).toNat)
  case atStart => exact ⟨0, rfl, Nat.zero_le _, Lib.hid (by simp), Lib.hid (World.Fr.refl w [])⟩
  case round =>
    obtain ⟨j, rfl, hj, HA, HF⟩ := hrel
    by_cases hlt : j < l.length
    · obtain ⟨s, hs⟩ : ∃ s, l[j]? = some s := ⟨l[j], List.getElem?_eq_getElem (by omega)⟩
      obtain ⟨g, off, c, hv, hg, kx⟩ := (H1.out.fr HF.out (by simp)).at hs
      cases hv
      have hrI : (j : Int) < (l.length : Int) := by omega
      have hw1 : IntKind.i64.wrap ((j : Int) + 1) = (j : Int) + 1 := IntWalk.i64_in _ (by have := Hl.out; omega)
      have hnn : (0 : Int) ≤ (j : Int) := by omega
      have hij : idx l s = j := by have := Hself.out j hlt; rw [(List.getElem?_eq_some_iff.1 hs).2] at this; exact this
      have hc := rfind81 s (H3.out.fr HF.out (by simp)) Hm.out
      have him := idx_mem (l := m) (x := s)
      have hpr := idx_range m s
      have hsn : l.take (j + 1) = l.take j ++ [s] := by
        rw [List.take_succ_eq_append_getElem hlt, (List.getElem?_eq_some_iff.1 hs).2]
      have hsm := List.mem_of_getElem? hs
      have hstep : ∀ (P : BA → Prop), (∀ z, z ∈ l.take j → P z) → P s → ∀ z, z ∈ l.take (j + 1) → P z := fun P hp hq z hz => by
        rw [hsn] at hz
        rcases List.mem_append.1 hz with h | h
        · exact hp z h
        · simp at h; subst h; exact hq
      generalize hix : idx m s = ix at *
      have Hc := Lib.hid hc; have Him := Lib.hid him; have Hpr := Lib.hid hpr; have Hstep := Lib.hid hstep; have Hix := Lib.hid hix; have Hij := Lib.hid hij; have Hsm := Lib.hid hsm
      clear hc him hpr hsn hstep hix hij hs hsm
      go_wp2_with fail
      (with_reducible refine Hc.out.mono ?_)
      rintro e w9 ⟨rfl, rfl⟩
      clear Hc
      by_cases hi : 0 ≤ ix
      · have hd : decide ((0 : Int) ≤ ix) = true := decide_eq_true hi
        obtain ⟨p, rfl⟩ : ∃ p : Nat, ix = p := ⟨ix.toNat, by omega⟩
        have hpN : p < m.length := by have := Hpr.out; omega
        have hpI : (p : Int) < (yl : Int) := by have := Hy.out; omega
        have hjX : (j : Int) < (xl : Int) := by have := Hx.out; omega
        have hpn : (0 : Int) ≤ (p : Int) := by omega
        obtain ⟨u, hu⟩ : ∃ u, x[j]? = some u := ⟨x[j]'(by have := Hxl.out; have := Hx.out; omega), List.getElem?_eq_getElem _⟩
        obtain ⟨z, hz⟩ : ∃ z, y[p]? = some z := ⟨y[p]'(by have := Hyl.out; have := Hy.out; omega), List.getElem?_eq_getElem _⟩
        have h2' := H2.out.fr HF.out (by simp)
        have h4' := H4.out.fr HF.out (by simp)
        obtain ⟨g2, off2, c2', hv2, hg2, ku0, ku1, ku2, ku3⟩ := h2'.at hu
        obtain ⟨g4, off4, c4', hv4, hg4, kz0, kz1, kz2, kz3⟩ := h4'.at hz
        rw [Hxl.out] at hv2
        rw [Hyl.out] at hv4
        cases hv2; cases hv4
        have hgu := at_getD hu
        have hgz := at_getD hz
        have Hgu := Lib.hid hgu; have Hgz := Lib.hid hgz
        clear hu hz h2' h4' hgu hgz hi hpN kx hg
        go_wp2
        go_still_tail 8, (by kernel_rfl)
        change wpList _ _ _ _ _ wr.drew
        go_wp2_with fail
        (with_reducible refine (rsame87 u z _).mono ?_)
        rintro e w2 ⟨rfl, hf2⟩
        have HF2 := Lib.hid (HF.out.drew.trans hf2.fr (by simp)); clear hf2 ku0 ku1 ku2 ku3 kz0 kz1 kz2 kz3
        by_cases huz : u = z
        · subst huz
          rw [eqB_true rfl]
          have hA2 := Hstep.out (fun s => s ∈ m → y.getD (idx m s).toNat default = x.getD (idx l s).toNat default) HA.out (fun _ => by rw [Hix.out, Hij.out, Int.toNat_natCast, Int.toNat_natCast, Hgu.out, Hgz.out])
          have HA2 := Lib.hid hA2; clear hA2
          go_wp2
          go_roundw
          case rel => exact ⟨j + 1, by go_num, by omega, HA2, HF2⟩
          case measure => simp [intOf]; omega
        · have hres : R = false := by
            rw [← HR.out]
            cases hf : rowsFit l x m y with
            | false => rfl
            | true =>
              have := fits_iff.1 hf s Hsm.out (Him.out.1 (by omega))
              rw [Hix.out, Hij.out, Int.toNat_natCast, Int.toNat_natCast, Hgu.out, Hgz.out] at this
              exact absurd this.symm huz
          subst hres
          rw [eqB_false huz]
          clear huz HR HA
          go_wp2
          go_ret
          exact ⟨rfl, HF2.out⟩
      · have hd : decide ((0 : Int) ≤ ix) = false := decide_eq_false hi
        have hA2 := Hstep.out (fun s => s ∈ m → y.getD (idx m s).toNat default = x.getD (idx l s).toNat default) HA.out (fun hm => absurd (Him.out.2 hm) hi)
        have HA2 := Lib.hid hA2; clear hA2 hi
        go_wp2
        go_roundw
        case rel => exact ⟨j + 1, by go_num, by omega, HA2, HF⟩
        case measure => simp [intOf]; omega
    · have hd : decide ((j : Int) < (l.length : Int)) = false := decide_eq_false (by omega)
      have hd2 : decide (j < l.length) = false := decide_eq_false hlt
      obtain rfl : j = l.length := by omega
      have hA := HA.out
      rw [List.take_of_length_le (Nat.le_refl _)] at hA
      have hres : R = true := by rw [← HR.out]; exact fits_iff.2 hA
      subst hres
      clear HA hA hlt hj HR
      go_wp2
      go_ret
      exact ⟨rfl, HF.out⟩

set_option maxRecDepth 100000 in
set_option maxHeartbeats 2000000 in
theorem rall75 {w : World} {v1 v2 : Value} {a b : List BA} (h1 : RdStr w v1 a) (h2 : RdStr w v2 b) (ha : a.length ≤ 8) (hb : b.length ≤ 8) :
    Calls Tryz.prog 75 #[v1, v2] w fun e w' => ∃ v, e = .returned v ∧ Own w w' 9 v ((a ++ leftL b a).map Value.string) := by
  obtain ⟨a1, c1, rfl, _, _⟩ := h1.rd.shape
  obtain ⟨a2, c2, rfl, _, _⟩ := h2.rd.shape
  have H1 := Lib.hid h1; have H2 := Lib.hid h2; have Ha := Lib.hid ha; have Hb := Lib.hid hb
  clear h1 h2 ha hb
  have ha8 : a.length ≤ 8 := Ha.out
  obtain ⟨i0, hi0, hz0, hz1, hz2⟩ := info_parts infoS
  go_enter Tryz.func75, Tryz.ntmps75
  go_wp2_with (at_builtin; refine wpList_append_src _ rfl (.tmp 8) (.tmp 9) 22 rfl 9 i0 (.string .empty) 1 16 Tryz.underlying22 hi0 hz0 hz1 hz2 rfl (.slice none 0 0) 0 [] rfl (World.Sl.nil _ _ _) (.slice a1 a.length c1) a.length (a.map Value.string) rfl H1.out.rd (one_strings a) ⟨by omega, by omega⟩ ?_)
  intro v' w5 hs5 hf5 hb5
  obtain ⟨a6, c6, rfl, _, _⟩ := hs5.shape
  try simp only [Nat.zero_add, List.nil_append] at hs5
  try simp only [Nat.zero_add]
  have hown : Own w w5 9 (.slice a6 a.length c6) (a.map Value.string) := ⟨by rw [List.length_map]; exact hs5, fun k hk => by
    rcases hb5 k hk with h | h
    · simp [Value.blk] at h
    · omega, by simpa [Value.blk] using hf5⟩
  have HO0 : Hid (Own w w5 9 (.slice a6 a.length c6) ((a ++ leftL (b.take 0) a).map Value.string)) := Lib.hid (by
    have e : leftL (b.take 0) a = [] := rfl
    rw [e, List.append_nil]; exact hown)
  clear hs5 hf5 hb5 hown i0 hi0 hz0 hz1 hz2 ha8
  go_wp2
  go_loopw [5, 6] (fun v i wr => ∃ j : Nat, i = .int .i64 j ∧ j ≤ b.length ∧ Hid (Own w wr 9 v ((a ++ leftL (b.take j) a).map Value.string))) (fun _ i _ => (b.length - intOf i).toNat)
  case atStart => exact ⟨0, rfl, Nat.zero_le _, HO0⟩
  case round =>
    obtain ⟨j, rfl, hj, HO⟩ := hrel
    clear HO0
    obtain ⟨L, hL⟩ : ∃ L, a ++ leftL (b.take j) a = L := ⟨_, rfl⟩
    have hO := HO.out
    rw [hL] at hO
    obtain ⟨ya, yc, rfl⟩ := hO.shape
    rw [List.length_map] at hO ⊢
    have hkl : L.length ≤ 16 := by
      rw [← hL]
      have := List.length_filter_le (fun x => !hasS a x) (b.take j)
      rw [List.length_append]
      have h2 : (b.take j).length ≤ 8 := by rw [List.length_take]; have := Hb.out; omega
      have := Ha.out
      unfold leftL
      omega
    have Hkl := Lib.hid hkl; have HO2 := Lib.hid hO; have HL := Lib.hid hL
    clear HO hO hkl hL
    by_cases hlt : j < b.length
    · obtain ⟨x, hx⟩ : ∃ x, b[j]? = some x := ⟨b[j], List.getElem?_eq_getElem (by omega)⟩
      obtain ⟨g, off, c, hv, hg, kx⟩ := (H2.out.fr HO2.out.fr (by simp)).at hx
      cases hv
      have hrI : (j : Int) < (b.length : Int) := by omega
      have hw1 : IntKind.i64.wrap ((j : Int) + 1) = (j : Int) + 1 := IntWalk.i64_in _ (by have := Hb.out; omega)
      have hc := rfind81 x (H1.out.fr HO2.out.fr (by simp)) (by have := Ha.out; omega)
      have him := idx_mem (l := a) (x := x)
      have hsn : b.take (j + 1) = b.take j ++ [x] := by
        rw [List.take_succ_eq_append_getElem hlt, (List.getElem?_eq_some_iff.1 hx).2]
      generalize hix : idx a x = ix at *
      have Hc := Lib.hid hc; have Him := Lib.hid him; have Hsn := Lib.hid hsn; clear hc him hix hx hsn
      have hnn : (0 : Int) ≤ (j : Int) := by omega
      go_wp2_with fail
      (with_reducible refine Hc.out.mono ?_)
      rintro e w9 ⟨rfl, rfl⟩
      clear Hc
      by_cases hi : ix < 0
      · have hd : decide (ix < (0 : Int)) = true := decide_eq_true hi
        have hxn : x ∉ a := fun h => by have := Him.out.2 h; omega
        have hnew : a ++ leftL (b.take (j + 1)) a = L ++ [x] := by
          rw [← HL.out, Hsn.out]; unfold leftL; rw [List.filter_append]; simp [hasS, hxn]
        have Hnew := Lib.hid hnew
        clear hi hxn hnew
        have hroom : L.length ≤ 16 := Hkl.out
        have hsl := HO2.out.sl
        rw [List.length_map] at hsl
        have Hsl := Lib.hid hsl; clear hsl
        have hgl : g < wr.heap.size + 1 := by omega
        obtain ⟨i0, hi0, hz0, hz1, hz2⟩ := info_parts infoS
        go_wp2_with (at_builtin; refine wpList_append_one _ rfl (.tmp 25) (.tmp 30) 22 rfl 9 i0 (.string .empty) 1 16 Tryz.underlying22 hi0 hz0 hz1 hz2 rfl (.slice ya L.length yc) L.length (L.map Value.string) rfl (Hsl.out.alloc _) wr.heap.size 1 [.string x] 9 rfl (heap_alloc_at _ _ _ rfl) rfl rfl ⟨by omega, by omega⟩ ?_)
        intro g3 off3 c3 w5 hsl3 hfr3 hat hlt3
        have hown := (HO2.out.still ((World.Fr.refl wr []).alloc (.cells #[.string x] 9))).appended (x := .string x) (g := g3) (off := off3) (c := c3) (by rw [List.length_map]; exact hsl3) hfr3 (by simpa using hat)
        rw [List.length_map] at hown
        have hmap : L.map Value.string ++ [.string x] = (L ++ [x]).map Value.string := by simp
        rw [hmap, ← Hnew.out] at hown
        have Hown := Lib.hid hown; clear hown hsl3 hfr3 hat kx hlt3 hmap i0 hi0 hz0 hz1 hz2
        go_wp2
        go_roundw
        case rel => exact ⟨j + 1, by go_num, by omega, Hown⟩
        case measure => simp [intOf]; omega
      · have hd : decide (ix < (0 : Int)) = false := decide_eq_false hi
        have hxi : x ∈ a := Him.out.1 (by omega)
        have hnew : leftL (b.take (j + 1)) a = leftL (b.take j) a := by
          rw [Hsn.out]; unfold leftL; rw [List.filter_append]; simp [hasS, hxi]
        have Hnew := Lib.hid hnew
        clear hi hxi hnew
        go_wp2
        go_roundw
        case rel => exact ⟨j + 1, by go_num, by omega, by rw [Hnew.out, HL.out]; exact HO2⟩
        case measure => simp [intOf]; omega
    · have hd : decide ((j : Int) < (b.length : Int)) = false := decide_eq_false (by omega)
      have hd2 : decide (j < b.length) = false := decide_eq_false hlt
      obtain rfl : j = b.length := by omega
      have hLb := HL.out
      rw [List.take_of_length_le (Nat.le_refl _)] at hLb
      have HLb := Lib.hid hLb
      clear hlt hj Hkl hLb
      go_wp2
      go_ret
      refine ⟨_, rfl, ?_⟩
      rw [HLb.out]
      exact HO2.out
end Go.Proofs.YtikodapgceokhaaGreat
