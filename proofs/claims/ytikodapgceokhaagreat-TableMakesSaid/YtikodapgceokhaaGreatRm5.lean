/-
  The document's rising: names in order.
-/
import Derived.Test.YtikodapgceokhaaGreatRm4
namespace Go.Proofs.YtikodapgceokhaaGreat
open Go.RowKit

/-- a name put in its place -/
def insS (x : BA) (L : List BA) : List BA := L.takeWhile (fun y => ltS y x) ++ x :: L.dropWhile (fun y => ltS y x)
/-- names in order, as the document makes them -/
def risL (l : List BA) : List BA := l.foldl (fun L x => insS x L) []
theorem risL_succ {l : List BA} {j : Nat} {x : BA} (hx : l[j]? = some x) : risL (l.take (j + 1)) = insS x (risL (l.take j)) := by
  have hj := (List.getElem?_eq_some_iff.1 hx).1
  rw [List.take_succ_eq_append_getElem hj, (List.getElem?_eq_some_iff.1 hx).2]
  unfold risL
  rw [List.foldl_append]
  rfl
theorem insS_at {x : BA} : ∀ (k : Nat) (L : List BA), k ≤ L.length → (∀ i y, i < k → L[i]? = some y → ltS y x = true) → (k = L.length ∨ ∃ y, L[k]? = some y ∧ ltS y x = false) → insS x L = L.take k ++ x :: L.drop k := by
  intro k
  induction k with
  | zero =>
    intro L _ _ h
    unfold insS
    cases L with
    | nil => rfl
    | cons a L =>
      rcases h with h | ⟨y, hy, hl⟩
      · simp at h
      · simp at hy
        subst hy
        simp [hl]
  | succ k ih =>
    intro L hk hlt h
    cases L with
    | nil => simp at hk
    | cons a L =>
      have h0 := hlt 0 a (by omega) rfl
      have := ih L (by simpa using hk) (fun i y hi hy => hlt (i + 1) y (by omega) (by simpa using hy)) (by
        rcases h with h | ⟨y, hy, hl⟩
        · exact .inl (by simpa using h)
        · exact .inr ⟨y, by simpa using hy, hl⟩)
      unfold insS at this ⊢
      simp only [List.takeWhile_cons, List.dropWhile_cons, h0, if_true, List.cons_append, this, List.take_succ_cons, List.drop_succ_cons]
theorem insS_len (x : BA) (L : List BA) : (insS x L).length = L.length + 1 := by
  unfold insS
  rw [List.length_append, List.length_cons]
  have := congrArg List.length (List.takeWhile_append_dropWhile (p := fun y => ltS y x) (l := L))
  rw [List.length_append] at this
  omega
theorem risL_len (l : List BA) : (risL l).length = l.length := by
  suffices ∀ (l L : List BA), (l.foldl (fun L x => insS x L) L).length = L.length + l.length by
    have := this l []
    simpa [risL] using this
  intro l
  induction l with
  | nil => intro L; rfl
  | cons a l ih => intro L; rw [List.foldl_cons, ih, insS_len, List.length_cons]; omega
theorem risL_mem {l : List BA} {s : BA} (h : s ∈ risL l) : s ∈ l := by
  suffices ∀ (l L : List BA), s ∈ l.foldl (fun L x => insS x L) L → s ∈ L ∨ s ∈ l by
    rcases this l [] h with h | h
    · simp at h
    · exact h
  intro l
  induction l with
  | nil => intro L h; exact .inl h
  | cons a l ih =>
    intro L h
    rw [List.foldl_cons] at h
    rcases ih _ h with h | h
    · unfold insS at h
      rcases List.mem_append.1 h with h | h
      · exact .inl (List.takeWhile_subset _ h)
      · rcases List.mem_cons.1 h with rfl | h
        · exact .inr (by simp)
        · exact .inl (List.dropWhile_subset _ h)
    · exact .inr (List.mem_cons_of_mem _ h)

set_option maxRecDepth 100000 in
set_option maxHeartbeats 4000000 in
theorem rrising104 {w : World} {v : Value} {l : List BA} (h : RdStr w v l) (hl : l.length ≤ 8796093021952) :
    Calls Tryz.prog 104 #[v] w fun e w' => ∃ u, e = .returned u ∧ w'.Sl 9 1 u (risL l).length ((risL l).map Value.string) ∧ (∀ k, k ∈ u.blk → w.heap.size ≤ k) ∧ w.Fr w' [] := by
  obtain ⟨a1, c1, rfl, _, _⟩ := h.rd.shape
  have H := Lib.hid h; have Hl := Lib.hid hl; clear h hl
  have HS0 : Hid (w.Sl 9 1 (.slice none 0 0) (risL (l.take 0)).length ((risL (l.take 0)).map Value.string) ∧ (∀ k, k ∈ (Value.slice none 0 0).blk → w.heap.size ≤ k) ∧ w.Fr w []) := Lib.hid ⟨World.Sl.nil _ _ _, by simp [Value.blk], World.Fr.refl _ _⟩
  go_enter Tryz.func104, Tryz.ntmps104
  go_wp2
  go_loopw [3, 4] (fun v i wr => ∃ j : Nat, i = .int .i64 j ∧ j ≤ l.length ∧ Hid (wr.Sl 9 1 v (risL (l.take j)).length ((risL (l.take j)).map Value.string) ∧ (∀ k, k ∈ v.blk → w.heap.size ≤ k) ∧ w.Fr wr [])) (fun _ i _ => (l.length - intOf i).toNat)
  case atStart => exact ⟨0, rfl, Nat.zero_le _, HS0⟩
  case round =>
    obtain ⟨j, rfl, hj, HS⟩ := hrel
    clear HS0
    have hLl : (risL (l.take j)).length = j := by rw [risL_len, List.length_take]; omega
    by_cases hlt : j < l.length
    · obtain ⟨x, hx⟩ : ∃ x, l[j]? = some x := ⟨l[j], List.getElem?_eq_getElem hlt⟩
      have hsu := risL_succ hx
      generalize risL (l.take j) = L at *
      obtain ⟨xa, xc, hv, hxc, _⟩ := HS.out.1.shape
      subst hv
      obtain ⟨g, off, c, hv1, hg, kx⟩ := (H.out.fr HS.out.2.2 (by simp)).at hx
      cases hv1
      have hjI : (j : Int) < (l.length : Int) := by omega
      have hw1 : IntKind.i64.wrap ((j : Int) + 1) = (j : Int) + 1 := IntWalk.i64_in _ (by have := Hl.out; omega)
      have Hsu := Lib.hid hsu; have Hx := Lib.hid hx; have HLl := Lib.hid hLl; have Hkx := Lib.hid kx
      clear hsu hx hLl
      obtain ⟨wQ, rfl⟩ : ∃ wQ : World, wQ = wr := ⟨_, rfl⟩
      cases xa with
      | none =>
        have hL0 : L = [] := by
          rcases HS.out.1.2 with ⟨_, h0⟩ | ⟨g', off', cap', cur', he, _⟩
          · exact List.eq_nil_of_length_eq_zero h0
          · cases he
        subst hL0
        have hxc0 : xc = 0 := by
          rcases HS.out.1.2 with ⟨h0, _⟩ | ⟨g', off', cap', cur', he, _⟩
          · cases h0; rfl
          · cases he
        subst hxc0
        have hins : insS x [] = [] ++ x :: [] := rfl
        simp only [List.length_nil]
        go_wp2
        go_loopw [5] (fun a wr' => a = .int .i64 0 ∧ Hid (wQ.Fr wr' [])) (fun _ _ => 0)
        case atStart => exact ⟨rfl, Lib.hid (World.Fr.refl wQ [])⟩
        case round =>
          obtain ⟨rfl, HF⟩ := hrel
          have kx2 := cellFrA HF.out Hkx.out
          clear kx
          go_wp2
          go_quiet (fail)
          generalize hW : World.drewN wr nq = W1 at *
          have hf0 : wQ.Fr W1 [] := by rw [← hW]; exact HF.out.of_drewN _
          have kx := cellFrA hf0 Hkx.out
          have HF0 := Lib.hid hf0
          clear kx2 hW hf0
          have Hins := Lib.hid hins
          clear hins
          have Hs1 : Hid (W1.Sl 9 1 (.slice none 0 0) 0 (([] : List BA).map Value.string)) := Lib.hid (World.Sl.nil _ _ _)
          have Hf1 : Hid (W1.Fr W1 []) := Lib.hid (World.Fr.refl _ _)
          have Hn1 : Hid (∀ q, q ∈ (Value.slice none 0 0).blk → W1.heap.size ≤ q) := Lib.hid (by simp [Value.blk])
          have hgl : g < W1.heap.size + 1 := by have := HF0.out.size; omega
          obtain ⟨i0, hi0, hz0, hz1, hz2⟩ := info_parts infoS
          go_wp2_with (at_builtin; refine wpList_append_one _ rfl (.tmp 35) (.tmp 40) 22 rfl 9 i0 (.string .empty) 1 16 Tryz.underlying22 hi0 hz0 hz1 hz2 rfl (.slice none 0 0) (0) (([] : List BA).map Value.string) rfl (Hs1.out.alloc _) W1.heap.size 1 [.string x] 9 rfl (heap_alloc_at _ _ _ rfl) rfl rfl ⟨by have := Hl.out; have := HLl.out; omega, by have := Hl.out; have := HLl.out; omega⟩ ?_)
          intro g3 off3 c3 w2 hs2 hf2 hat hlt3
          try rw [← List.map_take] at hs2
          have hf12 : W1.Fr w2 [] := (Hf1.out.alloc (.cells #[.string x] 9)).trans hf2 (fun q hq => .inr (Hn1.out q hq))
          have hn2 : W1.heap.size ≤ g3 := by
            rcases hat with h | h
            · exact Hn1.out _ h
            · have := Hf1.out.size; (try simp at h); omega
          have Hs2 := Lib.hid hs2; have Hf2 := Lib.hid hf12; have Hn2 := Lib.hid hn2
          clear hs2 hf2 hat hlt3 hf12 hn2 kx i0 hi0 hz0 hz1 hz2
          have hc3 : 0 + 1 ≤ c3 := by
            obtain ⟨_, _, he, hcc, _⟩ := Hs2.out.shape
            cases he
            exact hcc
          try simp only [Nat.zero_add] at hc3
          have hlen3 : (([] : List BA) ++ x :: ([] : List BA)).length = 0 + 1 := by simp
          have hnew3 : w2.Sl 9 1 (.slice (some ⟨g3, off3, none⟩) (0 + 1) c3) (risL (l.take (j + 1))).length ((risL (l.take (j + 1))).map Value.string) ∧ (∀ q, q ∈ (Value.slice (some ⟨g3, off3, none⟩) (0 + 1) c3).blk → w.heap.size ≤ q) ∧ w.Fr w2 [] := by
            rw [Hsu.out, Hins.out, hlen3]
            refine ⟨?_, fun q hq => ?_, ?_⟩
            · have e : (([] : List BA) ++ x :: ([] : List BA)).map Value.string = ([] : List BA).map Value.string ++ [.string x] := by simp
              rw [e]; exact Hs2.out
            · have hz := HS.out.2.2.size
              have hz2 := HF0.out.size
              have hz4 := Hn2.out
              simp [Value.blk] at hq
              omega
            · exact HS.out.2.2.trans (HF0.out.trans Hf2.out (by simp)) (by simp)
          have Hnew3 := Lib.hid hnew3
          clear hnew3 hlen3
          go_wp2
          go_roundw
          case rel => exact ⟨j + 1, by go_num, by omega, Hnew3⟩
          case measure => simp [intOf]; omega
      | some a =>
        obtain ⟨g2, off2, c2, cur2, hv2, _⟩ : ∃ g off cap cur, Value.slice (some a) L.length xc = .slice (some ⟨g, off, none⟩) L.length cap ∧ cur = (#[] : Array Value) := by
          rcases HS.out.1.2 with ⟨h0, _⟩ | ⟨g', off', cap', cur', he, _⟩
          · cases h0
          · exact ⟨g', off', cap', #[], he, rfl⟩
        cases hv2
        go_wp2
        go_loopw [5] (fun a wr' => ∃ k : Nat, a = .int .i64 k ∧ k ≤ L.length ∧ Hid (∀ i y, i < k → L[i]? = some y → ltS y x = true) ∧ Hid (wQ.Fr wr' [])) (fun a _ => (L.length - intOf a).toNat)
        case atStart => exact ⟨0, rfl, Nat.zero_le _, Lib.hid (fun i y hi => absurd hi (Nat.not_lt_zero _)), Lib.hid (World.Fr.refl wQ [])⟩
        case round =>
          obtain ⟨k, rfl, hk, HE, HF⟩ := hrel
          have kx2 := cellFrA HF.out Hkx.out
          clear kx
          have hnn : (0 : Int) ≤ (k : Int) := by omega
          have hkw : IntKind.i64.wrap ((k : Int) + 1) = (k : Int) + 1 := IntWalk.i64_in _ (by have := Hl.out; have := HLl.out; omega)
          by_cases hkl : k < L.length
          · obtain ⟨y, hy⟩ : ∃ y, L[k]? = some y := ⟨L[k], List.getElem?_eq_getElem hkl⟩
            have kI : (k : Int) < (L.length : Int) := by omega
            have kb : decide ((k : Int) < (L.length : Int)) = true := decide_eq_true kI
            have ky := ((HS.out.1.fr HF.out (by simp)).cells rfl k (by omega))
            rw [List.getElem?_map, hy] at ky
            simp only [Option.map_some] at ky
            cases hyx : ltS y x with
            | true =>
              have hb : Op.bytesLess y.toList x.toList = true := hyx
              have Hy := Lib.hid hy; have Hyx := Lib.hid hyx
              clear hy hyx
              go_wp2
              go_quiet (fail)
              go_wp2
              go_roundw
              case rel => exact ⟨k + 1, by go_num, by omega, Lib.hid (fun i z hi hz => by
                rcases Nat.lt_or_ge i k with h | h
                · exact HE.out i z h hz
                · obtain rfl : i = k := by omega
                  rw [Hy.out] at hz
                  cases hz; exact Hyx.out), Lib.hid (HF.out.of_drewN _)⟩
              case measure => simp [intOf]; omega
            | false =>
              have hb : Op.bytesLess y.toList x.toList = false := hyx
              have hins := insS_at k L hk HE.out (.inr ⟨y, hy, hyx⟩)
              clear hy hyx
              go_wp2
              go_quiet (fail)
              generalize hW : World.drewN wr nq = W1 at *
              have hf0 : wQ.Fr W1 [] := by rw [← hW]; exact HF.out.of_drewN _
              have kx := cellFrA hf0 Hkx.out
              have HF0 := Lib.hid hf0
              clear kx2 ky hW hf0
              have hk1 : (k : Int) ≤ (L.length : Int) := by omega
              have hk2 : (L.length : Int) ≤ (xc : Int) := by omega
              have hk3 : (k : Int) ≤ (xc : Int) := by omega
              have hrd0 := (HS.out.1.fr HF0.out (by simp)).rd
              have hrdA : W1.Rd 1 (.slice (some ⟨g2, off2, none⟩) k xc) k ((L.take k).map Value.string) := by have := rd_take hrd0 hk; rwa [Nat.mul_one, ← List.map_take] at this
              have hrdB : W1.Rd 1 (.slice (some ⟨g2, off2 + k, none⟩) (L.length - k) (xc - k)) (L.length - k) ((L.drop k).map Value.string) := by have := rd_drop hrd0 hk; rwa [Nat.mul_one, ← List.map_drop] at this
              have HrA := Lib.hid hrdA; have HrB := Lib.hid hrdB
              clear hrd0 hrdA hrdB
              have Hins := Lib.hid hins
              clear hins
              obtain ⟨i0, hi0, hz0, hz1, hz2⟩ := info_parts infoS
              go_wp2_with (at_builtin; refine wpList_append_src _ rfl (.tmp 30) (.tmp 33) 22 rfl 9 i0 (.string .empty) 1 16 Tryz.underlying22 hi0 hz0 hz1 hz2 rfl (.slice none 0 0) 0 [] rfl (World.Sl.nil _ _ _) (.slice (some ⟨g2, off2, none⟩) k xc) (k) ((L.take k).map Value.string) rfl HrA.out (one_strings _) ⟨by have := Hl.out; have := HLl.out; omega, by have := Hl.out; have := HLl.out; omega⟩ ?_)
              intro v' w1 hs1 hf1 hb1
              obtain ⟨ya, yc, rfl, _, _⟩ := hs1.shape
              try simp only [Nat.zero_add, List.nil_append] at hs1
              try rw [← List.map_take] at hs1
              try simp only [Nat.zero_add]
              have hf1' : W1.Fr w1 [] := by simpa [Value.blk] using hf1
              have hn1 : ∀ q, q ∈ (Value.slice ya (k) yc).blk → W1.heap.size ≤ q := fun q hq => by
                rcases hb1 q hq with h | h
                · simp [Value.blk] at h
                · omega
              have kx3 := cellFrA hf1' kx
              have hgl : g < w1.heap.size + 1 := by have := HF0.out.size; have := hf1'.size; omega
              have Hs1 := Lib.hid hs1; have Hf1 := Lib.hid hf1'; have Hn1 := Lib.hid hn1
              clear hs1 hf1 hb1 hf1' hn1 kx i0 hi0 hz0 hz1 hz2
              obtain ⟨i0, hi0, hz0, hz1, hz2⟩ := info_parts infoS
              go_wp2_with (at_builtin; refine wpList_append_one _ rfl (.tmp 35) (.tmp 40) 22 rfl 9 i0 (.string .empty) 1 16 Tryz.underlying22 hi0 hz0 hz1 hz2 rfl (.slice ya (k) yc) (k) ((L.take k).map Value.string) rfl (Hs1.out.alloc _) w1.heap.size 1 [.string x] 9 rfl (heap_alloc_at _ _ _ rfl) rfl rfl ⟨by have := Hl.out; have := HLl.out; omega, by have := Hl.out; have := HLl.out; omega⟩ ?_)
              intro g3 off3 c3 w2 hs2 hf2 hat hlt3
              try rw [← List.map_take] at hs2
              have hf12 : W1.Fr w2 [] := (Hf1.out.alloc (.cells #[.string x] 9)).trans hf2 (fun q hq => .inr (Hn1.out q hq))
              have hn2 : W1.heap.size ≤ g3 := by
                rcases hat with h | h
                · exact Hn1.out _ h
                · have := Hf1.out.size; (try simp at h); omega
              have Hs2 := Lib.hid hs2; have Hf2 := Lib.hid hf12; have Hn2 := Lib.hid hn2
              clear hs2 hf2 hat hlt3 hf12 hn2 kx3 i0 hi0 hz0 hz1 hz2
              by_cases hxk : xc = k
              · have hlk : L.length - k = 0 := by omega
                have hdk : L.drop k = [] := List.drop_of_length_le (by omega)
                subst hxk
                have hc3 : xc + 1 ≤ c3 := by
                  obtain ⟨_, _, he, hcc, _⟩ := Hs2.out.shape
                  cases he
                  exact hcc
                try simp only [Nat.zero_add] at hc3
                have hlen3 : ((L.take xc) ++ x :: (L.drop xc)).length = xc + 1 := by rw [hdk]; simp; omega
                have hnew3 : w2.Sl 9 1 (.slice (some ⟨g3, off3, none⟩) (xc + 1) c3) (risL (l.take (j + 1))).length ((risL (l.take (j + 1))).map Value.string) ∧ (∀ q, q ∈ (Value.slice (some ⟨g3, off3, none⟩) (xc + 1) c3).blk → w.heap.size ≤ q) ∧ w.Fr w2 [] := by
                  rw [Hsu.out, Hins.out, hlen3]
                  refine ⟨?_, fun q hq => ?_, ?_⟩
                  · have e : ((L.take xc) ++ x :: (L.drop xc)).map Value.string = (L.take xc).map Value.string ++ [.string x] := by rw [hdk]; simp
                    rw [e]; exact Hs2.out
                  · have hz := HS.out.2.2.size
                    have hz2 := HF0.out.size
                    have hz4 := Hn2.out
                    simp [Value.blk] at hq
                    omega
                  · exact HS.out.2.2.trans (HF0.out.trans Hf2.out (by simp)) (by simp)
                have Hnew3 := Lib.hid hnew3
                clear hnew3 hlen3
                go_wp2
                go_roundw
                case rel => exact ⟨j + 1, by go_num, by omega, Hnew3⟩
                case measure => simp [intOf]; omega
              · obtain ⟨i0, hi0, hz0, hz1, hz2⟩ := info_parts infoS
                go_wp2_with (at_builtin; refine wpList_append_src _ rfl (.tmp 42) (.tmp 45) 22 rfl 9 i0 (.string .empty) 1 16 Tryz.underlying22 hi0 hz0 hz1 hz2 rfl (.slice (some ⟨g3, off3, none⟩) (k + 1) c3) (k + 1) ((L.take k).map Value.string ++ [.string x]) rfl Hs2.out (.slice (some ⟨g2, off2 + k, none⟩) (L.length - k) (xc - k)) (L.length - k) ((L.drop k).map Value.string) rfl (HrB.out.fr Hf2.out (by simp)) (one_strings _) ⟨by have := Hl.out; have := HLl.out; omega, by have := Hl.out; have := HLl.out; omega⟩ ?_)
                intro v3 w3 hs3 hf3 hb3
                obtain ⟨za, zc, rfl, _, _⟩ := hs3.shape
                try rw [← List.map_take] at hs3
                try rw [← List.map_drop] at hs3
                have hlen3 : ((L.take k) ++ x :: (L.drop k)).length = k + 1 + (L.length - k) := by simp; omega
                have hnew3 : w3.Sl 9 1 (.slice za (k + 1 + (L.length - k)) zc) (risL (l.take (j + 1))).length ((risL (l.take (j + 1))).map Value.string) ∧ (∀ q, q ∈ (Value.slice za (k + 1 + (L.length - k)) zc).blk → w.heap.size ≤ q) ∧ w.Fr w3 [] := by
                  rw [Hsu.out, Hins.out, hlen3]
                  refine ⟨?_, fun q hq => ?_, ?_⟩
                  · have e : ((L.take k) ++ x :: (L.drop k)).map Value.string = (L.take k).map Value.string ++ .string x :: (L.drop k).map Value.string := by simp only [List.map_append, List.map_cons]
                    rw [e]; exact hs3
                  · have hh := hb3 q hq
                    have hz := HS.out.2.2.size
                    have hz2 := HF0.out.size
                    have hz3 := Hf2.out.size
                    have hz4 := Hn2.out
                    rcases hh with h | h
                    · simp [Value.blk] at h; omega
                    · omega
                  · exact (HS.out.2.2.trans (HF0.out.trans Hf2.out (by simp)) (by simp)).trans hf3 (fun q hq => .inr (by simp [Value.blk] at hq; have hz := HS.out.2.2.size; have hz2 := HF0.out.size; have hz4 := Hn2.out; omega))
                have Hnew3 := Lib.hid hnew3
                clear hs3 hf3 hb3 hnew3 hlen3
                go_wp2
                go_roundw
                case rel => exact ⟨j + 1, by go_num, by omega, Hnew3⟩
                case measure => simp [intOf]; omega
          · have kb : decide ((k : Int) < (L.length : Int)) = false := decide_eq_false (by omega)
            have kb2 : decide (k < L.length) = false := decide_eq_false hkl
            have hins := insS_at k L hk HE.out (.inl (by omega))
            go_wp2
            go_quiet (fail)
            generalize hW : World.drewN wr nq = W1 at *
            have hf0 : wQ.Fr W1 [] := by rw [← hW]; exact HF.out.of_drewN _
            have kx := cellFrA hf0 Hkx.out
            have HF0 := Lib.hid hf0
            clear kx2 hW hf0
            have hk1 : (k : Int) ≤ (L.length : Int) := by omega
            have hk2 : (L.length : Int) ≤ (xc : Int) := by omega
            have hk3 : (k : Int) ≤ (xc : Int) := by omega
            have hrd0 := (HS.out.1.fr HF0.out (by simp)).rd
            have hrdA : W1.Rd 1 (.slice (some ⟨g2, off2, none⟩) k xc) k ((L.take k).map Value.string) := by have := rd_take hrd0 hk; rwa [Nat.mul_one, ← List.map_take] at this
            have hrdB : W1.Rd 1 (.slice (some ⟨g2, off2 + k, none⟩) (L.length - k) (xc - k)) (L.length - k) ((L.drop k).map Value.string) := by have := rd_drop hrd0 hk; rwa [Nat.mul_one, ← List.map_drop] at this
            have HrA := Lib.hid hrdA; have HrB := Lib.hid hrdB
            clear hrd0 hrdA hrdB
            have Hins := Lib.hid hins
            clear hins
            obtain ⟨i0, hi0, hz0, hz1, hz2⟩ := info_parts infoS
            go_wp2_with (at_builtin; refine wpList_append_src _ rfl (.tmp 30) (.tmp 33) 22 rfl 9 i0 (.string .empty) 1 16 Tryz.underlying22 hi0 hz0 hz1 hz2 rfl (.slice none 0 0) 0 [] rfl (World.Sl.nil _ _ _) (.slice (some ⟨g2, off2, none⟩) k xc) (k) ((L.take k).map Value.string) rfl HrA.out (one_strings _) ⟨by have := Hl.out; have := HLl.out; omega, by have := Hl.out; have := HLl.out; omega⟩ ?_)
            intro v' w1 hs1 hf1 hb1
            obtain ⟨ya, yc, rfl, _, _⟩ := hs1.shape
            try simp only [Nat.zero_add, List.nil_append] at hs1
            try rw [← List.map_take] at hs1
            try simp only [Nat.zero_add]
            have hf1' : W1.Fr w1 [] := by simpa [Value.blk] using hf1
            have hn1 : ∀ q, q ∈ (Value.slice ya (k) yc).blk → W1.heap.size ≤ q := fun q hq => by
              rcases hb1 q hq with h | h
              · simp [Value.blk] at h
              · omega
            have kx3 := cellFrA hf1' kx
            have hgl : g < w1.heap.size + 1 := by have := HF0.out.size; have := hf1'.size; omega
            have Hs1 := Lib.hid hs1; have Hf1 := Lib.hid hf1'; have Hn1 := Lib.hid hn1
            clear hs1 hf1 hb1 hf1' hn1 kx i0 hi0 hz0 hz1 hz2
            obtain ⟨i0, hi0, hz0, hz1, hz2⟩ := info_parts infoS
            go_wp2_with (at_builtin; refine wpList_append_one _ rfl (.tmp 35) (.tmp 40) 22 rfl 9 i0 (.string .empty) 1 16 Tryz.underlying22 hi0 hz0 hz1 hz2 rfl (.slice ya (k) yc) (k) ((L.take k).map Value.string) rfl (Hs1.out.alloc _) w1.heap.size 1 [.string x] 9 rfl (heap_alloc_at _ _ _ rfl) rfl rfl ⟨by have := Hl.out; have := HLl.out; omega, by have := Hl.out; have := HLl.out; omega⟩ ?_)
            intro g3 off3 c3 w2 hs2 hf2 hat hlt3
            try rw [← List.map_take] at hs2
            have hf12 : W1.Fr w2 [] := (Hf1.out.alloc (.cells #[.string x] 9)).trans hf2 (fun q hq => .inr (Hn1.out q hq))
            have hn2 : W1.heap.size ≤ g3 := by
              rcases hat with h | h
              · exact Hn1.out _ h
              · have := Hf1.out.size; (try simp at h); omega
            have Hs2 := Lib.hid hs2; have Hf2 := Lib.hid hf12; have Hn2 := Lib.hid hn2
            clear hs2 hf2 hat hlt3 hf12 hn2 kx3 i0 hi0 hz0 hz1 hz2
            by_cases hxk : xc = k
            · have hlk : L.length - k = 0 := by omega
              have hdk : L.drop k = [] := List.drop_of_length_le (by omega)
              subst hxk
              have hc3 : xc + 1 ≤ c3 := by
                obtain ⟨_, _, he, hcc, _⟩ := Hs2.out.shape
                cases he
                exact hcc
              try simp only [Nat.zero_add] at hc3
              have hlen3 : ((L.take xc) ++ x :: (L.drop xc)).length = xc + 1 := by rw [hdk]; simp; omega
              have hnew3 : w2.Sl 9 1 (.slice (some ⟨g3, off3, none⟩) (xc + 1) c3) (risL (l.take (j + 1))).length ((risL (l.take (j + 1))).map Value.string) ∧ (∀ q, q ∈ (Value.slice (some ⟨g3, off3, none⟩) (xc + 1) c3).blk → w.heap.size ≤ q) ∧ w.Fr w2 [] := by
                rw [Hsu.out, Hins.out, hlen3]
                refine ⟨?_, fun q hq => ?_, ?_⟩
                · have e : ((L.take xc) ++ x :: (L.drop xc)).map Value.string = (L.take xc).map Value.string ++ [.string x] := by rw [hdk]; simp
                  rw [e]; exact Hs2.out
                · have hz := HS.out.2.2.size
                  have hz2 := HF0.out.size
                  have hz4 := Hn2.out
                  simp [Value.blk] at hq
                  omega
                · exact HS.out.2.2.trans (HF0.out.trans Hf2.out (by simp)) (by simp)
              have Hnew3 := Lib.hid hnew3
              clear hnew3 hlen3
              go_wp2
              go_roundw
              case rel => exact ⟨j + 1, by go_num, by omega, Hnew3⟩
              case measure => simp [intOf]; omega
            · obtain ⟨i0, hi0, hz0, hz1, hz2⟩ := info_parts infoS
              go_wp2_with (at_builtin; refine wpList_append_src _ rfl (.tmp 42) (.tmp 45) 22 rfl 9 i0 (.string .empty) 1 16 Tryz.underlying22 hi0 hz0 hz1 hz2 rfl (.slice (some ⟨g3, off3, none⟩) (k + 1) c3) (k + 1) ((L.take k).map Value.string ++ [.string x]) rfl Hs2.out (.slice (some ⟨g2, off2 + k, none⟩) (L.length - k) (xc - k)) (L.length - k) ((L.drop k).map Value.string) rfl (HrB.out.fr Hf2.out (by simp)) (one_strings _) ⟨by have := Hl.out; have := HLl.out; omega, by have := Hl.out; have := HLl.out; omega⟩ ?_)
              intro v3 w3 hs3 hf3 hb3
              obtain ⟨za, zc, rfl, _, _⟩ := hs3.shape
              try rw [← List.map_take] at hs3
              try rw [← List.map_drop] at hs3
              have hlen3 : ((L.take k) ++ x :: (L.drop k)).length = k + 1 + (L.length - k) := by simp; omega
              have hnew3 : w3.Sl 9 1 (.slice za (k + 1 + (L.length - k)) zc) (risL (l.take (j + 1))).length ((risL (l.take (j + 1))).map Value.string) ∧ (∀ q, q ∈ (Value.slice za (k + 1 + (L.length - k)) zc).blk → w.heap.size ≤ q) ∧ w.Fr w3 [] := by
                rw [Hsu.out, Hins.out, hlen3]
                refine ⟨?_, fun q hq => ?_, ?_⟩
                · have e : ((L.take k) ++ x :: (L.drop k)).map Value.string = (L.take k).map Value.string ++ .string x :: (L.drop k).map Value.string := by simp only [List.map_append, List.map_cons]
                  rw [e]; exact hs3
                · have hh := hb3 q hq
                  have hz := HS.out.2.2.size
                  have hz2 := HF0.out.size
                  have hz3 := Hf2.out.size
                  have hz4 := Hn2.out
                  rcases hh with h | h
                  · simp [Value.blk] at h; omega
                  · omega
                · exact (HS.out.2.2.trans (HF0.out.trans Hf2.out (by simp)) (by simp)).trans hf3 (fun q hq => .inr (by simp [Value.blk] at hq; have hz := HS.out.2.2.size; have hz2 := HF0.out.size; have hz4 := Hn2.out; omega))
              have Hnew3 := Lib.hid hnew3
              clear hs3 hf3 hb3 hnew3 hlen3
              go_wp2
              go_roundw
              case rel => exact ⟨j + 1, by go_num, by omega, Hnew3⟩
              case measure => simp [intOf]; omega
    · have hd : decide ((j : Int) < (l.length : Int)) = false := decide_eq_false (by omega)
      have hd2 : decide (j < l.length) = false := decide_eq_false hlt
      obtain rfl : j = l.length := by omega
      have h := HS.out
      rw [List.take_of_length_le (Nat.le_refl _)] at h
      have Hh := Lib.hid h
      clear h HS hLl hlt
      go_wp2
      go_ret
      exact ⟨_, rfl, Hh.out.1, Hh.out.2.1, Hh.out.2.2⟩
end Go.Proofs.YtikodapgceokhaaGreat
