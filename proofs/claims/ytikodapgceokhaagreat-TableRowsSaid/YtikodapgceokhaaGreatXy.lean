/-
  The walks of the statement's own one, xy.
-/
import Derived.Test.YtikodapgceokhaaGreatCol
import Derived.Deep.RegionHeld3
namespace Go.Proofs.YtikodapgceokhaaGreat
open Go.RowKit

def vI (n : Int) : V := ⟨1, n, 0, ⟨#[]⟩⟩
theorem one55 (n : Int) (w : World) : Calls Tryz.prog 55 #[.int .i64 n] w fun e w' => e = .returned (vv (vI n)) ∧ w.Fr w' [] := by
  go_enter Tryz.func55, Tryz.ntmps55
  go_wp2
  have hp := heap_alloc_at w (.cells #[.int .i64 1, .int .i64 n, .int .i64 0, .string ⟨#[]⟩] 60) _ rfl
  obtain ⟨p0, p1, p2, p3, pf⟩ := four hp
  clear hp
  refine bodyPost_ret (v := vv (vI n)) (by simp [results, Tryz.results55, go_sem, p0, p1, p2, p3, vI]) rfl ⟨rfl, (World.Fr.refl w []).alloc _⟩

/-- rows of two numbers each -/
def pairsI : List Int → List Row
  | a :: b :: t => [vI a, vI b] :: pairsI t
  | _ => []
def nmX : BA := ⟨#[120]⟩
def nmY : BA := ⟨#[121]⟩
def nmZ : BA := ⟨#[122]⟩
theorem pairsI_take : ∀ (l : List Int) (j : Nat) (a b : Int), l[2 * j]? = some a → l[2 * j + 1]? = some b → pairsI (l.take (2 * (j + 1))) = pairsI (l.take (2 * j)) ++ [[vI a, vI b]]
  | [], j, a, b, h, _ => by simp at h
  | [x], 0, a, b, _, h => by simp at h
  | [x], j + 1, a, b, h, _ => by simp at h
  | x :: y :: t, 0, a, b, h1, h2 => by
    simp at h1 h2
    subst h1 h2
    simp [pairsI]
  | x :: y :: t, j + 1, a, b, h1, h2 => by
    have ih := pairsI_take t j a b (by rw [← h1]; rw [show 2 * (j + 1) = 2 * j + 1 + 1 by omega]; simp) (by rw [← h2]; rw [show 2 * (j + 1) + 1 = 2 * j + 1 + 1 + 1 by omega]; simp)
    rw [show 2 * (j + 1 + 1) = 2 * (j + 1) + 1 + 1 by omega, show 2 * (j + 1) = 2 * j + 1 + 1 by omega] at *
    simp only [List.take_succ_cons, pairsI]
    rw [show 2 * j + 1 + 1 = 2 * (j + 1) by omega] at *
    rw [ih]; rfl

theorem pairsI_len : ∀ l : List Int, (pairsI l).length ≤ l.length
  | [] => Nat.le_refl _
  | [_] => Nat.zero_le _
  | a :: b :: t => by have := pairsI_len t; simp [pairsI]; omega
theorem pairsI_mem : ∀ (l : List Int) (r : Row), r ∈ pairsI l → ∃ a b, a ∈ l ∧ b ∈ l ∧ r = [vI a, vI b]
  | [], _, h => by cases h
  | [_], _, h => by cases h
  | a :: b :: t, r, h => by
    rcases List.mem_cons.1 h with rfl | h
    · exact ⟨a, b, by simp, by simp, rfl⟩
    · obtain ⟨x, y, h1, h2, h3⟩ := pairsI_mem t r h
      exact ⟨x, y, by simp [h1], by simp [h2], h3⟩
theorem vI_wf {n : Int} (h : inI64 n) : (vI n).wf := ⟨by unfold inI64 vI; simp, h, by unfold inI64 vI; simp, by simp [vI, ByteArray.size]⟩
theorem cellFr {w w' : World} {L : List Nat} {a : Addr} {v : Value} (hf : w.Fr w' L) (hc : w.cell? a = some v) (hn : a.block ∉ L) : w'.cell? a = some v := by
  rw [← hc]
  exact World.cell?_of_block (hf.block _ (World.block_lt_of_cell? w _ hc) hn)
set_option maxRecDepth 100000 in
set_option maxHeartbeats 4000000 in
theorem xy54 {w : World} {v : Value} {l : List Int} (n : Nat) (h : w.Rd 1 v l.length (icells l)) (hl : l.length = 2 * n) (hn : n ≤ 100) (hi : ∀ x, x ∈ l → inI64 x) :
    Calls Tryz.prog 54 #[v] w fun e w' => ∃ v', e = .returned v' ∧ OwnTab w w' v' ⟨[nmX, nmY], pairsI l⟩ := by
  obtain ⟨a1, c1, rfl, _, _⟩ := h.shape
  rw [hl] at h ⊢
  have H := Lib.hid h; have Hl := Lib.hid hl; have Hn := Lib.hid hn; have Hi := Lib.hid hi; clear h hl hn hi
  go_enter Tryz.func54, Tryz.ntmps54
  go_upto_region 3 with (fail)
  generalize hW : World.alloc (World.alloc (World.alloc w _) _) _ = W
  have q1 : W.heap[w.heap.size]? = some (.cells #[.slice none 0 0, .slice none 0 0] 25 (0, 0)) := by rw [← hW]; exact heap_alloc_some (heap_alloc_some (heap_alloc_at _ _ _ rfl) _) _
  have q2 : W.Sl 9 1 (.slice (some ⟨w.heap.size + 1, 0, none⟩) 2 2) 2 [.string ⟨#[120]⟩, .string ⟨#[121]⟩] := by
    rw [← hW]
    have := (World.Sl.lit (w.alloc (.cells #[.slice none 0 0, .slice none 0 0] 25)) 9 #[.string ⟨#[120]⟩, .string ⟨#[121]⟩] 2 1 (by simp [maxLen]) rfl).alloc (.cells #[.slice (some ⟨w.heap.size + 1, 0, none⟩) 2 2, .slice none 0 0] 25)
    simpa using this
  have q4 : W.heap[w.heap.size + 1 + 1]? = some (.cells #[.slice (some ⟨w.heap.size + 1, 0, none⟩) 2 2, .slice none 0 0] 25 (0, 0)) := by rw [← hW]; exact heap_alloc_at _ _ _ (by simp)
  have q3 : w.Fr W [] := by rw [← hW]; exact (((World.Fr.refl w []).alloc _).alloc _).alloc _
  clear hW
  have HR0 : Hid (RV W W (w.heap.size + 1 + 1) (.slice (some ⟨w.heap.size + 1, 0, none⟩) 2 2) (.slice none 0 0) [] []) := Lib.hid ⟨q4, World.Sl.nil _ _ _, rfl, by simp [Value.blk], by simp, World.Fr.refl _ _⟩
  have hlb := lt_of_heap q4
  generalize hb1 : w.heap.size = b1 at *
  generalize hb3 : b1 + 1 + 1 = b3 at *
  have Hb1 := Lib.hid hb1; have Hb3 := Lib.hid hb3; have Q1 := Lib.hid q1; have Q2 := Lib.hid q2; have Q3 := Lib.hid q3; have Hlb := Lib.hid hlb
  clear hb1 hb3 q1 q2 q3 q4 hlb
  go_loopw [4] (fun i wr => ∃ (j : Nat) (vb : Value) (hsn : List Value), i = .int .i64 (2 * (j : Int)) ∧ j ≤ n ∧ Hid (RV W wr b3 (.slice (some ⟨b1 + 1, 0, none⟩) 2 2) vb hsn (pairsI (l.take (2 * j))))) (fun i _ => (2 * n - intOf i).toNat)
  case atStart => exact ⟨0, _, [], rfl, Nat.zero_le _, HR0⟩
  case round =>
    obtain ⟨j, vb, hsn, rfl, hj, HR⟩ := hrel
    obtain ⟨xa, xc, rfl, _, _⟩ := HR.out.sl.shape
    by_cases hlt : j < n
    · have hjI : 2 * (j : Int) + 1 < 2 * (n : Int) := by omega
      have hjJ : 2 * (j : Int) < 2 * (n : Int) := by omega
      have hw1 : IntKind.i64.wrap (2 * (j : Int) + 1) = 2 * (j : Int) + 1 := IntWalk.i64_in _ (by have := Hn.out; omega)
      have hw2 : IntKind.i64.wrap (2 * (j : Int) + 2) = 2 * (j : Int) + 2 := IntWalk.i64_in _ (by have := Hn.out; omega)
      have h0j : (0 : Int) ≤ 2 * (j : Int) := by omega
      have h1j : (0 : Int) ≤ 2 * (j : Int) + 1 := by omega
      have ht1 : (2 * (j : Int)).toNat = 2 * j := by omega
      have ht2 : (2 * (j : Int) + 1).toNat = 2 * j + 1 := by omega
      obtain ⟨a, ha⟩ : ∃ a, l[2 * j]? = some a := ⟨l[2 * j]'(by have := Hl.out; omega), List.getElem?_eq_getElem _⟩
      obtain ⟨b, hb⟩ : ∃ b, l[2 * j + 1]? = some b := ⟨l[2 * j + 1]'(by have := Hl.out; omega), List.getElem?_eq_getElem _⟩
      have hsn1 := pairsI_take l j a b ha hb
      obtain ⟨p0, p1, pf⟩ := two HR.out.box
      have hfw := Q3.out.trans HR.out.fr (fun k hk => .inr (by simp at hk; subst hk; have := Hb1.out; have := Hb3.out; omega))
      obtain ⟨g, off, c, hv, _, _, hg, kcs⟩ := (H.out.fr hfw (by simp)).form (by omega)
      cases hv
      have ka := kcs (2 * j) (by omega)
      have kb := kcs (2 * j + 1) (by omega)
      clear kcs
      rw [List.getElem?_map, ha] at ka
      rw [List.getElem?_map, hb] at kb
      simp only [Option.map_some] at ka kb
      have hgb3 : g < b3 := by
        have := H.out.lt g (by simp only [Value.rblk]; rw [if_neg (by have := (List.getElem?_eq_some_iff.1 ha).1; omega)]; simp)
        have := Hb1.out; have := Hb3.out; omega
      have hl3 : b3 < wr.heap.size := lt_of_heap HR.out.box
      have hnb3 : b3 ∉ (Value.slice xa hsn.length xc).blk := fun hk => sl_box HR.out.sl HR.out.box (by decide) b3 hk rfl
      have hng : g ∉ (Value.slice xa hsn.length xc).blk := fun hk => by have := HR.out.new g hk; have := Hlb.out; omega
      have hwrf : wr.Fr wr.drew [] := (World.Fr.refl wr []).drew
      have Hp1 := Lib.hid p1; have Hka := Lib.hid ka; have Hkb := Lib.hid kb; have Hsn1 := Lib.hid hsn1; have Hbox := Lib.hid HR.out.box
      have Hnb3 := Lib.hid hnb3; have Hng := Lib.hid hng
      clear hsn1 ha hb hnb3 hng hfw
      have Hslr := Lib.hid HR.out.sl
      generalize hhn : hsn.length = hn at *
      have Hhn := Lib.hid hhn; clear hhn
      have hroom : hn < 210 := by
        have e1 := Hhn.out
        have e2 := HR.out.len
        have e3 := pairsI_len (l.take (2 * j))
        have e4 : (l.take (2 * j)).length ≤ 2 * j := List.length_take_le _ _
        have := Hn.out
        omega
      obtain ⟨ih, hih, hh0, hh1, hh2⟩ := info_parts infoH
      go_upto_region 5 with (fail)
      go_region_law (first | (refine step_append_one _ rfl (.tmp 15) (.tmp 28) 23 rfl 32 ih (.slice none 0 0) 1 24 Tryz.underlying23 hih hh0 hh1 hh2 rfl (.slice xa hn xc) hn hsn (by simp [Act.eval]) (World.Sl.alloc (World.Sl.alloc (Hslr.out.fr hfx (by simp)) _) _) (w2.heap.size + 1) 1 [.slice (some ⟨w2.heap.size, 0, none⟩) 2 2] 32 (by simp [Act.eval]) (heap_alloc_at _ _ _ (by simp)) rfl rfl ⟨by omega, by omega⟩ ?_; intro g3 off3 c3 w6 hsl3 hfr3 hat hlt3; have hW1 := hfr3.heap (heap_alloc_some (heap_alloc_some (hfx.heap Hbox.out (by simp)) _) _) Hnb3.out; obtain ⟨r0, r1, rf⟩ := two hW1; have hl6 := lt_of_heap hW1; have HW1 := Lib.hid hW1; have Hsl3 := Lib.hid hsl3; have Hfr3 := Lib.hid hfr3; have Hat := Lib.hid hat; have Hfx := Lib.hid hfx; clear hW1 hsl3 hfr3 hat hlt3) | (go_simp; go_at_call 55; refine (one55 _ _).mono ?_; rintro e w2 ⟨rfl, hf2⟩; have hfx := World.Fr.trans (a := wr) (L := []) (by assumption) hf2 (by simp); have d1 := cellFr hfx Hp1.out (by simp); have d2 := cellFr hfx Hka.out (by simp); have d3 := cellFr hfx Hkb.out (by simp); have l1 := Nat.lt_of_lt_of_le hl3 hfx.size; have l2 := Nat.lt_succ_of_lt l1; have l3 := Nat.lt_of_lt_of_le hg hfx.size; have l4 := Nat.lt_succ_of_lt l3; clear hf2))
      all_goals
        have how : OwnRow wr ((w2.alloc (.cells #[.int .i64 (vI a).k, .int .i64 (vI a).n, .int .i64 (vI a).d, .string (vI a).s, .int .i64 (vI b).k, .int .i64 (vI b).n, .int .i64 (vI b).d, .string (vI b).s] 60)).alloc (.cells #[.slice (some ⟨w2.heap.size, 0, none⟩) 2 2] 32)) (.slice (some ⟨w2.heap.size, 0, none⟩) 2 2) [vI a, vI b] :=
          ⟨(World.Sl.lit w2 60 #[.int .i64 (vI a).k, .int .i64 (vI a).n, .int .i64 (vI a).d, .string (vI a).s, .int .i64 (vI b).k, .int .i64 (vI b).n, .int .i64 (vI b).d, .string (vI b).s] 2 4 (by simp [maxLen]) rfl).alloc _, fun k hk => by simp [Value.blk] at hk; subst hk; exact Hfx.out.size, (Hfx.out.alloc _).alloc _⟩
        have hpush := HR.out.push how (g := g3) (off := off3) (c := c3) (by rw [Hhn.out]; exact Hsl3.out) Hfr3.out (by rcases Hat.out with h | h; exact .inl h; exact .inr (Nat.le_of_eq h.symm))
        rw [← Hsn1.out, Hhn.out] at hpush
        have Hpush := Lib.hid hpush
        clear hpush how r0 r1 rf l1 l2 l3 l4 d1 d2 d3 hl6
        go_wp2
        go_roundw
        case rel => exact ⟨j + 1, _, _, congrArg (Value.int .i64) (by omega), by omega, Hpush⟩
        case measure => simp [intOf]; omega
    · have hd : decide (2 * (j : Int) + 1 < 2 * (n : Int)) = false := decide_eq_false (by omega)
      have hnl : ¬ (2 * (j : Int) + 1 < 2 * (n : Int)) := by omega
      have hw1 : IntKind.i64.wrap (2 * (j : Int) + 1) = 2 * (j : Int) + 1 := IntWalk.i64_in _ (by have := Hn.out; omega)
      obtain rfl : j = n := by omega
      rw [List.take_of_length_le (by rw [Hl.out]; exact Nat.le_refl _)] at HR
      obtain ⟨p0, p1, pf⟩ := two HR.out.box
      have hb4 : w.heap.size ≤ b3 := by have := Hb1.out; have := Hb3.out; omega
      have hq1 := HR.out.fr.heap Q1.out (by simp; have := Hb3.out; omega)
      obtain ⟨r0, r1, rf⟩ := two hq1
      have hl3 := lt_of_heap HR.out.box
      have hl1 := lt_of_heap hq1
      have htab : OwnTab w wr (.agg #[.slice (some ⟨b1 + 1, 0, none⟩) 2 2, .slice xa hsn.length xc]) ⟨[nmX, nmY], pairsI l⟩ := by
        have hfw := Q3.out.trans HR.out.fr (fun k hk => .inr (by simp at hk; subst hk; exact hb4))
        have hz := Q3.out.size
        refine ⟨⟨_, _, hsn, rfl, ?_, HR.out.sl, HR.out.len, fun k hk => ?_, fun k hk => Nat.le_trans hz (HR.out.new k hk), fun i hv r h1 h2 => ⟨(HR.out.row i hv r h1 h2).1, fun k hk => Nat.le_trans hz ((HR.out.row i hv r h1 h2).2 k hk)⟩⟩, ⟨fun s hs => ?_, fun r hr => ?_⟩, hfw⟩
        · exact Q2.out.fr HR.out.fr (by simp [Value.blk]; have := Hb3.out; omega)
        · simp [Value.blk] at hk; have := Hb1.out; omega
        · simp at hs; rcases hs with rfl | rfl <;> simp [nmX, nmY, ByteArray.size]
        · obtain ⟨a, b, ha, hb, rfl⟩ := pairsI_mem l r hr
          simp only [List.mem_cons, List.not_mem_nil, or_false]
          rintro v (rfl | rfl)
          · exact vI_wf (Hi.out a ha)
          · exact vI_wf (Hi.out b hb)
      have ho2 := htab.put hq1 (by have := Hb1.out; omega)
      obtain ⟨f0, f1, _⟩ := two ho2.2
      have Hfin := Lib.hid ho2.1
      clear ho2 htab hq1 hlt hj
      go_wp2
      refine bodyPost_ret (v := .agg #[.slice (some ⟨b1 + 1, 0, none⟩) 2 2, .slice xa hsn.length xc]) (by simp [results, Tryz.results54, go_sem, f0, f1]) rfl ⟨_, rfl, Hfin.out⟩
end Go.Proofs.YtikodapgceokhaaGreat
