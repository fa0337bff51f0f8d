/-
  The walk of Clone, and of stir.
-/
import Derived.Test.YtikodccbecmjiaaRefWin2
import Derived.Test.YtikodccbecmjiaaAppend
import Derived.Laws.EntriesVeiled
namespace Go.Proofs.Ytikodccbecmjiaa
open Go.RowKit Go.Win

section
variable {F : FuncId} {cap : Array Value} {f : T → T → T} {J : Nat → World → Prop} {Lo : List Nat} {ok : T → Prop}

theorem oneT (l : List T) : (l.flatMap thK.enc).all Value.oneCell' = true := by
  induction l with
  | nil => rfl
  | cons a r ih => simp only [List.flatMap_cons, List.all_append, ih]; rfl
theorem oneP (l : List (T × T)) : (l.flatMap thK.pair).all Value.oneCell' = true := by
  induction l with
  | nil => rfl
  | cons a r ih => simp only [List.flatMap_cons, List.all_append, ih]; rfl

set_option maxHeartbeats 1000000 in
theorem clone24 (hF : OpOk F cap f J Lo ok) {w : World} {p : Nat} {L : List Nat} {s : WSt T} (h : THas F cap J Lo w p s L) (hl : s.len < 1000000) :
    Calls Try.prog 24 #[.pointer (some ⟨p,0,none⟩)] w fun e w' => ∃ q L', e = .returned (.pointer (some ⟨q, 0, none⟩)) ∧ THas F cap J Lo w' q s L' ∧ w.Fr w' [] ∧ ∀ k, k ∈ L' → w.heap.size ≤ k := by
  obtain ⟨⟨va, vb, h, rfl⟩, hJ, hoff⟩ := h
  obtain ⟨hp, ha, hb, hpa, hpb, hab⟩ := h
  obtain ⟨aa, ca, rfl, _, _⟩ := ha.shape
  obtain ⟨ab, cb, rfl, _, _⟩ := hb.shape
  have hlo := hF.lo _ _ hJ
  have hlA : s.ahead.length < 1000000 := by unfold WSt.len at hl; omega
  have hlB : s.behind.length < 1000000 := by unfold WSt.len at hl; omega
  obtain ⟨i0, hi, hz0, hz1, hz2⟩ := info_parts infoPT
  obtain ⟨j0, ji, jz0, jz1, jz2⟩ := info_parts infoT
  obtain ⟨h0, h1, h2, h3, h4, h5, h6, h7, hf⟩ := eight hp
  have hpl := lt_of_heap hp
  have hpl1 : p < w.heap.size + 1 := by omega
  have Hp := Lib.hid hp; have Ha := Lib.hid ha; have Hb := Lib.hid hb; have HJ := Lib.hid hJ; have Hlo := Lib.hid hlo; clear hp ha hb hJ hlo hl
  go_enter Try.func24, Try.ntmps24
  go_upto_region 2 with (fail)
  generalize hW : World.alloc w _ = W
  have q1 : W.heap[p]? = some (.cells (wcells F cap s.nothing (.slice aa s.ahead.length ca) (.slice ab s.behind.length cb) s.sum s.calls) 60 (0, 0)) := by rw [← hW]; exact heap_alloc_some Hp.out _
  have q2 : W.heap[w.heap.size]? = some (.cells (wcells F cap s.nothing (.slice aa s.ahead.length ca) (.slice ab s.behind.length cb) s.sum s.calls) 60 (0, 0)) := by rw [← hW]; exact heap_alloc_at _ _ _ rfl
  have q3 : w.Fr W [] := by rw [← hW]; exact (World.Fr.refl w []).alloc _
  have q4 : W.heap.size = w.heap.size + 1 := by rw [← hW]; simp
  clear hW h0 h1 h2 h3 h4 h5 h6 h7 hf
  have ha1 := Ha.out.fr q3 (by simp)
  obtain ⟨h0, h1, h2, h3, h4, h5, h6, h7, hf⟩ := eight q1
  have Q1 := Lib.hid q1; have Q2 := Lib.hid q2; have Q3 := Lib.hid q3; have Q4 := Lib.hid q4; have Ha1 := Lib.hid ha1; clear q1 q2 q3 q4 ha1
  have hne : ¬ p = w.heap.size := by omega
  go_wp2_with (at_builtin; refine wpList_append_src _ rfl (.const (.slice none 0 0)) (.tmp 10) 58 rfl 62 i0 (.agg #[.int .u64 0, .int .u64 0, .int .u64 0, .int .u64 0]) 4 32 Try.underlying58 hi hz0 hz1 hz2 rfl (.slice none 0 0) 0 [] rfl (World.Sl.nil _ _ _) (.slice aa s.ahead.length ca) s.ahead.length (s.ahead.flatMap thK.pair) rfl ?qs1 (oneP _) ⟨?qr1, ?qr2⟩ ?_)
  case qs1 => exact Ha1.out.rd
  case qr1 => omega
  case qr2 => omega
  intro v1 w1 hs1 hf1 hb1
  obtain ⟨a1, c1, rfl, _, _⟩ := hs1.shape
  try simp only [Nat.zero_add, List.nil_append] at hs1
  have hf1' : W.Fr w1 [] := hf1
  have p1 := hf1'.heap Q1.out (by simp)
  have p2 := hf1'.heap Q2.out (by simp)
  have hnb : ∀ k, k ∈ (Value.slice a1 s.ahead.length c1).blk → k = w.heap.size + 1 := fun k hk => by
    rcases hb1 k hk with h | h
    · simp [Value.blk] at h
    · rw [h]; exact Q4.out
  obtain ⟨b0, b1, b2, b3, b4, b5, b6, b7, bf⟩ := eight p1
  obtain ⟨d0, d1, d2, d3, d4, d5, d6, d7, df⟩ := eight p2
  have P1 := Lib.hid p1; have P2 := Lib.hid p2; have Hs1 := Lib.hid hs1; have Hf1 := Lib.hid hf1'; have Hnb := Lib.hid hnb; clear p1 p2 hs1 hf1 hf1' hb1 hnb h0 h1 h2 h3 h4 h5 h6 h7 hf
  go_upto_region 3 with (fail)
  generalize hW : World.setCell w1 _ _ = W2
  have q1 : W2.heap[p]? = some (.cells (wcells F cap s.nothing (.slice aa s.ahead.length ca) (.slice ab s.behind.length cb) s.sum s.calls) 60 (0, 0)) := by rw [← hW]; exact heap_set_other P1.out _ hne _
  have q2 : W2.heap[w.heap.size]? = some (.cells (wcells F cap s.nothing (.slice a1 s.ahead.length c1) (.slice ab s.behind.length cb) s.sum s.calls) 60 (0, 0)) := by rw [← hW]; exact heap_set_same P2.out 3 _
  have q3 : w1.Fr W2 [w.heap.size] := by rw [← hW]; exact (World.Fr.refl w1 _).setCell (by simp) _
  clear hW b0 b1 b2 b3 b4 b5 b6 b7 bf d0 d1 d2 d3 d4 d5 d6 d7 df
  have q4 : w.Fr W2 [] := (Q3.out.trans Hf1.out (by simp)).trans q3 (by intro j hj; simp at hj; subst hj; exact .inr (Nat.le_refl _))
  have hb2 := Hb.out.fr q4 (by simp)
  have hs2 := Hs1.out.fr q3 (fun k hk => by have := Hnb.out k hk; simp; omega)
  have hsz : w.heap.size + 1 ≤ W2.heap.size := by have := Q4.out; have := Hf1.out.size; have := q3.size; omega
  have hv1lt := hs2.lt
  obtain ⟨h0, h1, h2, h3, h4, h5, h6, h7, hf⟩ := eight q1
  have Q1' := Lib.hid q1; have Q2' := Lib.hid q2; have Q4' := Lib.hid q4; have Hb2 := Lib.hid hb2; have Hs2 := Lib.hid hs2; have Hsz := Lib.hid hsz; have Hv1 := Lib.hid hv1lt; clear q1 q2 q3 q4 hb2 hs2 hsz hv1lt
  go_wp2_with (at_builtin; refine wpList_append_src _ rfl (.const (.slice none 0 0)) (.tmp 16) 51 rfl 26 j0 (.agg #[.int .u64 0, .int .u64 0]) 2 16 Try.underlying51 ji jz0 jz1 jz2 rfl (.slice none 0 0) 0 [] rfl (World.Sl.nil _ _ _) (.slice ab s.behind.length cb) s.behind.length (s.behind.flatMap thK.enc) rfl ?rs1 (oneT _) ⟨?rr1, ?rr2⟩ ?_)
  case rs1 => exact Hb2.out.rd
  case rr1 => omega
  case rr2 => omega
  intro v2 w2 hs3 hf3 hb3
  obtain ⟨a2, c2, rfl, _, _⟩ := hs3.shape
  try simp only [Nat.zero_add, List.nil_append] at hs3
  have hf3' : W2.Fr w2 [] := hf3
  have p2 := hf3'.heap Q2'.out (by simp)
  have hnb2 : ∀ k, k ∈ (Value.slice a2 s.behind.length c2).blk → k = W2.heap.size := fun k hk => (hb3 k hk).elim (fun h => by simp [Value.blk] at h) id
  obtain ⟨d0, d1, d2, d3, d4, d5, d6, d7, df⟩ := eight p2
  have hst : w2.Fr (w2.setCell ⟨w.heap.size, 4, none⟩ (.slice a2 s.behind.length c2)) [w.heap.size] := (World.Fr.refl w2 _).setCell (by simp) _
  have hfw : w.Fr (w2.setCell ⟨w.heap.size, 4, none⟩ (.slice a2 s.behind.length c2)) [] := (Q4'.out.trans hf3' (by simp)).trans hst (by intro j hj; simp at hj; subst hj; exact .inr (Nat.le_refl _))
  have hfin : IsWin thK (fc F cap) (w2.setCell ⟨w.heap.size, 4, none⟩ (.slice a2 s.behind.length c2)) w.heap.size (.slice a1 s.ahead.length c1) (.slice a2 s.behind.length c2) s := by
    have hsz := Hsz.out
    refine ⟨heap_set_same p2 4 _, ((Hs2.out.fr hf3' (by simp)).fr hst (fun k hk => by have := Hnb.out k hk; simp; omega)), hs3.fr hst (fun k hk => by have := hnb2 k hk; simp; omega), fun hk => by have := Hnb.out _ hk; omega, fun hk => by have := hnb2 _ hk; omega, fun k hk hk2 => by have := hnb2 k hk2; have := Hv1.out k hk; omega⟩
  have hL : ∀ k, k ∈ foot w.heap.size (.slice a1 s.ahead.length c1) (.slice a2 s.behind.length c2) → w.heap.size ≤ k := fun k hk => by
    have hsz := Hsz.out
    simp only [foot, List.mem_cons, List.mem_append] at hk
    rcases hk with h | h | h
    · omega
    · have := Hnb.out k h; omega
    · have := hnb2 k h; omega
  have hJf := hF.stay _ _ _ [] HJ.out hfw (by simp)
  have Hfin := Lib.hid hfin; have HL := Lib.hid hL; have HJf := Lib.hid hJf; have Hfw := Lib.hid hfw; clear hfin hL hJf hfw hst p2 hs3 hf3 hf3' hb3 hnb2 h0 h1 h2 h3 h4 h5 h6 h7 hf
  go_wp2
  go_ret
  exact ⟨w.heap.size, _, rfl, ⟨⟨_, _, Hfin.out, rfl⟩, HJf.out, fun k hk hl => by have := HL.out k hk; have := Hlo.out k hl; omega⟩, Hfw.out, HL.out⟩
end
end Go.Proofs.Ytikodccbecmjiaa
