/-
  The document's numbers of 128 bits: divided. The document's numbers of 128 bits: common. The document's fractions: the least form.
-/
import Derived.Test.YtbejmdlncnkaaaaGreatNumA
import Derived.DeepKeys
import Derived.Test.YtbejmdlncnkaaaaGreatFraA
set_option maxRecDepth 100000
set_option maxHeartbeats 16000000
set_option linter.unusedSimpArgs false
namespace Go.Proofs.YtbejmdlncnkaaaaGreat
section
open Go.RowKit
theorem four_keep {w : World} {p k : Nat} {o : Obj} (hh : w.heap[k]? = some o) (hne : k ≠ p) (x y z u : Value) :
  ((((w.setCell ⟨p, 0, none⟩ x).setCell ⟨p, 1, none⟩ y).setCell ⟨p, 2, none⟩ z).setCell ⟨p, 3, none⟩ u).heap[k]? = some o :=
 heap_set_other (heap_set_other (heap_set_other (heap_set_other hh _ hne _) _ hne _) _ hne _) _ hne _
theorem four_gr {w W : World} (h : w.Gr W) {p : Nat} (hp : w.heap.size <= p) (x y z u : Value) :
  w.Gr ((((W.setCell ⟨p, 0, none⟩ x).setCell ⟨p, 1, none⟩ y).setCell ⟨p, 2, none⟩ z).setCell ⟨p, 3, none⟩ u) :=
 (((h.set (a := ⟨p, 0, none⟩) hp x).set (a := ⟨p, 1, none⟩) hp y).set (a := ⟨p, 2, none⟩) hp z).set (a := ⟨p, 3, none⟩) hp u
theorem results_cell_cell {P : Program} {fn : Func} {p q : Tmp} {ty ty' : TypeId} (h : fn.results = #[.cell p ty, .cell q ty']) (tmps : Array Value) (w : World) (g g' : Nat) (t t' : TypeId) (cs cs' : Array Value) (fr fr' : Nat × Nat) (d d' : TypeDesc)
  (hp : tmps.getD p undef = .pointer (some ⟨g, 0, none⟩)) (hq : tmps.getD q undef = .pointer (some ⟨g', 0, none⟩)) (hg : w.heap[g]? = some (.cells cs t fr)) (hg' : w.heap[g']? = some (.cells cs' t' fr'))
  (hu : P.underlying ty = some d) (hd : (match d with | .struct _ | .array _ _ => true | _ => false) = true) (hi : (P.info? ty).map (·.size) = some cs.size)
  (hu' : P.underlying ty' = some d') (hd' : (match d' with | .struct _ | .array _ _ => true | _ => false) = true) (hi' : (P.info? ty').map (·.size) = some cs'.size) :
  (results fn tmps).run P w = .ok (.tuple #[.agg cs, .agg cs']) w := by
 have hp' : tmps[p]?.getD undef = .pointer (some ⟨g, 0, none⟩) := by simpa using hp
 have hq' : tmps[q]?.getD undef = .pointer (some ⟨g', 0, none⟩) := by simpa using hq
 simp [results, h, hp', hq', asAddr, Sem.run_bind, Result.andThen, run_loadVar_row w g t ty cs fr d hg hu hd hi, run_loadVar_row w g' t' ty' cs' fr' d' hg' hu' hd' hi']
theorem rdivided181 {a b : Nat} (ha : a < 340282366920938463463374607431768211456) (hb0 : 0 < b) (hb : b <= 170141183460469231731687303715884105728) (w : World) : Calls Tryz.prog 274 #[bigV a, bigV b] w fun e w' => e = .returned (.tuple #[bigV (a / b), bigV (a % b)]) /\ w.Gr w' := by
 have qa := heap_alloc_at w (.cells (bigC a) 279) _ rfl
 have qb := heap_alloc_at (w.alloc (.cells (bigC a) 279)) (.cells (bigC b) 279) (w.heap.size + 1) (by simp)
 have qc := heap_alloc_at ((w.alloc (.cells (bigC a) 279)).alloc (.cells (bigC b) 279)) (.cells (dcells 0 0 0 0) 279) (w.heap.size + 2) (by simp)
 have qd := heap_alloc_at (((w.alloc (.cells (bigC a) 279)).alloc (.cells (bigC b) 279)).alloc (.cells (dcells 0 0 0 0) 279)) (.cells (dcells 0 0 0 0) 279) (w.heap.size + 3) (by simp)
 have qe := heap_alloc_at ((((w.alloc (.cells (bigC a) 279)).alloc (.cells (bigC b) 279)).alloc (.cells (dcells 0 0 0 0) 279)).alloc (.cells (dcells 0 0 0 0) 279)) (.cells (dcells 0 0 0 0) 279) (w.heap.size + 4) (by simp)
 have qf := heap_alloc_at (((((w.alloc (.cells (bigC a) 279)).alloc (.cells (bigC b) 279)).alloc (.cells (dcells 0 0 0 0) 279)).alloc (.cells (dcells 0 0 0 0) 279)).alloc (.cells (dcells 0 0 0 0) 279)) (.cells (dcells 0 0 0 0) 279) (w.heap.size + 5) (by simp)
 have qa := heap_alloc_some (heap_alloc_some (heap_alloc_some (heap_alloc_some (heap_alloc_some qa (.cells (bigC b) 279)) (.cells (dcells 0 0 0 0) 279)) (.cells (dcells 0 0 0 0) 279)) (.cells (dcells 0 0 0 0) 279)) (.cells (dcells 0 0 0 0) 279)
 have qb := heap_alloc_some (heap_alloc_some (heap_alloc_some (heap_alloc_some qb (.cells (dcells 0 0 0 0) 279)) (.cells (dcells 0 0 0 0) 279)) (.cells (dcells 0 0 0 0) 279)) (.cells (dcells 0 0 0 0) 279)
 have qc := heap_alloc_some (heap_alloc_some (heap_alloc_some qc (.cells (dcells 0 0 0 0) 279)) (.cells (dcells 0 0 0 0) 279)) (.cells (dcells 0 0 0 0) 279)
 have qd := heap_alloc_some (heap_alloc_some qd (.cells (dcells 0 0 0 0) 279)) (.cells (dcells 0 0 0 0) 279)
 have qe := heap_alloc_some qe (.cells (dcells 0 0 0 0) 279)
 have q3 := (((((World.Gr.refl w).alloc (.cells (bigC a) 279)).alloc (.cells (bigC b) 279)).alloc (.cells (dcells 0 0 0 0) 279)).alloc (.cells (dcells 0 0 0 0) 279)).alloc (.cells (dcells 0 0 0 0) 279) |>.alloc (.cells (dcells 0 0 0 0) 279)
 go_enter Tryz.func274, Tryz.ntmps274
 go_upto_region 3 with (fail)
 generalize hW : World.alloc (World.alloc (World.alloc (World.alloc (World.alloc (World.alloc w _) _) _) _) _) _ = W at *
 clear hW
 have Qa := Hz qa; have Qb := Hz qb; have Qc := Hz qc; have Qd := Hz qd; have Qe := Hz qe; have Qf := Hz qf; have Q3 := Hz q3; clear qa qb qc qd qe qf q3
 go_wp2
 go_loopw [8] (fun i wr => ∃ t : Nat, i = .int .i64 ((t : Int) - 1) /\ t <= 128 /\ Hid (wr.heap[w.heap.size]? = some (.cells (bigC a) 279 (0, 0))) /\ Hid (wr.heap[w.heap.size + 1]? = some (.cells (bigC b) 279 (0, 0))) /\ Hid (wr.heap[w.heap.size + 2]? = some (.cells (dcells 0 0 0 0) 279 (0, 0))) /\ Hid (wr.heap[w.heap.size + 3]? = some (.cells (dcells 0 0 0 0) 279 (0, 0))) /\ Hid (wr.heap[w.heap.size + 4]? = some (.cells (bigC (a / 2 ^ t / b * 2 ^ t)) 279 (0, 0))) /\ Hid (wr.heap[w.heap.size + 5]? = some (.cells (bigC (a / 2 ^ t % b)) 279 (0, 0))) /\ Hid (w.Gr wr)) (fun i _ => (intOf i + 1).toNat)
 case atStart =>
  have hz : a / 2 ^ 128 = 0 := Nat.div_eq_of_lt ha
  refine ⟨128, rfl, Nat.le_refl _, Qa, Qb, Qc, Qd, ?_, ?_, Q3⟩
  ·rw [hz, Nat.zero_div, Nat.zero_mul]; exact Qe
  ·rw [hz, Nat.zero_mod]; exact Qf
 case round =>
  obtain ⟨t, rfl, ht, HA, HB, HC, HD, HE, HF, HG⟩ := hrel
  clear Qa Qb Qc Qd Qe Qf Q3
  cases t with
  | zero =>
   have he := HE.out
   have hf := HF.out
   rw [Nat.pow_zero, Nat.div_one, Nat.mul_one] at he
   rw [Nat.pow_zero, Nat.div_one] at hf
   have HE' := Hz he; have HF' := Hz hf
   clear he hf HE HF
   obtain ⟨e0, e1, e2, e3, ef⟩ := four' HE'.out
   obtain ⟨f0, f1, f2, f3, ff⟩ := four' HF'.out
   obtain ⟨c0, c1, c2, c3, cf⟩ := four' HC.out
   obtain ⟨d0, d1, d2, d3, df⟩ := four' HD.out
   go_wp2
   go_region
   all_goals
    have hc := four_keep (four_set HC.out (.int .u64 (D0 (a / b))) (.int .u64 (D1 (a / b))) (.int .u64 (D2 (a / b))) (.int .u64 (D3 (a / b)))) (p := w.heap.size + 3) (by omega) (.int .u64 (D0 (a % b))) (.int .u64 (D1 (a % b))) (.int .u64 (D2 (a % b))) (.int .u64 (D3 (a % b)))
    have hd := four_set (four_keep HD.out (p := w.heap.size + 2) (by omega) (.int .u64 (D0 (a / b))) (.int .u64 (D1 (a / b))) (.int .u64 (D2 (a / b))) (.int .u64 (D3 (a / b)))) (.int .u64 (D0 (a % b))) (.int .u64 (D1 (a % b))) (.int .u64 (D2 (a % b))) (.int .u64 (D3 (a % b)))
    have hg := four_gr (four_gr HG.out (p := w.heap.size + 2) (by omega) (.int .u64 (D0 (a / b))) (.int .u64 (D1 (a / b))) (.int .u64 (D2 (a / b))) (.int .u64 (D3 (a / b)))) (p := w.heap.size + 3) (by omega) (.int .u64 (D0 (a % b))) (.int .u64 (D1 (a % b))) (.int .u64 (D2 (a % b))) (.int .u64 (D3 (a % b)))
    generalize hWW : World.setCell (World.setCell (World.setCell (World.setCell (World.setCell (World.setCell (World.setCell (World.setCell wr _ _) _ _) _ _) _ _) _ _) _ _) _ _) _ _ = X at *
    clear hWW
    go_wp2
    refine bodyPost_ret (results_cell_cell (P := Tryz.prog) rfl _ _ (w.heap.size + 2) (w.heap.size + 3) 279 279 _ _ (0, 0) (0, 0) _ _ rfl rfl hc hd Tryz.underlying279 rfl (by kernel_rfl) Tryz.underlying279 rfl (by kernel_rfl)) rfl ?_
    exact ⟨rfl, World.Gr.drew hg⟩
  | succ i =>
   have hi : ((i + 1 : Nat) : Int) - 1 = (i : Int) := by omega
   rw [hi]
   have hN := half_div a i
   have hn2 : a / 2 ^ i % 2 < 2 := Nat.mod_lt _ (by decide)
   have hlt : a / 2 ^ (i + 1) % b < b := Nat.mod_lt _ hb0
   have hst := div_step (X := a / 2 ^ (i + 1)) hb0 hn2
   rw [<- hN] at hst
   clear hN
   generalize a / 2 ^ (i + 1) / b = U at *
   generalize a / 2 ^ (i + 1) % b = R at *
   have HS := Hz hst
   clear hst
   obtain ⟨f0, f1, f2, f3, ff⟩ := four' HF.out
   have hpl := fun w => rplus185 (a := R) (b := R) (by omega) w
   have Hpl := Hz hpl
   clear hpl
   go_wp2_with fail
   refine (Hpl.out _).mono ?_
   rintro e w1 ⟨rfl, g⟩
   have ha1 := g.fr.heap HA.out (by simp); have hb1 := g.fr.heap HB.out (by simp); have hc1 := g.fr.heap HC.out (by simp); have hd1 := g.fr.heap HD.out (by simp); have he1 := g.fr.heap HE.out (by simp); have hf1 := g.fr.heap HF.out (by simp); have hg1 := HG.out.trans g
   clear HA HB HC HD HE HF HG f0 f1 f2 f3 ff g
   obtain ⟨f0, f1, f2, f3, ff⟩ := four' hf1
   go_upto_region 7 with (fail)
   clear f0 f1 f2 f3 ff Hpl
   have ha2 := four_keep ha1 (p := w.heap.size + 5) (by omega) (.int .u64 (D0 (R + R))) (.int .u64 (D1 (R + R))) (.int .u64 (D2 (R + R))) (.int .u64 (D3 (R + R)))
   have hb2 := four_keep hb1 (p := w.heap.size + 5) (by omega) (.int .u64 (D0 (R + R))) (.int .u64 (D1 (R + R))) (.int .u64 (D2 (R + R))) (.int .u64 (D3 (R + R)))
   have hc2 := four_keep hc1 (p := w.heap.size + 5) (by omega) (.int .u64 (D0 (R + R))) (.int .u64 (D1 (R + R))) (.int .u64 (D2 (R + R))) (.int .u64 (D3 (R + R)))
   have hd2 := four_keep hd1 (p := w.heap.size + 5) (by omega) (.int .u64 (D0 (R + R))) (.int .u64 (D1 (R + R))) (.int .u64 (D2 (R + R))) (.int .u64 (D3 (R + R)))
   have he2 := four_keep he1 (p := w.heap.size + 5) (by omega) (.int .u64 (D0 (R + R))) (.int .u64 (D1 (R + R))) (.int .u64 (D2 (R + R))) (.int .u64 (D3 (R + R)))
   have hf2 := four_set hf1 (.int .u64 (D0 (R + R))) (.int .u64 (D1 (R + R))) (.int .u64 (D2 (R + R))) (.int .u64 (D3 (R + R)))
   have hg2 := four_gr hg1 (p := w.heap.size + 5) (by omega) (.int .u64 (D0 (R + R))) (.int .u64 (D1 (R + R))) (.int .u64 (D2 (R + R))) (.int .u64 (D3 (R + R)))
   generalize hW : World.setCell (World.setCell (World.setCell (World.setCell w1 _ _) _ _) _ _) _ _ = w2 at *
   clear hW ha1 hb1 hc1 hd1 he1 hf1 hg1
   have HA := Hz ha2; have HB := Hz hb2; have HC := Hz hc2; have HD := Hz hd2; have HE := Hz he2; have HF := Hz hf2; have HG := Hz hg2
   clear ha2 hb2 hc2 hd2 he2 hf2 hg2
   obtain ⟨q, r, hq, hr, hir⟩ : ∃ q r : Nat, q < 4 /\ r < 32 /\ i = 32 * q + r := ⟨i / 32, i % 32, by omega, by omega, by omega⟩
   have g1 : (i : Int) / 32 = q := by omega
   have g2 : (i : Int).tdiv 32 = q := by rw [Int.tdiv_eq_ediv_of_nonneg (by omega)]; exact g1
   have g3 : (i : Int) % 32 = r := by omega
   have g4 : (i : Int).tmod 32 = r := by rw [Int.tmod_eq_emod_of_nonneg (by omega)]; exact g3
   have g5 : IntKind.u64.wrap (r : Int) = r := IntWalk.u64_in _ (by omega)
   have g6 : IntKind.i64.wrap (r : Int) = r := IntWalk.i64_in _ (by omega)
   obtain ⟨a0, a1, a2, a3, af⟩ := four' HA.out
   obtain ⟨f0, f1, f2, f3, ff⟩ := four' HF.out
   have HI := Hz hir
   clear hir
   have hq' : q = 0 ∨ q = 1 ∨ q = 2 ∨ q = 3 := by omega
   clear hq
   rcases hq' with rfl | rfl | rfl | rfl
   ·have hbit := bit0 (a := a) hr
    have hn := HI.out
    rw [<- hn] at hbit
    clear hn
    generalize a / 2 ^ i % 2 = n at *
    obtain ⟨s0, s1, s2, s3, s4⟩ := twice_bit (R := R) hn2
    have hadd : IntKind.u64.wrap ((D0 (R + R) : Int) + (n : Int)) = ((D0 (R + R + n) : Nat) : Int) := by rw [<- s0, IntWalk.u64_in] <;> omega
    go_region
    all_goals
     have hf3 := heap_set_same (w := w2) HF.out 0 (.int .u64 (D0 (R + R + n)))
     have hf4 : (w2.setCell ⟨w.heap.size + 5, 0, none⟩ (.int .u64 (D0 (R + R + n)))).heap[w.heap.size + 5]? = some (.cells (bigC (R + R + n)) 279 (0, 0)) := by rw [hf3, s1, s2, s3]; rfl
     have HA3 := Hz (heap_set_other HA.out ⟨w.heap.size + 5, 0, none⟩ (by show w.heap.size ≠ w.heap.size + 5; omega) (.int .u64 (D0 (R + R + n))))
     have HB3 := Hz (heap_set_other HB.out ⟨w.heap.size + 5, 0, none⟩ (by show w.heap.size + 1 ≠ w.heap.size + 5; omega) (.int .u64 (D0 (R + R + n))))
     have HC3 := Hz (heap_set_other HC.out ⟨w.heap.size + 5, 0, none⟩ (by show w.heap.size + 2 ≠ w.heap.size + 5; omega) (.int .u64 (D0 (R + R + n))))
     have HD3 := Hz (heap_set_other HD.out ⟨w.heap.size + 5, 0, none⟩ (by show w.heap.size + 3 ≠ w.heap.size + 5; omega) (.int .u64 (D0 (R + R + n))))
     have HE3 := Hz (heap_set_other HE.out ⟨w.heap.size + 5, 0, none⟩ (by show w.heap.size + 4 ≠ w.heap.size + 5; omega) (.int .u64 (D0 (R + R + n))))
     have HG3 := Hz (World.Gr.drew (HG.out.set (a := ⟨w.heap.size + 5, 0, none⟩) (by show w.heap.size <= w.heap.size + 5; omega) (.int .u64 (D0 (R + R + n)))))
     have HF3 := Hz hf4
     clear hf3 hf4 hbit hadd s0 s1 s2 s3 s4 HA HB HC HD HE HF HG a0 a1 a2 a3 af f0 f1 f2 f3 ff
     generalize hW : World.setCell w2 _ _ = w3 at *
     clear hW
     have hSb : R + R + n < 340282366920938463463374607431768211456 := by omega
     clear hn2 hlt
     generalize R + R + n = S at *
     obtain ⟨f0, f1, f2, f3, ff⟩ := four' HF3.out
     obtain ⟨b0, b1, b2, b3, bf⟩ := four' HB3.out
     have hcmp := fun w => rcompare134 (a := S) (b := b) hSb (by omega) w
     have hcc : (0 : Int) <= Lib.compareInt (S : Nat) (b : Nat) ↔ b <= S := by unfold Lib.compareInt; split <;> (try split) <;> omega
     generalize Lib.compareInt (S : Nat) (b : Nat) = cc at *
     have Hcmp := Hz hcmp
     clear hcmp
     go_wp2_with fail
     refine (Hcmp.out _).mono ?_
     rintro e w4 ⟨rfl, g⟩
     have ha4 := g.fr.heap HA3.out (by simp); have hb4 := g.fr.heap HB3.out (by simp); have hc4 := g.fr.heap HC3.out (by simp); have hd4 := g.fr.heap HD3.out (by simp); have he4 := g.fr.heap HE3.out (by simp); have hf4 := g.fr.heap HF3.out (by simp); have hg4 := HG3.out.trans g
     clear HA3 HB3 HC3 HD3 HE3 HF3 HG3 f0 f1 f2 f3 ff b0 b1 b2 b3 bf g Hcmp
     have HA := Hz ha4; have HB := Hz hb4; have HC := Hz hc4; have HD := Hz hd4; have HE := Hz he4; have HF := Hz hf4; have HG := Hz hg4
     clear ha4 hb4 hc4 hd4 he4 hf4 hg4
     by_cases hle : b <= S
     ·have hcd : decide ((0 : Int) <= cc) = true := decide_eq_true (hcc.2 hle)
      clear hcc
      have hls := fun w => rless186 (a := S) (b := b) hSb hle w
      have Hls := Hz hls
      clear hls
      have HL := Hz hle
      clear hle
      obtain ⟨f0, f1, f2, f3, ff⟩ := four' HF.out
      obtain ⟨b0, b1, b2, b3, bf⟩ := four' HB.out
      go_wp2_with fail
      refine (Hls.out _).mono ?_
      rintro e w5 ⟨rfl, g⟩
      have ha5 := g.fr.heap HA.out (by simp); have hb5 := g.fr.heap HB.out (by simp); have hc5 := g.fr.heap HC.out (by simp); have hd5 := g.fr.heap HD.out (by simp); have he5 := g.fr.heap HE.out (by simp); have hf5 := g.fr.heap HF.out (by simp); have hg5 := HG.out.trans g
      clear HA HB HC HD HE HF HG f0 f1 f2 f3 ff b0 b1 b2 b3 bf g Hls
      obtain ⟨f0, f1, f2, f3, ff⟩ := four' hf5
      go_upto_region 11 with (fail)
      clear f0 f1 f2 f3 ff
      have HA := Hz (four_keep ha5 (p := w.heap.size + 5) (by omega) (.int .u64 (D0 (S - b))) (.int .u64 (D1 (S - b))) (.int .u64 (D2 (S - b))) (.int .u64 (D3 (S - b))))
      have HB := Hz (four_keep hb5 (p := w.heap.size + 5) (by omega) (.int .u64 (D0 (S - b))) (.int .u64 (D1 (S - b))) (.int .u64 (D2 (S - b))) (.int .u64 (D3 (S - b))))
      have HC := Hz (four_keep hc5 (p := w.heap.size + 5) (by omega) (.int .u64 (D0 (S - b))) (.int .u64 (D1 (S - b))) (.int .u64 (D2 (S - b))) (.int .u64 (D3 (S - b))))
      have HD := Hz (four_keep hd5 (p := w.heap.size + 5) (by omega) (.int .u64 (D0 (S - b))) (.int .u64 (D1 (S - b))) (.int .u64 (D2 (S - b))) (.int .u64 (D3 (S - b))))
      have HE := Hz (four_keep he5 (p := w.heap.size + 5) (by omega) (.int .u64 (D0 (S - b))) (.int .u64 (D1 (S - b))) (.int .u64 (D2 (S - b))) (.int .u64 (D3 (S - b))))
      have HF := Hz (four_set hf5 (.int .u64 (D0 (S - b))) (.int .u64 (D1 (S - b))) (.int .u64 (D2 (S - b))) (.int .u64 (D3 (S - b))))
      have HG := Hz (four_gr hg5 (p := w.heap.size + 5) (by omega) (.int .u64 (D0 (S - b))) (.int .u64 (D1 (S - b))) (.int .u64 (D2 (S - b))) (.int .u64 (D3 (S - b))))
      generalize hW : World.setCell (World.setCell (World.setCell (World.setCell w5 _ _) _ _) _ _) _ _ = w6 at *
      clear hW ha5 hb5 hc5 hd5 he5 hf5 hg5
      have hT : a / 2 ^ i / b * 2 ^ i = U * 2 ^ (32 * 0 + r + 1) + 2 ^ (32 * 0 + r) := by
       rw [HS.out.1, if_pos HL.out, HI.out, Nat.pow_succ, Nat.add_mul, Nat.one_mul, Nat.mul_comm 2 U, Nat.mul_assoc, Nat.mul_comm 2]
      have hM : a / 2 ^ i % b = S - b := by rw [HS.out.2, if_pos HL.out]
      have he6 := HE.out
      rw [HI.out] at he6
      obtain ⟨v0, v1, v2, v3, v4⟩ := dig_add0 (U := U) hr
      generalize U * 2 ^ (32 * 0 + r + 1) = T at *
      obtain ⟨e0, e1, e2, e3, ef⟩ := four' he6
      have hsh : IntKind.u64.wrap ((D0 T : Int) + IntKind.u64.wrap (2 ^ r)) = ((D0 (T + 2 ^ (32 * 0 + r)) : Nat) : Int) := by
       have hp : (2 : Int) ^ r = ((2 ^ r : Nat) : Int) := by rw [Int.natCast_pow]; rfl
       rw [hp, <- v0]
       clear hT
       generalize 2 ^ r = P at *
       rw [IntWalk.u64_in (P : Int) (by omega), IntWalk.u64_in ((D0 T : Int) + P) (by omega)]
       omega
      have HT := Hz hT; have HM := Hz hM
      clear hT hM HE
      go_wp2
      go_roundw
      ·refine ⟨i, rfl, by omega, Hz (heap_set_other HA.out _ (by show w.heap.size ≠ w.heap.size + 4; omega) _), Hz (heap_set_other HB.out _ (by show w.heap.size + 1 ≠ w.heap.size + 4; omega) _), Hz (heap_set_other HC.out _ (by show w.heap.size + 2 ≠ w.heap.size + 4; omega) _), Hz (heap_set_other HD.out _ (by show w.heap.size + 3 ≠ w.heap.size + 4; omega) _), Hz ?_, Hz ?_, Hz (World.Gr.set HG.out (by show w.heap.size <= w.heap.size + 4; omega) _)⟩
       ·rw [HT.out]
        refine (heap_set_same he6 0 _).trans ?_
        unfold bigC
        rw [<- v1, <- v2, <- v3]
        first | rfl | (simp only [Nat.mul_zero, Nat.zero_add]; rfl)
       ·rw [HM.out]
        exact heap_set_other HF.out _ (by show w.heap.size + 5 ≠ w.heap.size + 4; omega) _
      ·simp only [intOf]; omega
     ·have hcd : decide ((0 : Int) <= cc) = false := decide_eq_false (fun h => hle (hcc.1 h))
      have hT : a / 2 ^ i / b * 2 ^ i = U * 2 ^ (i + 1) := by
       rw [HS.out.1, if_neg hle, Nat.add_zero, Nat.pow_succ, Nat.mul_comm 2 U, Nat.mul_assoc, Nat.mul_comm 2]
      have hM : a / 2 ^ i % b = S := by rw [HS.out.2, if_neg hle]
      have HT := Hz hT; have HM := Hz hM
      clear hcc hle hT hM
      go_wp2
      go_roundw
      ·refine ⟨i, rfl, by omega, HA, HB, HC, HD, Hz ?_, Hz ?_, HG⟩
       ·rw [HT.out]; exact HE.out
       ·rw [HM.out]; exact HF.out
      ·simp only [intOf]; omega
   ·have hbit := bit1 (a := a) hr
    have hn := HI.out
    rw [<- hn] at hbit
    clear hn
    generalize a / 2 ^ i % 2 = n at *
    obtain ⟨s0, s1, s2, s3, s4⟩ := twice_bit (R := R) hn2
    have hadd : IntKind.u64.wrap ((D0 (R + R) : Int) + (n : Int)) = ((D0 (R + R + n) : Nat) : Int) := by rw [<- s0, IntWalk.u64_in] <;> omega
    go_region
    all_goals
     have hf3 := heap_set_same (w := w2) HF.out 0 (.int .u64 (D0 (R + R + n)))
     have hf4 : (w2.setCell ⟨w.heap.size + 5, 0, none⟩ (.int .u64 (D0 (R + R + n)))).heap[w.heap.size + 5]? = some (.cells (bigC (R + R + n)) 279 (0, 0)) := by rw [hf3, s1, s2, s3]; rfl
     have HA3 := Hz (heap_set_other HA.out ⟨w.heap.size + 5, 0, none⟩ (by show w.heap.size ≠ w.heap.size + 5; omega) (.int .u64 (D0 (R + R + n))))
     have HB3 := Hz (heap_set_other HB.out ⟨w.heap.size + 5, 0, none⟩ (by show w.heap.size + 1 ≠ w.heap.size + 5; omega) (.int .u64 (D0 (R + R + n))))
     have HC3 := Hz (heap_set_other HC.out ⟨w.heap.size + 5, 0, none⟩ (by show w.heap.size + 2 ≠ w.heap.size + 5; omega) (.int .u64 (D0 (R + R + n))))
     have HD3 := Hz (heap_set_other HD.out ⟨w.heap.size + 5, 0, none⟩ (by show w.heap.size + 3 ≠ w.heap.size + 5; omega) (.int .u64 (D0 (R + R + n))))
     have HE3 := Hz (heap_set_other HE.out ⟨w.heap.size + 5, 0, none⟩ (by show w.heap.size + 4 ≠ w.heap.size + 5; omega) (.int .u64 (D0 (R + R + n))))
     have HG3 := Hz (World.Gr.drew (HG.out.set (a := ⟨w.heap.size + 5, 0, none⟩) (by show w.heap.size <= w.heap.size + 5; omega) (.int .u64 (D0 (R + R + n)))))
     have HF3 := Hz hf4
     clear hf3 hf4 hbit hadd s0 s1 s2 s3 s4 HA HB HC HD HE HF HG a0 a1 a2 a3 af f0 f1 f2 f3 ff
     generalize hW : World.setCell w2 _ _ = w3 at *
     clear hW
     have hSb : R + R + n < 340282366920938463463374607431768211456 := by omega
     clear hn2 hlt
     generalize R + R + n = S at *
     obtain ⟨f0, f1, f2, f3, ff⟩ := four' HF3.out
     obtain ⟨b0, b1, b2, b3, bf⟩ := four' HB3.out
     have hcmp := fun w => rcompare134 (a := S) (b := b) hSb (by omega) w
     have hcc : (0 : Int) <= Lib.compareInt (S : Nat) (b : Nat) ↔ b <= S := by unfold Lib.compareInt; split <;> (try split) <;> omega
     generalize Lib.compareInt (S : Nat) (b : Nat) = cc at *
     have Hcmp := Hz hcmp
     clear hcmp
     go_wp2_with fail
     refine (Hcmp.out _).mono ?_
     rintro e w4 ⟨rfl, g⟩
     have ha4 := g.fr.heap HA3.out (by simp); have hb4 := g.fr.heap HB3.out (by simp); have hc4 := g.fr.heap HC3.out (by simp); have hd4 := g.fr.heap HD3.out (by simp); have he4 := g.fr.heap HE3.out (by simp); have hf4 := g.fr.heap HF3.out (by simp); have hg4 := HG3.out.trans g
     clear HA3 HB3 HC3 HD3 HE3 HF3 HG3 f0 f1 f2 f3 ff b0 b1 b2 b3 bf g Hcmp
     have HA := Hz ha4; have HB := Hz hb4; have HC := Hz hc4; have HD := Hz hd4; have HE := Hz he4; have HF := Hz hf4; have HG := Hz hg4
     clear ha4 hb4 hc4 hd4 he4 hf4 hg4
     by_cases hle : b <= S
     ·have hcd : decide ((0 : Int) <= cc) = true := decide_eq_true (hcc.2 hle)
      clear hcc
      have hls := fun w => rless186 (a := S) (b := b) hSb hle w
      have Hls := Hz hls
      clear hls
      have HL := Hz hle
      clear hle
      obtain ⟨f0, f1, f2, f3, ff⟩ := four' HF.out
      obtain ⟨b0, b1, b2, b3, bf⟩ := four' HB.out
      go_wp2_with fail
      refine (Hls.out _).mono ?_
      rintro e w5 ⟨rfl, g⟩
      have ha5 := g.fr.heap HA.out (by simp); have hb5 := g.fr.heap HB.out (by simp); have hc5 := g.fr.heap HC.out (by simp); have hd5 := g.fr.heap HD.out (by simp); have he5 := g.fr.heap HE.out (by simp); have hf5 := g.fr.heap HF.out (by simp); have hg5 := HG.out.trans g
      clear HA HB HC HD HE HF HG f0 f1 f2 f3 ff b0 b1 b2 b3 bf g Hls
      obtain ⟨f0, f1, f2, f3, ff⟩ := four' hf5
      go_upto_region 11 with (fail)
      clear f0 f1 f2 f3 ff
      have HA := Hz (four_keep ha5 (p := w.heap.size + 5) (by omega) (.int .u64 (D0 (S - b))) (.int .u64 (D1 (S - b))) (.int .u64 (D2 (S - b))) (.int .u64 (D3 (S - b))))
      have HB := Hz (four_keep hb5 (p := w.heap.size + 5) (by omega) (.int .u64 (D0 (S - b))) (.int .u64 (D1 (S - b))) (.int .u64 (D2 (S - b))) (.int .u64 (D3 (S - b))))
      have HC := Hz (four_keep hc5 (p := w.heap.size + 5) (by omega) (.int .u64 (D0 (S - b))) (.int .u64 (D1 (S - b))) (.int .u64 (D2 (S - b))) (.int .u64 (D3 (S - b))))
      have HD := Hz (four_keep hd5 (p := w.heap.size + 5) (by omega) (.int .u64 (D0 (S - b))) (.int .u64 (D1 (S - b))) (.int .u64 (D2 (S - b))) (.int .u64 (D3 (S - b))))
      have HE := Hz (four_keep he5 (p := w.heap.size + 5) (by omega) (.int .u64 (D0 (S - b))) (.int .u64 (D1 (S - b))) (.int .u64 (D2 (S - b))) (.int .u64 (D3 (S - b))))
      have HF := Hz (four_set hf5 (.int .u64 (D0 (S - b))) (.int .u64 (D1 (S - b))) (.int .u64 (D2 (S - b))) (.int .u64 (D3 (S - b))))
      have HG := Hz (four_gr hg5 (p := w.heap.size + 5) (by omega) (.int .u64 (D0 (S - b))) (.int .u64 (D1 (S - b))) (.int .u64 (D2 (S - b))) (.int .u64 (D3 (S - b))))
      generalize hW : World.setCell (World.setCell (World.setCell (World.setCell w5 _ _) _ _) _ _) _ _ = w6 at *
      clear hW ha5 hb5 hc5 hd5 he5 hf5 hg5
      have hT : a / 2 ^ i / b * 2 ^ i = U * 2 ^ (32 * 1 + r + 1) + 2 ^ (32 * 1 + r) := by
       rw [HS.out.1, if_pos HL.out, HI.out, Nat.pow_succ, Nat.add_mul, Nat.one_mul, Nat.mul_comm 2 U, Nat.mul_assoc, Nat.mul_comm 2]
      have hM : a / 2 ^ i % b = S - b := by rw [HS.out.2, if_pos HL.out]
      have he6 := HE.out
      rw [HI.out] at he6
      obtain ⟨v0, v1, v2, v3, v4⟩ := dig_add1 (U := U) hr
      generalize U * 2 ^ (32 * 1 + r + 1) = T at *
      obtain ⟨e0, e1, e2, e3, ef⟩ := four' he6
      have hsh : IntKind.u64.wrap ((D1 T : Int) + IntKind.u64.wrap (2 ^ r)) = ((D1 (T + 2 ^ (32 * 1 + r)) : Nat) : Int) := by
       have hp : (2 : Int) ^ r = ((2 ^ r : Nat) : Int) := by rw [Int.natCast_pow]; rfl
       rw [hp, <- v1]
       clear hT
       generalize 2 ^ r = P at *
       rw [IntWalk.u64_in (P : Int) (by omega), IntWalk.u64_in ((D1 T : Int) + P) (by omega)]
       omega
      have HT := Hz hT; have HM := Hz hM
      clear hT hM HE
      go_wp2
      go_roundw
      ·refine ⟨i, rfl, by omega, Hz (heap_set_other HA.out _ (by show w.heap.size ≠ w.heap.size + 4; omega) _), Hz (heap_set_other HB.out _ (by show w.heap.size + 1 ≠ w.heap.size + 4; omega) _), Hz (heap_set_other HC.out _ (by show w.heap.size + 2 ≠ w.heap.size + 4; omega) _), Hz (heap_set_other HD.out _ (by show w.heap.size + 3 ≠ w.heap.size + 4; omega) _), Hz ?_, Hz ?_, Hz (World.Gr.set HG.out (by show w.heap.size <= w.heap.size + 4; omega) _)⟩
       ·rw [HT.out]
        refine (heap_set_same he6 1 _).trans ?_
        unfold bigC
        rw [<- v0, <- v2, <- v3]
        first | rfl | (simp only [Nat.mul_zero, Nat.zero_add]; rfl)
       ·rw [HM.out]
        exact heap_set_other HF.out _ (by show w.heap.size + 5 ≠ w.heap.size + 4; omega) _
      ·simp only [intOf]; omega
     ·have hcd : decide ((0 : Int) <= cc) = false := decide_eq_false (fun h => hle (hcc.1 h))
      have hT : a / 2 ^ i / b * 2 ^ i = U * 2 ^ (i + 1) := by
       rw [HS.out.1, if_neg hle, Nat.add_zero, Nat.pow_succ, Nat.mul_comm 2 U, Nat.mul_assoc, Nat.mul_comm 2]
      have hM : a / 2 ^ i % b = S := by rw [HS.out.2, if_neg hle]
      have HT := Hz hT; have HM := Hz hM
      clear hcc hle hT hM
      go_wp2
      go_roundw
      ·refine ⟨i, rfl, by omega, HA, HB, HC, HD, Hz ?_, Hz ?_, HG⟩
       ·rw [HT.out]; exact HE.out
       ·rw [HM.out]; exact HF.out
      ·simp only [intOf]; omega
   ·have hbit := bit2 (a := a) hr
    have hn := HI.out
    rw [<- hn] at hbit
    clear hn
    generalize a / 2 ^ i % 2 = n at *
    obtain ⟨s0, s1, s2, s3, s4⟩ := twice_bit (R := R) hn2
    have hadd : IntKind.u64.wrap ((D0 (R + R) : Int) + (n : Int)) = ((D0 (R + R + n) : Nat) : Int) := by rw [<- s0, IntWalk.u64_in] <;> omega
    go_region
    all_goals
     have hf3 := heap_set_same (w := w2) HF.out 0 (.int .u64 (D0 (R + R + n)))
     have hf4 : (w2.setCell ⟨w.heap.size + 5, 0, none⟩ (.int .u64 (D0 (R + R + n)))).heap[w.heap.size + 5]? = some (.cells (bigC (R + R + n)) 279 (0, 0)) := by rw [hf3, s1, s2, s3]; rfl
     have HA3 := Hz (heap_set_other HA.out ⟨w.heap.size + 5, 0, none⟩ (by show w.heap.size ≠ w.heap.size + 5; omega) (.int .u64 (D0 (R + R + n))))
     have HB3 := Hz (heap_set_other HB.out ⟨w.heap.size + 5, 0, none⟩ (by show w.heap.size + 1 ≠ w.heap.size + 5; omega) (.int .u64 (D0 (R + R + n))))
     have HC3 := Hz (heap_set_other HC.out ⟨w.heap.size + 5, 0, none⟩ (by show w.heap.size + 2 ≠ w.heap.size + 5; omega) (.int .u64 (D0 (R + R + n))))
     have HD3 := Hz (heap_set_other HD.out ⟨w.heap.size + 5, 0, none⟩ (by show w.heap.size + 3 ≠ w.heap.size + 5; omega) (.int .u64 (D0 (R + R + n))))
     have HE3 := Hz (heap_set_other HE.out ⟨w.heap.size + 5, 0, none⟩ (by show w.heap.size + 4 ≠ w.heap.size + 5; omega) (.int .u64 (D0 (R + R + n))))
     have HG3 := Hz (World.Gr.drew (HG.out.set (a := ⟨w.heap.size + 5, 0, none⟩) (by show w.heap.size <= w.heap.size + 5; omega) (.int .u64 (D0 (R + R + n)))))
     have HF3 := Hz hf4
     clear hf3 hf4 hbit hadd s0 s1 s2 s3 s4 HA HB HC HD HE HF HG a0 a1 a2 a3 af f0 f1 f2 f3 ff
     generalize hW : World.setCell w2 _ _ = w3 at *
     clear hW
     have hSb : R + R + n < 340282366920938463463374607431768211456 := by omega
     clear hn2 hlt
     generalize R + R + n = S at *
     obtain ⟨f0, f1, f2, f3, ff⟩ := four' HF3.out
     obtain ⟨b0, b1, b2, b3, bf⟩ := four' HB3.out
     have hcmp := fun w => rcompare134 (a := S) (b := b) hSb (by omega) w
     have hcc : (0 : Int) <= Lib.compareInt (S : Nat) (b : Nat) ↔ b <= S := by unfold Lib.compareInt; split <;> (try split) <;> omega
     generalize Lib.compareInt (S : Nat) (b : Nat) = cc at *
     have Hcmp := Hz hcmp
     clear hcmp
     go_wp2_with fail
     refine (Hcmp.out _).mono ?_
     rintro e w4 ⟨rfl, g⟩
     have ha4 := g.fr.heap HA3.out (by simp); have hb4 := g.fr.heap HB3.out (by simp); have hc4 := g.fr.heap HC3.out (by simp); have hd4 := g.fr.heap HD3.out (by simp); have he4 := g.fr.heap HE3.out (by simp); have hf4 := g.fr.heap HF3.out (by simp); have hg4 := HG3.out.trans g
     clear HA3 HB3 HC3 HD3 HE3 HF3 HG3 f0 f1 f2 f3 ff b0 b1 b2 b3 bf g Hcmp
     have HA := Hz ha4; have HB := Hz hb4; have HC := Hz hc4; have HD := Hz hd4; have HE := Hz he4; have HF := Hz hf4; have HG := Hz hg4
     clear ha4 hb4 hc4 hd4 he4 hf4 hg4
     by_cases hle : b <= S
     ·have hcd : decide ((0 : Int) <= cc) = true := decide_eq_true (hcc.2 hle)
      clear hcc
      have hls := fun w => rless186 (a := S) (b := b) hSb hle w
      have Hls := Hz hls
      clear hls
      have HL := Hz hle
      clear hle
      obtain ⟨f0, f1, f2, f3, ff⟩ := four' HF.out
      obtain ⟨b0, b1, b2, b3, bf⟩ := four' HB.out
      go_wp2_with fail
      refine (Hls.out _).mono ?_
      rintro e w5 ⟨rfl, g⟩
      have ha5 := g.fr.heap HA.out (by simp); have hb5 := g.fr.heap HB.out (by simp); have hc5 := g.fr.heap HC.out (by simp); have hd5 := g.fr.heap HD.out (by simp); have he5 := g.fr.heap HE.out (by simp); have hf5 := g.fr.heap HF.out (by simp); have hg5 := HG.out.trans g
      clear HA HB HC HD HE HF HG f0 f1 f2 f3 ff b0 b1 b2 b3 bf g Hls
      obtain ⟨f0, f1, f2, f3, ff⟩ := four' hf5
      go_upto_region 11 with (fail)
      clear f0 f1 f2 f3 ff
      have HA := Hz (four_keep ha5 (p := w.heap.size + 5) (by omega) (.int .u64 (D0 (S - b))) (.int .u64 (D1 (S - b))) (.int .u64 (D2 (S - b))) (.int .u64 (D3 (S - b))))
      have HB := Hz (four_keep hb5 (p := w.heap.size + 5) (by omega) (.int .u64 (D0 (S - b))) (.int .u64 (D1 (S - b))) (.int .u64 (D2 (S - b))) (.int .u64 (D3 (S - b))))
      have HC := Hz (four_keep hc5 (p := w.heap.size + 5) (by omega) (.int .u64 (D0 (S - b))) (.int .u64 (D1 (S - b))) (.int .u64 (D2 (S - b))) (.int .u64 (D3 (S - b))))
      have HD := Hz (four_keep hd5 (p := w.heap.size + 5) (by omega) (.int .u64 (D0 (S - b))) (.int .u64 (D1 (S - b))) (.int .u64 (D2 (S - b))) (.int .u64 (D3 (S - b))))
      have HE := Hz (four_keep he5 (p := w.heap.size + 5) (by omega) (.int .u64 (D0 (S - b))) (.int .u64 (D1 (S - b))) (.int .u64 (D2 (S - b))) (.int .u64 (D3 (S - b))))
      have HF := Hz (four_set hf5 (.int .u64 (D0 (S - b))) (.int .u64 (D1 (S - b))) (.int .u64 (D2 (S - b))) (.int .u64 (D3 (S - b))))
      have HG := Hz (four_gr hg5 (p := w.heap.size + 5) (by omega) (.int .u64 (D0 (S - b))) (.int .u64 (D1 (S - b))) (.int .u64 (D2 (S - b))) (.int .u64 (D3 (S - b))))
      generalize hW : World.setCell (World.setCell (World.setCell (World.setCell w5 _ _) _ _) _ _) _ _ = w6 at *
      clear hW ha5 hb5 hc5 hd5 he5 hf5 hg5
      have hT : a / 2 ^ i / b * 2 ^ i = U * 2 ^ (32 * 2 + r + 1) + 2 ^ (32 * 2 + r) := by
       rw [HS.out.1, if_pos HL.out, HI.out, Nat.pow_succ, Nat.add_mul, Nat.one_mul, Nat.mul_comm 2 U, Nat.mul_assoc, Nat.mul_comm 2]
      have hM : a / 2 ^ i % b = S - b := by rw [HS.out.2, if_pos HL.out]
      have he6 := HE.out
      rw [HI.out] at he6
      obtain ⟨v0, v1, v2, v3, v4⟩ := dig_add2 (U := U) hr
      generalize U * 2 ^ (32 * 2 + r + 1) = T at *
      obtain ⟨e0, e1, e2, e3, ef⟩ := four' he6
      have hsh : IntKind.u64.wrap ((D2 T : Int) + IntKind.u64.wrap (2 ^ r)) = ((D2 (T + 2 ^ (32 * 2 + r)) : Nat) : Int) := by
       have hp : (2 : Int) ^ r = ((2 ^ r : Nat) : Int) := by rw [Int.natCast_pow]; rfl
       rw [hp, <- v2]
       clear hT
       generalize 2 ^ r = P at *
       rw [IntWalk.u64_in (P : Int) (by omega), IntWalk.u64_in ((D2 T : Int) + P) (by omega)]
       omega
      have HT := Hz hT; have HM := Hz hM
      clear hT hM HE
      go_wp2
      go_roundw
      ·refine ⟨i, rfl, by omega, Hz (heap_set_other HA.out _ (by show w.heap.size ≠ w.heap.size + 4; omega) _), Hz (heap_set_other HB.out _ (by show w.heap.size + 1 ≠ w.heap.size + 4; omega) _), Hz (heap_set_other HC.out _ (by show w.heap.size + 2 ≠ w.heap.size + 4; omega) _), Hz (heap_set_other HD.out _ (by show w.heap.size + 3 ≠ w.heap.size + 4; omega) _), Hz ?_, Hz ?_, Hz (World.Gr.set HG.out (by show w.heap.size <= w.heap.size + 4; omega) _)⟩
       ·rw [HT.out]
        refine (heap_set_same he6 2 _).trans ?_
        unfold bigC
        rw [<- v0, <- v1, <- v3]
        first | rfl | (simp only [Nat.mul_zero, Nat.zero_add]; rfl)
       ·rw [HM.out]
        exact heap_set_other HF.out _ (by show w.heap.size + 5 ≠ w.heap.size + 4; omega) _
      ·simp only [intOf]; omega
     ·have hcd : decide ((0 : Int) <= cc) = false := decide_eq_false (fun h => hle (hcc.1 h))
      have hT : a / 2 ^ i / b * 2 ^ i = U * 2 ^ (i + 1) := by
       rw [HS.out.1, if_neg hle, Nat.add_zero, Nat.pow_succ, Nat.mul_comm 2 U, Nat.mul_assoc, Nat.mul_comm 2]
      have hM : a / 2 ^ i % b = S := by rw [HS.out.2, if_neg hle]
      have HT := Hz hT; have HM := Hz hM
      clear hcc hle hT hM
      go_wp2
      go_roundw
      ·refine ⟨i, rfl, by omega, HA, HB, HC, HD, Hz ?_, Hz ?_, HG⟩
       ·rw [HT.out]; exact HE.out
       ·rw [HM.out]; exact HF.out
      ·simp only [intOf]; omega
   ·have hbit := bit3 (a := a) hr
    have hn := HI.out
    rw [<- hn] at hbit
    clear hn
    generalize a / 2 ^ i % 2 = n at *
    obtain ⟨s0, s1, s2, s3, s4⟩ := twice_bit (R := R) hn2
    have hadd : IntKind.u64.wrap ((D0 (R + R) : Int) + (n : Int)) = ((D0 (R + R + n) : Nat) : Int) := by rw [<- s0, IntWalk.u64_in] <;> omega
    go_region
    all_goals
     have hf3 := heap_set_same (w := w2) HF.out 0 (.int .u64 (D0 (R + R + n)))
     have hf4 : (w2.setCell ⟨w.heap.size + 5, 0, none⟩ (.int .u64 (D0 (R + R + n)))).heap[w.heap.size + 5]? = some (.cells (bigC (R + R + n)) 279 (0, 0)) := by rw [hf3, s1, s2, s3]; rfl
     have HA3 := Hz (heap_set_other HA.out ⟨w.heap.size + 5, 0, none⟩ (by show w.heap.size ≠ w.heap.size + 5; omega) (.int .u64 (D0 (R + R + n))))
     have HB3 := Hz (heap_set_other HB.out ⟨w.heap.size + 5, 0, none⟩ (by show w.heap.size + 1 ≠ w.heap.size + 5; omega) (.int .u64 (D0 (R + R + n))))
     have HC3 := Hz (heap_set_other HC.out ⟨w.heap.size + 5, 0, none⟩ (by show w.heap.size + 2 ≠ w.heap.size + 5; omega) (.int .u64 (D0 (R + R + n))))
     have HD3 := Hz (heap_set_other HD.out ⟨w.heap.size + 5, 0, none⟩ (by show w.heap.size + 3 ≠ w.heap.size + 5; omega) (.int .u64 (D0 (R + R + n))))
     have HE3 := Hz (heap_set_other HE.out ⟨w.heap.size + 5, 0, none⟩ (by show w.heap.size + 4 ≠ w.heap.size + 5; omega) (.int .u64 (D0 (R + R + n))))
     have HG3 := Hz (World.Gr.drew (HG.out.set (a := ⟨w.heap.size + 5, 0, none⟩) (by show w.heap.size <= w.heap.size + 5; omega) (.int .u64 (D0 (R + R + n)))))
     have HF3 := Hz hf4
     clear hf3 hf4 hbit hadd s0 s1 s2 s3 s4 HA HB HC HD HE HF HG a0 a1 a2 a3 af f0 f1 f2 f3 ff
     generalize hW : World.setCell w2 _ _ = w3 at *
     clear hW
     have hSb : R + R + n < 340282366920938463463374607431768211456 := by omega
     clear hn2 hlt
     generalize R + R + n = S at *
     obtain ⟨f0, f1, f2, f3, ff⟩ := four' HF3.out
     obtain ⟨b0, b1, b2, b3, bf⟩ := four' HB3.out
     have hcmp := fun w => rcompare134 (a := S) (b := b) hSb (by omega) w
     have hcc : (0 : Int) <= Lib.compareInt (S : Nat) (b : Nat) ↔ b <= S := by unfold Lib.compareInt; split <;> (try split) <;> omega
     generalize Lib.compareInt (S : Nat) (b : Nat) = cc at *
     have Hcmp := Hz hcmp
     clear hcmp
     go_wp2_with fail
     refine (Hcmp.out _).mono ?_
     rintro e w4 ⟨rfl, g⟩
     have ha4 := g.fr.heap HA3.out (by simp); have hb4 := g.fr.heap HB3.out (by simp); have hc4 := g.fr.heap HC3.out (by simp); have hd4 := g.fr.heap HD3.out (by simp); have he4 := g.fr.heap HE3.out (by simp); have hf4 := g.fr.heap HF3.out (by simp); have hg4 := HG3.out.trans g
     clear HA3 HB3 HC3 HD3 HE3 HF3 HG3 f0 f1 f2 f3 ff b0 b1 b2 b3 bf g Hcmp
     have HA := Hz ha4; have HB := Hz hb4; have HC := Hz hc4; have HD := Hz hd4; have HE := Hz he4; have HF := Hz hf4; have HG := Hz hg4
     clear ha4 hb4 hc4 hd4 he4 hf4 hg4
     by_cases hle : b <= S
     ·have hcd : decide ((0 : Int) <= cc) = true := decide_eq_true (hcc.2 hle)
      clear hcc
      have hls := fun w => rless186 (a := S) (b := b) hSb hle w
      have Hls := Hz hls
      clear hls
      have HL := Hz hle
      clear hle
      obtain ⟨f0, f1, f2, f3, ff⟩ := four' HF.out
      obtain ⟨b0, b1, b2, b3, bf⟩ := four' HB.out
      go_wp2_with fail
      refine (Hls.out _).mono ?_
      rintro e w5 ⟨rfl, g⟩
      have ha5 := g.fr.heap HA.out (by simp); have hb5 := g.fr.heap HB.out (by simp); have hc5 := g.fr.heap HC.out (by simp); have hd5 := g.fr.heap HD.out (by simp); have he5 := g.fr.heap HE.out (by simp); have hf5 := g.fr.heap HF.out (by simp); have hg5 := HG.out.trans g
      clear HA HB HC HD HE HF HG f0 f1 f2 f3 ff b0 b1 b2 b3 bf g Hls
      obtain ⟨f0, f1, f2, f3, ff⟩ := four' hf5
      go_upto_region 11 with (fail)
      clear f0 f1 f2 f3 ff
      have HA := Hz (four_keep ha5 (p := w.heap.size + 5) (by omega) (.int .u64 (D0 (S - b))) (.int .u64 (D1 (S - b))) (.int .u64 (D2 (S - b))) (.int .u64 (D3 (S - b))))
      have HB := Hz (four_keep hb5 (p := w.heap.size + 5) (by omega) (.int .u64 (D0 (S - b))) (.int .u64 (D1 (S - b))) (.int .u64 (D2 (S - b))) (.int .u64 (D3 (S - b))))
      have HC := Hz (four_keep hc5 (p := w.heap.size + 5) (by omega) (.int .u64 (D0 (S - b))) (.int .u64 (D1 (S - b))) (.int .u64 (D2 (S - b))) (.int .u64 (D3 (S - b))))
      have HD := Hz (four_keep hd5 (p := w.heap.size + 5) (by omega) (.int .u64 (D0 (S - b))) (.int .u64 (D1 (S - b))) (.int .u64 (D2 (S - b))) (.int .u64 (D3 (S - b))))
      have HE := Hz (four_keep he5 (p := w.heap.size + 5) (by omega) (.int .u64 (D0 (S - b))) (.int .u64 (D1 (S - b))) (.int .u64 (D2 (S - b))) (.int .u64 (D3 (S - b))))
      have HF := Hz (four_set hf5 (.int .u64 (D0 (S - b))) (.int .u64 (D1 (S - b))) (.int .u64 (D2 (S - b))) (.int .u64 (D3 (S - b))))
      have HG := Hz (four_gr hg5 (p := w.heap.size + 5) (by omega) (.int .u64 (D0 (S - b))) (.int .u64 (D1 (S - b))) (.int .u64 (D2 (S - b))) (.int .u64 (D3 (S - b))))
      generalize hW : World.setCell (World.setCell (World.setCell (World.setCell w5 _ _) _ _) _ _) _ _ = w6 at *
      clear hW ha5 hb5 hc5 hd5 he5 hf5 hg5
      have hT : a / 2 ^ i / b * 2 ^ i = U * 2 ^ (32 * 3 + r + 1) + 2 ^ (32 * 3 + r) := by
       rw [HS.out.1, if_pos HL.out, HI.out, Nat.pow_succ, Nat.add_mul, Nat.one_mul, Nat.mul_comm 2 U, Nat.mul_assoc, Nat.mul_comm 2]
      have hM : a / 2 ^ i % b = S - b := by rw [HS.out.2, if_pos HL.out]
      have he6 := HE.out
      rw [HI.out] at he6
      obtain ⟨v0, v1, v2, v3, v4⟩ := dig_add3 (U := U) hr
      generalize U * 2 ^ (32 * 3 + r + 1) = T at *
      obtain ⟨e0, e1, e2, e3, ef⟩ := four' he6
      have hsh : IntKind.u64.wrap ((D3 T : Int) + IntKind.u64.wrap (2 ^ r)) = ((D3 (T + 2 ^ (32 * 3 + r)) : Nat) : Int) := by
       have hp : (2 : Int) ^ r = ((2 ^ r : Nat) : Int) := by rw [Int.natCast_pow]; rfl
       rw [hp, <- v3]
       clear hT
       generalize 2 ^ r = P at *
       rw [IntWalk.u64_in (P : Int) (by omega), IntWalk.u64_in ((D3 T : Int) + P) (by omega)]
       omega
      have HT := Hz hT; have HM := Hz hM
      clear hT hM HE
      go_wp2
      go_roundw
      ·refine ⟨i, rfl, by omega, Hz (heap_set_other HA.out _ (by show w.heap.size ≠ w.heap.size + 4; omega) _), Hz (heap_set_other HB.out _ (by show w.heap.size + 1 ≠ w.heap.size + 4; omega) _), Hz (heap_set_other HC.out _ (by show w.heap.size + 2 ≠ w.heap.size + 4; omega) _), Hz (heap_set_other HD.out _ (by show w.heap.size + 3 ≠ w.heap.size + 4; omega) _), Hz ?_, Hz ?_, Hz (World.Gr.set HG.out (by show w.heap.size <= w.heap.size + 4; omega) _)⟩
       ·rw [HT.out]
        refine (heap_set_same he6 3 _).trans ?_
        unfold bigC
        rw [<- v0, <- v1, <- v2]
        first | rfl | (simp only [Nat.mul_zero, Nat.zero_add]; rfl)
       ·rw [HM.out]
        exact heap_set_other HF.out _ (by show w.heap.size + 5 ≠ w.heap.size + 4; omega) _
      ·simp only [intOf]; omega
     ·have hcd : decide ((0 : Int) <= cc) = false := decide_eq_false (fun h => hle (hcc.1 h))
      have hT : a / 2 ^ i / b * 2 ^ i = U * 2 ^ (i + 1) := by
       rw [HS.out.1, if_neg hle, Nat.add_zero, Nat.pow_succ, Nat.mul_comm 2 U, Nat.mul_assoc, Nat.mul_comm 2]
      have hM : a / 2 ^ i % b = S := by rw [HS.out.2, if_neg hle]
      have HT := Hz hT; have HM := Hz hM
      clear hcc hle hT hM
      go_wp2
      go_roundw
      ·refine ⟨i, rfl, by omega, HA, HB, HC, HD, Hz ?_, Hz ?_, HG⟩
       ·rw [HT.out]; exact HE.out
       ·rw [HM.out]; exact HF.out
      ·simp only [intOf]; omega
end
section
open Go.RowKit
def digOf (o : Option Obj) : Nat :=
 match o with
 | some (.cells c _ _) => (intOf (c.getD 0 undef)).toNat + (intOf (c.getD 1 undef)).toNat * 4294967296 + (intOf (c.getD 2 undef)).toNat * 18446744073709551616 + (intOf (c.getD 3 undef)).toNat * 79228162514264337593543950336
 | _ => 0
theorem digOf_big {n : Nat} (hn : n < 340282366920938463463374607431768211456) (t : TypeId) (fr : Nat × Nat) : digOf (some (.cells (bigC n) t fr)) = n := (dig_sum hn).symm
theorem part122 (cs : Array Value) (off : Nat) (v : Value) (h : cs[off]? = some v) (w : World) : (part 223 cs off).run Tryz.prog w = .ok v w := by
 simp [part, Sem.run_bind, Tryz.isAgg223, Result.andThen, h]
theorem eq133 (a0 a1 a2 a3 b0 b1 b2 b3 : Int) (w : World) : (Op.equalIn 9999 277 (.agg #[.int .u64 a0, .int .u64 a1, .int .u64 a2, .int .u64 a3]) (.agg #[.int .u64 b0, .int .u64 b1, .int .u64 b2, .int .u64 b3])).run Tryz.prog w = .ok (a0 == b0 && (a1 == b1 && (a2 == b2 && a3 == b3))) w := by
 have hr : List.range' 0 4 = [0, 1, 2, 3] := rfl
 have he : ∀ (a b : Int) (w : World), (Op.equalIn 9998 223 (.int .u64 a) (.int .u64 b)).run Tryz.prog w = .ok (a == b) w := fun a b w => run_equalIn_int w 9997 223 .u64 .u64 a b Tryz.underlying223
 have p0 : ∀ (a b c d : Value) (w : World), (part 223 #[a, b, c, d] 0).run Tryz.prog w = .ok a w := fun a b c d w => part122 _ 0 a rfl w
 have p1 : ∀ (a b c d : Value) (w : World), (part 223 #[a, b, c, d] 1).run Tryz.prog w = .ok b w := fun a b c d w => part122 _ 1 b rfl w
 have p2 : ∀ (a b c d : Value) (w : World), (part 223 #[a, b, c, d] 2).run Tryz.prog w = .ok c w := fun a b c d w => part122 _ 2 c rfl w
 have p3 : ∀ (a b c d : Value) (w : World), (part 223 #[a, b, c, d] 3).run Tryz.prog w = .ok d w := fun a b c d w => part122 _ 3 d rfl w
 show (Op.equalIn (9998 + 1) 277 _ _).run Tryz.prog w = _
 unfold Op.equalIn
 simp only [Sem.run_bind, run_underlying Tryz.underlying277, Result.andThen_ok, Tryz.sizeOf223]
 simp only [Std.Legacy.Range.forIn_eq_forIn_range', Std.Legacy.Range.size, Nat.sub_zero, Nat.add_one_sub_one, Nat.div_one, hr]
 simp only [List.forIn_cons, List.forIn_nil, Sem.run_bind, Nat.mul_one, p0, Result.andThen_ok, he]
 cases h0 : a0 == b0 <;> cases h1 : a1 == b1 <;> cases h2 : a2 == b2 <;> cases h3 : a3 == b3 <;> simp [Sem.run_bind, p1, p2, p3, he, h1, h2, h3, Result.andThen]
theorem dig_none {n : Nat} (hn : n < 340282366920938463463374607431768211456) (h0 : n ≠ 0) (w : World) : (Op.equalIn 9999 277 (.agg #[.int .u64 (D0 n), .int .u64 (D1 n), .int .u64 (D2 n), .int .u64 (D3 n)]) (.agg #[.int .u64 0, .int .u64 0, .int .u64 0, .int .u64 0])).run Tryz.prog w = .ok false w := by
 have h := dig_sum hn
 rw [eq133]
 congr 1
 simp only [Bool.and_eq_false_iff, beq_eq_false_iff_ne]
 omega
theorem dig_zero (w : World) : (Op.equalIn 9999 277 (.agg #[.int .u64 0, .int .u64 0, .int .u64 0, .int .u64 0]) (.agg #[.int .u64 0, .int .u64 0, .int .u64 0, .int .u64 0])).run Tryz.prog w = .ok true w := eq133 0 0 0 0 0 0 0 0 w
theorem rcommon180 {a b : Nat} (ha : a < 340282366920938463463374607431768211456) (hb : b <= 170141183460469231731687303715884105728) (w : World) : Calls Tryz.prog 273 #[bigV a, bigV b] w fun e w' => e = .returned (bigV (Nat.gcd a b)) /\ w.Gr w' := by
 have qa := heap_alloc_at w (.cells (bigC a) 279) _ rfl
 have qb := heap_alloc_at (w.alloc (.cells (bigC a) 279)) (.cells (bigC b) 279) (w.heap.size + 1) (by simp)
 have qc := heap_alloc_at ((w.alloc (.cells (bigC a) 279)).alloc (.cells (bigC b) 279)) (.cells (dcells 0 0 0 0) 279) (w.heap.size + 2) (by simp)
 have qd := heap_alloc_at (((w.alloc (.cells (bigC a) 279)).alloc (.cells (bigC b) 279)).alloc (.cells (dcells 0 0 0 0) 279)) (.cells (dcells 0 0 0 0) 279) (w.heap.size + 3) (by simp)
 have qa := heap_alloc_some (heap_alloc_some (heap_alloc_some qa (.cells (bigC b) 279)) (.cells (dcells 0 0 0 0) 279)) (.cells (dcells 0 0 0 0) 279)
 have qb := heap_alloc_some (heap_alloc_some qb (.cells (dcells 0 0 0 0) 279)) (.cells (dcells 0 0 0 0) 279)
 have qc := heap_alloc_some qc (.cells (dcells 0 0 0 0) 279)
 have q3 := ((((World.Gr.refl w).alloc (.cells (bigC a) 279)).alloc (.cells (bigC b) 279)).alloc (.cells (dcells 0 0 0 0) 279)).alloc (.cells (dcells 0 0 0 0) 279)
 generalize hG : Nat.gcd a b = G at *
 have HGG := Hz hG
 clear hG
 go_enter Tryz.func273, Tryz.ntmps273
 go_wp2
 generalize hW : World.alloc (World.alloc (World.alloc (World.alloc w _) _) _) _ = W at *
 clear hW
 have Qa := Hz qa; have Qb := Hz qb; have Qc := Hz qc; have Qd := Hz qd; have Q3 := Hz q3; clear qa qb qc qd q3
 go_loopw [] (fun wr => ∃ m n : Nat, Hid (wr.heap[w.heap.size]? = some (.cells (bigC m) 279 (0, 0))) /\ Hid (wr.heap[w.heap.size + 1]? = some (.cells (bigC n) 279 (0, 0))) /\ Hid (wr.heap[w.heap.size + 2]? = some (.cells (dcells 0 0 0 0) 279 (0, 0))) /\ Hid (wr.heap[w.heap.size + 3]? = some (.cells (dcells 0 0 0 0) 279 (0, 0))) /\ Hid (m < 340282366920938463463374607431768211456 /\ n <= 170141183460469231731687303715884105728 /\ Nat.gcd m n = G) /\ Hid (w.Gr wr)) (fun wr => digOf (wr.heap[w.heap.size + 1]?))
 case atStart => exact ⟨a, b, Qa, Qb, Qc, Qd, Hz ⟨ha, hb, HGG.out⟩, Q3⟩
 case round =>
  obtain ⟨m, n, HA, HB, HC, HD, HN, HG⟩ := hrel
  clear Qa Qb Qc Qd Q3
  obtain ⟨a0, a1, a2, a3, af⟩ := four' HA.out
  obtain ⟨b0, b1, b2, b3, bf⟩ := four' HB.out
  obtain ⟨c0, c1, c2, c3, cf⟩ := four' HC.out
  obtain ⟨d0, d1, d2, d3, df⟩ := four' HD.out
  by_cases h0 : n = 0
  ·have hg : m = G := by have h := HN.out.2.2; rw [h0, Nat.gcd_zero_right] at h; exact h
   subst hg h0
   have hb' : wr.heap[w.heap.size + 1]? = some (.cells (dcells 0 0 0 0) 279 (0, 0)) := HB.out
   clear b0 b1 b2 b3 bf
   obtain ⟨b0, b1, b2, b3, bf⟩ := four' hb'
   have hz := dig_zero
   go_wp2
   refine bodyPost_ret (results_cell_row (P := Tryz.prog) rfl _ _ (w.heap.size + 2) 279 _ (0, 0) _ rfl (four_set HC.out _ _ _ _) Tryz.underlying279 rfl (by kernel_rfl)) rfl ?_
   exact ⟨rfl, four_gr HG.out (by show w.heap.size <= w.heap.size + 1 + 1; omega) _ _ _ _⟩
  ·have hdn := dig_none (n := n) (by have := HN.out.2.1; omega) h0
   have hdv := fun w => rdivided181 (a := m) (b := n) HN.out.1 (by omega) HN.out.2.1 w
   have Hdv := Hz hdv
   have H0 := Hz h0
   clear hdv h0
   all_goals
    go_wp2_with fail
    refine (Hdv.out _).mono ?_
    rintro e w1 ⟨rfl, g⟩
    have ha1 := g.fr.heap HA.out (by simp); have hb1 := g.fr.heap HB.out (by simp); have hc1 := g.fr.heap HC.out (by simp); have hd1 := g.fr.heap HD.out (by simp); have hg1 := HG.out.trans g
    have OLD := HB
    clear HA HB HC HD HG a0 a1 a2 a3 af b0 b1 b2 b3 bf c0 c1 c2 c3 cf d0 d1 d2 d3 df g Hdv
    have hsz : w.heap.size + 3 < w1.heap.size := (Array.getElem?_eq_some_iff.1 hd1).1
    have he1 := heap_alloc_at (w1.alloc (.cells (bigC (m / n)) 279)) (.cells (bigC (m % n)) 279) (w1.heap.size + 1) (by simp)
    have ha1 := heap_alloc_some (heap_alloc_some ha1 (.cells (bigC (m / n)) 279)) (.cells (bigC (m % n)) 279)
    have hb1 := heap_alloc_some (heap_alloc_some hb1 (.cells (bigC (m / n)) 279)) (.cells (bigC (m % n)) 279)
    have hc1 := heap_alloc_some (heap_alloc_some hc1 (.cells (bigC (m / n)) 279)) (.cells (bigC (m % n)) 279)
    have hd1 := heap_alloc_some (heap_alloc_some hd1 (.cells (bigC (m / n)) 279)) (.cells (bigC (m % n)) 279)
    have hg1 := (hg1.alloc (.cells (bigC (m / n)) 279)).alloc (.cells (bigC (m % n)) 279)
    go_upto_region 4 with (fail)
    generalize hW : World.alloc (World.alloc w1 _) _ = w2 at *
    clear hW
    generalize w1.heap.size = p at *
    obtain ⟨a0, a1, a2, a3, af⟩ := four' ha1
    obtain ⟨b0, b1, b2, b3, bf⟩ := four' hb1
    obtain ⟨e0, e1, e2, e3, ef⟩ := four' he1
    have HA := Hz ha1; have HB := Hz hb1; have HC := Hz hc1; have HD := Hz hd1; have HE := Hz he1; have HG := Hz hg1
    clear ha1 hb1 hc1 hd1 he1 hg1
    go_wp2
    go_roundw
    ·refine ⟨n, m % n, Hz (four_keep (four_set HA.out _ _ _ _) (by omega) _ _ _ _), Hz (four_set (four_keep HB.out (by omega) _ _ _ _) _ _ _ _), Hz (four_keep (four_keep HC.out (by omega) _ _ _ _) (by omega) _ _ _ _), Hz (four_keep (four_keep HD.out (by omega) _ _ _ _) (by omega) _ _ _ _), Hz ⟨by have := HN.out.2.1; omega, by have := HN.out.2.1; have := Nat.mod_lt m (Nat.pos_of_ne_zero H0.out); omega, ?_⟩, Hz (four_gr (four_gr HG.out (Nat.le_refl _) _ _ _ _) (Nat.le_add_right _ _) _ _ _ _)⟩
     rw [Nat.gcd_comm n, <- Nat.gcd_rec, Nat.gcd_comm]
     exact HN.out.2.2
    ·have hnew := four_set (four_keep HB.out (p := w.heap.size) (by omega) (.int .u64 (D0 n)) (.int .u64 (D1 n)) (.int .u64 (D2 n)) (.int .u64 (D3 n))) (.int .u64 (D0 (m % n))) (.int .u64 (D1 (m % n))) (.int .u64 (D2 (m % n))) (.int .u64 (D3 (m % n)))
     have hlt := Nat.mod_lt m (Nat.pos_of_ne_zero H0.out)
     have hb := HN.out.2.1
     rw [hnew, OLD.out, digOf_big (by omega), digOf_big (by omega)]
     exact hlt
end
section
open Go.RowKit
theorem rsize133 {n : Int} (hn : inI64 n) (w : World) : Calls Tryz.prog 265 #[.int .i64 n] w fun e w' => e = .returned (.int .u64 n.natAbs) /\ w' = w := by
 obtain ⟨h0, h1⟩ := hn
 by_cases hz : n < 0
 ·have hd : decide (n < 0) = true := decide_eq_true hz
  have c0 : IntKind.i64.wrap (n + 1) = n + 1 := IntWalk.i64_in _ (by omega)
  have c1 : IntKind.i64.wrap (-(n + 1)) = -(n + 1) := IntWalk.i64_in _ (by omega)
  have c2 : IntKind.u64.wrap (-(n + 1)) = -(n + 1) := IntWalk.u64_in _ (by omega)
  have c3 : IntKind.u64.wrap (-(n + 1) + 1) = (n.natAbs : Int) := by rw [IntWalk.u64_in _ (by omega)]; omega
  clear hz
  go_enter Tryz.func265, Tryz.ntmps265
  go_wp2
  go_ret
  exact ⟨rfl, rfl⟩
 ·have hd : decide (n < 0) = false := decide_eq_false hz
  have c1 : IntKind.u64.wrap n = (n.natAbs : Int) := by rw [IntWalk.u64_in _ (by omega)]; omega
  clear hz
  go_enter Tryz.func265, Tryz.ntmps265
  go_wp2
  go_ret
  exact ⟨rfl, rfl⟩
def madeR (below : Bool) (n d : Nat) : Int × Int × Int :=
 if 9223372036854775808 <= d / Nat.gcd n d ∨ 9223372036854775808 < n / Nat.gcd n d ∨ n / Nat.gcd n d = 9223372036854775808 /\ below = false then (0, 0, 10)
 else if below = true then (-((n / Nat.gcd n d : Nat) : Int), ((d / Nat.gcd n d : Nat) : Int), 0) else (((n / Nat.gcd n d : Nat) : Int), ((d / Nat.gcd n d : Nat) : Int), 0)
theorem cmp_sign {p q : Nat} : ∃ c : Int, Lib.compareInt (p : Nat) (q : Nat) = c /\ (0 <= c ↔ q <= p) /\ (0 < c ↔ q < p) /\ (c = 0 ↔ p = q) := by
 refine ⟨_, rfl, ?_, ?_, ?_⟩ <;> (unfold Lib.compareInt; split <;> (try split) <;> omega)
theorem rmade167 {below : Bool} {n d : Nat} (hn : n <= 170141183460469231731687303715884105728) (hd0 : 0 < d) (hd : d <= 170141183460469231731687303715884105728) (hz : below = true -> n ≠ 0) (w : World) : Calls Tryz.prog 266 #[.bool below, bigV n, bigV d] w fun e w' => e = .returned (.tuple #[.agg #[.int .i64 (madeR below n d).1, .int .i64 (madeR below n d).2.1], .int .i64 (madeR below n d).2.2]) /\ w.Gr w' := by
 generalize hR : madeR below n d = R
 obtain ⟨r1, r2, r3⟩ := R
 have HR := Hz hR; clear hR
 have hc1 := fun w => rcommon180 (a := n) (b := d) (by omega) hd w
 have hg0 : 0 < Nat.gcd n d := Nat.gcd_pos_of_pos_right _ hd0
 have hgd : Nat.gcd n d <= d := Nat.le_of_dvd hd0 (Nat.gcd_dvd_right _ _)
 have hc2 := fun w => rdivided181 (a := n) (b := Nat.gcd n d) (by omega) hg0 (by omega) w
 have hc3 := fun w => rdivided181 (a := d) (b := Nat.gcd n d) (by omega) hg0 (by omega) w
 have hc4 := fun w => rof166 (n := 9223372036854775808) (by decide) w
 have hpn : n / Nat.gcd n d <= n := Nat.div_le_self _ _
 have hqd : d / Nat.gcd n d <= d := Nat.div_le_self _ _
 have hc5 := fun w => rcompare134 (a := n / Nat.gcd n d) (b := 9223372036854775808) (by omega) (by decide) w
 have hc6 := fun w => rcompare134 (a := d / Nat.gcd n d) (b := 9223372036854775808) (by omega) (by decide) w
 have hpz : below = true -> n / Nat.gcd n d ≠ 0 := fun h e => by
  have h1 := Nat.div_mul_cancel (Nat.gcd_dvd_left n d)
  rw [e, Nat.zero_mul] at h1
  exact hz h h1.symm
 have hR2 : madeR below n d = if 9223372036854775808 <= d / Nat.gcd n d ∨ 9223372036854775808 < n / Nat.gcd n d ∨ n / Nat.gcd n d = 9223372036854775808 /\ below = false then (0, 0, 10) else if below = true then (-((n / Nat.gcd n d : Nat) : Int), ((d / Nat.gcd n d : Nat) : Int), 0) else (((n / Nat.gcd n d : Nat) : Int), ((d / Nat.gcd n d : Nat) : Int), 0) := rfl
 rw [HR.out] at hR2
 clear HR
 generalize Nat.gcd n d = G at *
 generalize n / G = p at *
 generalize d / G = q at *
 generalize n % G = nr at *
 generalize d % G = dr at *
 obtain ⟨cp, ep, cp1, cp2, cp3⟩ := cmp_sign (p := p) (q := 9223372036854775808)
 obtain ⟨cq, eq, cq1, cq2, cq3⟩ := cmp_sign (p := q) (q := 9223372036854775808)
 rw [ep] at hc5
 rw [eq] at hc6
 have HR := Hz hR2; have C1 := Hz hc1; have C2 := Hz hc2; have C3 := Hz hc3; have C4 := Hz hc4; have C5 := Hz hc5; have C6 := Hz hc6; have HPZ := Hz hpz
 have HP := Hz cp1; have HP2 := Hz cp2; have HP3 := Hz cp3; have HQ := Hz cq1
 clear hR2 hc1 hc2 hc3 hc4 hc5 hc6 hpz cp1 cp2 cp3 cq1 cq2 cq3 ep eq hg0 hgd hpn hqd hz hn hd hd0
 have qa := heap_alloc_at w (.cells (bigC n) 279) _ rfl
 have qb := heap_alloc_at (w.alloc (.cells (bigC n) 279)) (.cells (bigC d) 279) (w.heap.size + 1) (by simp)
 have qc := heap_alloc_at ((w.alloc (.cells (bigC n) 279)).alloc (.cells (bigC d) 279)) (.cells #[.int .i64 0, .int .i64 0] 227) (w.heap.size + 2) (by simp)
 have qa := heap_alloc_some (heap_alloc_some qa (.cells (bigC d) 279)) (.cells #[.int .i64 0, .int .i64 0] 227)
 have qb := heap_alloc_some qb (.cells #[.int .i64 0, .int .i64 0] 227)
 have q3 := (((World.Gr.refl w).alloc (.cells (bigC n) 279)).alloc (.cells (bigC d) 279)).alloc (.cells #[.int .i64 0, .int .i64 0] 227)
 go_enter Tryz.func266, Tryz.ntmps266
 go_upto_region 1 with (fail)
 generalize hW : World.alloc (World.alloc (World.alloc w _) _) _ = W at *
 clear hW
 have Qa := Hz qa; have Qb := Hz qb; have Qc := Hz qc; have Q3 := Hz q3; clear qa qb qc q3
 obtain ⟨a0, a1, a2, a3, af⟩ := four' Qa.out
 obtain ⟨b0, b1, b2, b3, bf⟩ := four' Qb.out
 go_wp2_with fail
 refine (C1.out _).mono ?_
 rintro e w1 ⟨rfl, g⟩
 clear a0 a1 a2 a3 af b0 b1 b2 b3 bf
 have qa := g.fr.heap Qa.out (by simp); have qb := g.fr.heap Qb.out (by simp); have qc := g.fr.heap Qc.out (by simp); have q3 := Q3.out.trans g
 clear Qa Qb Qc Q3 g
 have dsz : w.heap.size + 2 < w1.heap.size := (Array.getElem?_eq_some_iff.1 qc).1
 have qd := heap_alloc_at w1 (.cells (bigC G) 279) _ rfl
 have qa := heap_alloc_some qa (.cells (bigC G) 279)
 have qb := heap_alloc_some qb (.cells (bigC G) 279)
 have qc := heap_alloc_some qc (.cells (bigC G) 279)
 have q3 := q3.alloc (.cells (bigC G) 279)
 go_upto_region 2 with (fail)
 generalize hW : World.alloc w1 _ = w2 at *
 clear hW
 generalize w1.heap.size = pd at *
 have Qa := Hz qa; have Qb := Hz qb; have Qc := Hz qc; have Qd := Hz qd; have Q3 := Hz q3; clear qa qb qc qd q3
 obtain ⟨a0, a1, a2, a3, af⟩ := four' Qa.out
 obtain ⟨d0, d1, d2, d3, df⟩ := four' Qd.out
 go_wp2_with fail
 refine (C2.out _).mono ?_
 rintro e w3 ⟨rfl, g⟩
 clear a0 a1 a2 a3 af d0 d1 d2 d3 df
 have qa := g.fr.heap Qa.out (by simp); have qb := g.fr.heap Qb.out (by simp); have qc := g.fr.heap Qc.out (by simp); have qd := g.fr.heap Qd.out (by simp); have q3 := Q3.out.trans g
 clear Qa Qb Qc Qd Q3 g
 have esz : w.heap.size + 2 < w3.heap.size := (Array.getElem?_eq_some_iff.1 qc).1
 have qe := heap_alloc_at w3 (.cells (bigC p) 279) _ rfl
 have qe := heap_alloc_some qe (.cells (bigC nr) 279)
 have qa := heap_alloc_some (heap_alloc_some qa (.cells (bigC p) 279)) (.cells (bigC nr) 279)
 have qb := heap_alloc_some (heap_alloc_some qb (.cells (bigC p) 279)) (.cells (bigC nr) 279)
 have qc := heap_alloc_some (heap_alloc_some qc (.cells (bigC p) 279)) (.cells (bigC nr) 279)
 have qd := heap_alloc_some (heap_alloc_some qd (.cells (bigC p) 279)) (.cells (bigC nr) 279)
 have q3 := (q3.alloc (.cells (bigC p) 279)).alloc (.cells (bigC nr) 279)
 go_upto_region 3 with (fail)
 generalize hW : World.alloc (World.alloc w3 _) _ = w4 at *
 clear hW
 generalize w3.heap.size = pe at *
 have Qa := Hz qa; have Qb := Hz qb; have Qc := Hz qc; have Qd := Hz qd; have Qe := Hz qe; have Q3 := Hz q3; clear qa qb qc qd qe q3
 obtain ⟨b0, b1, b2, b3, bf⟩ := four' Qb.out
 obtain ⟨d0, d1, d2, d3, df⟩ := four' Qd.out
 go_wp2_with fail
 refine (C3.out _).mono ?_
 rintro e w5 ⟨rfl, g⟩
 clear b0 b1 b2 b3 bf d0 d1 d2 d3 df
 have qa := g.fr.heap Qa.out (by simp); have qb := g.fr.heap Qb.out (by simp); have qc := g.fr.heap Qc.out (by simp); have qd := g.fr.heap Qd.out (by simp); have qe := g.fr.heap Qe.out (by simp); have q3 := Q3.out.trans g
 clear Qa Qb Qc Qd Qe Q3 g
 have fsz : w.heap.size + 2 < w5.heap.size := (Array.getElem?_eq_some_iff.1 qc).1
 have qf := heap_alloc_at w5 (.cells (bigC q) 279) _ rfl
 have qf := heap_alloc_some qf (.cells (bigC dr) 279)
 have qa := heap_alloc_some (heap_alloc_some qa (.cells (bigC q) 279)) (.cells (bigC dr) 279)
 have qb := heap_alloc_some (heap_alloc_some qb (.cells (bigC q) 279)) (.cells (bigC dr) 279)
 have qc := heap_alloc_some (heap_alloc_some qc (.cells (bigC q) 279)) (.cells (bigC dr) 279)
 have qd := heap_alloc_some (heap_alloc_some qd (.cells (bigC q) 279)) (.cells (bigC dr) 279)
 have qe := heap_alloc_some (heap_alloc_some qe (.cells (bigC q) 279)) (.cells (bigC dr) 279)
 have q3 := (q3.alloc (.cells (bigC q) 279)).alloc (.cells (bigC dr) 279)
 go_upto_region 4 with (fail)
 generalize hW : World.alloc (World.alloc w5 _) _ = w6 at *
 clear hW
 generalize w5.heap.size = pf at *
 have Qa := Hz qa; have Qb := Hz qb; have Qc := Hz qc; have Qd := Hz qd; have Qe := Hz qe; have Qf := Hz qf; have Q3 := Hz q3; clear qa qb qc qd qe qf q3
 go_wp2_with fail
 refine (C4.out _).mono ?_
 rintro e w7 ⟨rfl, g⟩
 have qa := g.fr.heap Qa.out (by simp); have qb := g.fr.heap Qb.out (by simp); have qc := g.fr.heap Qc.out (by simp); have qd := g.fr.heap Qd.out (by simp); have qe := g.fr.heap Qe.out (by simp); have qf := g.fr.heap Qf.out (by simp); have q3 := Q3.out.trans g
 clear Qa Qb Qc Qd Qe Qf Q3 g
 have gsz : w.heap.size + 2 < w7.heap.size := (Array.getElem?_eq_some_iff.1 qc).1
 have qg := heap_alloc_at w7 (.cells (bigC 9223372036854775808) 279) _ rfl
 have qa := heap_alloc_some qa (.cells (bigC 9223372036854775808) 279)
 have qb := heap_alloc_some qb (.cells (bigC 9223372036854775808) 279)
 have qc := heap_alloc_some qc (.cells (bigC 9223372036854775808) 279)
 have qd := heap_alloc_some qd (.cells (bigC 9223372036854775808) 279)
 have qe := heap_alloc_some qe (.cells (bigC 9223372036854775808) 279)
 have qf := heap_alloc_some qf (.cells (bigC 9223372036854775808) 279)
 have q3 := q3.alloc (.cells (bigC 9223372036854775808) 279)
 go_upto_region 5 with (fail)
 generalize hW : World.alloc w7 _ = w8 at *
 clear hW
 generalize w7.heap.size = pg at *
 have Qa := Hz qa; have Qb := Hz qb; have Qc := Hz qc; have Qd := Hz qd; have Qe := Hz qe; have Qf := Hz qf; have Qg := Hz qg; have Q3 := Hz q3; clear qa qb qc qd qe qf qg q3
 obtain ⟨e0, e1, e2, e3, ef⟩ := four' Qe.out
 obtain ⟨g0, g1, g2, g3, gf⟩ := four' Qg.out
 go_wp2_with fail
 refine (C5.out _).mono ?_
 rintro e w9 ⟨rfl, g⟩
 clear e0 e1 e2 e3 ef g0 g1 g2 g3 gf
 have qa := g.fr.heap Qa.out (by simp); have qb := g.fr.heap Qb.out (by simp); have qc := g.fr.heap Qc.out (by simp); have qd := g.fr.heap Qd.out (by simp); have qe := g.fr.heap Qe.out (by simp); have qf := g.fr.heap Qf.out (by simp); have qg := g.fr.heap Qg.out (by simp); have q3 := Q3.out.trans g
 clear Qa Qb Qc Qd Qe Qf Qg Q3 g
 have Qa := Hz qa; have Qb := Hz qb; have Qc := Hz qc; have Qd := Hz qd; have Qe := Hz qe; have Qf := Hz qf; have Qg := Hz qg; have Q3 := Hz q3; clear qa qb qc qd qe qf qg q3
 go_upto_region 6 with (fail)
 obtain ⟨f0, f1, f2, f3, ff⟩ := four' Qf.out
 obtain ⟨g0, g1, g2, g3, gf⟩ := four' Qg.out
 go_wp2_with fail
 refine (C6.out _).mono ?_
 rintro e w10 ⟨rfl, g⟩
 clear f0 f1 f2 f3 ff g0 g1 g2 g3 gf
 have qa := g.fr.heap Qa.out (by simp); have qb := g.fr.heap Qb.out (by simp); have qc := g.fr.heap Qc.out (by simp); have qd := g.fr.heap Qd.out (by simp); have qe := g.fr.heap Qe.out (by simp); have qf := g.fr.heap Qf.out (by simp); have qg := g.fr.heap Qg.out (by simp); have q3 := Q3.out.trans g
 clear Qa Qb Qc Qd Qe Qf Qg Q3 g
 have Qa := Hz qa; have Qb := Hz qb; have Qc := Hz qc; have Qd := Hz qd; have Qe := Hz qe; have Qf := Hz qf; have Qg := Hz qg; have Q3 := Hz q3; clear qa qb qc qd qe qf qg q3
 go_upto_region 7 with (fail)
 obtain ⟨e0, e1, e2, e3, ef⟩ := four' Qe.out
 obtain ⟨f0, f1, f2, f3, ff⟩ := four' Qf.out
 obtain ⟨c0, c1, cf⟩ := two' Qc.out
 by_cases hq : 9223372036854775808 <= q
 ·have hd : decide ((0 : Int) <= cq) = true := decide_eq_true (HQ.out.2 hq)
  have hr : (r1, r2, r3) = ((0 : Int), (0 : Int), (10 : Int)) := by rw [HR.out]; rw [if_pos (.inl hq)]
  injection hr with h1 h23
  injection h23 with h2 h3
  subst h1 h2 h3
  clear HR
  go_wp2
  refine bodyPost_ret (results_cell_tmp_row (P := Tryz.prog) rfl _ _ (w.heap.size + 2) 227 _ (0, 0) _ _ rfl rfl (two_set Qc.out _ _) Tryz.underlying227 rfl (by kernel_rfl)) rfl ?_
  exact ⟨rfl, (World.Gr.set Q3.out (by show w.heap.size <= w.heap.size + 1 + 1; omega) _).set (by show w.heap.size <= w.heap.size + 1 + 1; omega) _⟩
 ·have hd : decide ((0 : Int) <= cq) = false := decide_eq_false (fun h => hq (HQ.out.1 h))
  by_cases hp : 9223372036854775808 < p
  ·have hd2 : decide ((0 : Int) < cp) = true := decide_eq_true (HP2.out.2 hp)
   have hr : (r1, r2, r3) = ((0 : Int), (0 : Int), (10 : Int)) := by rw [HR.out]; rw [if_pos (.inr (.inl hp))]
   injection hr with h1 h23
   injection h23 with h2 h3
   subst h1 h2 h3
   clear HR
   go_wp2
   refine bodyPost_ret (results_cell_tmp_row (P := Tryz.prog) rfl _ _ (w.heap.size + 2) 227 _ (0, 0) _ _ rfl rfl (two_set Qc.out _ _) Tryz.underlying227 rfl (by kernel_rfl)) rfl ?_
   exact ⟨rfl, (World.Gr.set Q3.out (by show w.heap.size <= w.heap.size + 1 + 1; omega) _).set (by show w.heap.size <= w.heap.size + 1 + 1; omega) _⟩
  ·have hd2 : decide ((0 : Int) < cp) = false := decide_eq_false (fun h => hp (HP2.out.1 h))
   cases below with
   | false =>
    by_cases he : p = 9223372036854775808
    ·have hd3 : (cp == 0) = true := by rw [beq_iff_eq]; exact HP3.out.2 he
     have hr : (r1, r2, r3) = ((0 : Int), (0 : Int), (10 : Int)) := by rw [HR.out]; rw [if_pos (.inr (.inr ⟨he, rfl⟩))]
     injection hr with h1 h23
     injection h23 with h2 h3
     subst h1 h2 h3
     clear HR
     go_wp2
     refine bodyPost_ret (results_cell_tmp_row (P := Tryz.prog) rfl _ _ (w.heap.size + 2) 227 _ (0, 0) _ _ rfl rfl (two_set Qc.out _ _) Tryz.underlying227 rfl (by kernel_rfl)) rfl ?_
     exact ⟨rfl, (World.Gr.set Q3.out (by show w.heap.size <= w.heap.size + 1 + 1; omega) _).set (by show w.heap.size <= w.heap.size + 1 + 1; omega) _⟩
    ·have hd3 : (cp == 0) = false := by rw [beq_eq_false_iff_ne]; exact fun h => he (HP3.out.1 h)
     have hp := dig_sum (n := p) (by omega)
     have hq := dig_sum (n := q) (by omega)
     have p2 : D2 p = 0 /\ D3 p = 0 := by unfold D2 D3; omega
     have q2 : D2 q = 0 /\ D3 q = 0 := by unfold D2 D3; omega
     have pl := dig_lt p
     have ql := dig_lt q
     have k1 : IntKind.u64.wrap ((D1 p : Int) * 4294967296) = (D1 p : Int) * 4294967296 := IntWalk.u64_in _ (by omega)
     have k2 : IntKind.u64.wrap ((D1 p : Int) * 4294967296 + D0 p) = (p : Int) := by rw [IntWalk.u64_in _ (by omega)]; omega
     have k3 : IntKind.u64.wrap ((D1 q : Int) * 4294967296) = (D1 q : Int) * 4294967296 := IntWalk.u64_in _ (by omega)
     have k4 : IntKind.u64.wrap ((D1 q : Int) * 4294967296 + D0 q) = (q : Int) := by rw [IntWalk.u64_in _ (by omega)]; omega
     have k5 : IntKind.i64.wrap (q : Int) = (q : Int) := IntWalk.i64_in _ (by omega)
     clear hp hq p2 q2 pl ql
     have m1 : IntKind.i64.wrap (p : Int) = (p : Int) := IntWalk.i64_in _ (by omega)
     have hr : (r1, r2, r3) = ((p : Int), (q : Int), (0 : Int)) := by rw [HR.out]; rw [if_neg (fun h => h.elim hq (fun h => h.elim hp (fun h => he h.1))), if_neg (by decide)]
     injection hr with h1 h23
     injection h23 with h2 h3
     subst h1 h2 h3
     clear HR
     go_wp2
     refine bodyPost_ret (results_cell_tmp_row (P := Tryz.prog) rfl _ _ (w.heap.size + 2) 227 _ (0, 0) _ _ rfl rfl (two_set Qc.out _ _) Tryz.underlying227 rfl (by kernel_rfl)) rfl ?_
     exact ⟨rfl, (World.Gr.set Q3.out (by show w.heap.size <= w.heap.size + 1 + 1; omega) _).set (by show w.heap.size <= w.heap.size + 1 + 1; omega) _⟩
   | true =>
    have hpz := HPZ.out rfl
    rcases Int.lt_or_eq_of_le (show cp <= 0 by have := HP2.out; omega) with h3 | h3
    ·have hd3 : (cp == 0) = false := by rw [beq_eq_false_iff_ne]; omega
     have hp := dig_sum (n := p) (by omega)
     have hq := dig_sum (n := q) (by omega)
     have p2 : D2 p = 0 /\ D3 p = 0 := by unfold D2 D3; omega
     have q2 : D2 q = 0 /\ D3 q = 0 := by unfold D2 D3; omega
     have pl := dig_lt p
     have ql := dig_lt q
     have k1 : IntKind.u64.wrap ((D1 p : Int) * 4294967296) = (D1 p : Int) * 4294967296 := IntWalk.u64_in _ (by omega)
     have k2 : IntKind.u64.wrap ((D1 p : Int) * 4294967296 + D0 p) = (p : Int) := by rw [IntWalk.u64_in _ (by omega)]; omega
     have k3 : IntKind.u64.wrap ((D1 q : Int) * 4294967296) = (D1 q : Int) * 4294967296 := IntWalk.u64_in _ (by omega)
     have k4 : IntKind.u64.wrap ((D1 q : Int) * 4294967296 + D0 q) = (q : Int) := by rw [IntWalk.u64_in _ (by omega)]; omega
     have k5 : IntKind.i64.wrap (q : Int) = (q : Int) := IntWalk.i64_in _ (by omega)
     clear hp hq p2 q2 pl ql
     have m1 : IntKind.u64.wrap ((p : Int) - 1) = (p : Int) - 1 := IntWalk.u64_in _ (by omega)
     have m2 : IntKind.i64.wrap ((p : Int) - 1) = (p : Int) - 1 := IntWalk.i64_in _ (by omega)
     have m3 : IntKind.i64.wrap (-((p : Int) - 1)) = -((p : Int) - 1) := IntWalk.i64_in _ (by omega)
     have m4 : IntKind.i64.wrap (-((p : Int) - 1) - 1) = -(p : Int) := by rw [IntWalk.i64_in _ (by omega)]; omega
     have hr : (r1, r2, r3) = (-(p : Int), (q : Int), (0 : Int)) := by rw [HR.out]; rw [if_neg (fun h => h.elim hq (fun h => h.elim hp (fun h => Bool.noConfusion h.2))), if_pos rfl]
     injection hr with h1 h23
     injection h23 with h2 h3
     subst h1 h2 h3
     clear HR
     go_wp2
     refine bodyPost_ret (results_cell_tmp_row (P := Tryz.prog) rfl _ _ (w.heap.size + 2) 227 _ (0, 0) _ _ rfl rfl (two_set Qc.out _ _) Tryz.underlying227 rfl (by kernel_rfl)) rfl ?_
     exact ⟨rfl, (World.Gr.set Q3.out (by show w.heap.size <= w.heap.size + 1 + 1; omega) _).set (by show w.heap.size <= w.heap.size + 1 + 1; omega) _⟩
    ·have hd3 : (cp == 0) = true := by rw [beq_iff_eq]; exact h3
     have hp := dig_sum (n := p) (by omega)
     have hq := dig_sum (n := q) (by omega)
     have p2 : D2 p = 0 /\ D3 p = 0 := by unfold D2 D3; omega
     have q2 : D2 q = 0 /\ D3 q = 0 := by unfold D2 D3; omega
     have pl := dig_lt p
     have ql := dig_lt q
     have k1 : IntKind.u64.wrap ((D1 p : Int) * 4294967296) = (D1 p : Int) * 4294967296 := IntWalk.u64_in _ (by omega)
     have k2 : IntKind.u64.wrap ((D1 p : Int) * 4294967296 + D0 p) = (p : Int) := by rw [IntWalk.u64_in _ (by omega)]; omega
     have k3 : IntKind.u64.wrap ((D1 q : Int) * 4294967296) = (D1 q : Int) * 4294967296 := IntWalk.u64_in _ (by omega)
     have k4 : IntKind.u64.wrap ((D1 q : Int) * 4294967296 + D0 q) = (q : Int) := by rw [IntWalk.u64_in _ (by omega)]; omega
     have k5 : IntKind.i64.wrap (q : Int) = (q : Int) := IntWalk.i64_in _ (by omega)
     clear hp hq p2 q2 pl ql
     have m1 : IntKind.u64.wrap ((p : Int) - 1) = (p : Int) - 1 := IntWalk.u64_in _ (by omega)
     have m2 : IntKind.i64.wrap ((p : Int) - 1) = (p : Int) - 1 := IntWalk.i64_in _ (by omega)
     have m3 : IntKind.i64.wrap (-((p : Int) - 1)) = -((p : Int) - 1) := IntWalk.i64_in _ (by omega)
     have m4 : IntKind.i64.wrap (-((p : Int) - 1) - 1) = -(p : Int) := by rw [IntWalk.i64_in _ (by omega)]; omega
     have hr : (r1, r2, r3) = (-(p : Int), (q : Int), (0 : Int)) := by rw [HR.out]; rw [if_neg (fun h => h.elim hq (fun h => h.elim hp (fun h => Bool.noConfusion h.2))), if_pos rfl]
     injection hr with h1 h23
     injection h23 with h2 h3
     subst h1 h2 h3
     clear HR
     go_wp2
     refine bodyPost_ret (results_cell_tmp_row (P := Tryz.prog) rfl _ _ (w.heap.size + 2) 227 _ (0, 0) _ _ rfl rfl (two_set Qc.out _ _) Tryz.underlying227 rfl (by kernel_rfl)) rfl ?_
     exact ⟨rfl, (World.Gr.set Q3.out (by show w.heap.size <= w.heap.size + 1 + 1; omega) _).set (by show w.heap.size <= w.heap.size + 1 + 1; omega) _⟩
end
end Go.Proofs.YtbejmdlncnkaaaaGreat
