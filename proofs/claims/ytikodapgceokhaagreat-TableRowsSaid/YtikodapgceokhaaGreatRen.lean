/-
  The walk of table.Rename.
-/
import Derived.Test.YtikodapgceokhaaGreatCol
namespace Go.Proofs.YtikodapgceokhaaGreat
open Go.RowKit

/-- names, named anew one by one: l's own places -/
def renL (l : List BA) : List BA → List BA → List BA → List BA
  | acc, f :: fs, t :: ts => renL l (acc.set (idx l f).toNat t) fs ts
  | acc, _, _ => acc
theorem renL_step {l acc fs ts : List BA} {j : Nat} {f t : BA} (hf : fs[j]? = some f) (ht : ts[j]? = some t) : renL l acc (fs.drop j) (ts.drop j) = renL l (acc.set (idx l f).toNat t) (fs.drop (j + 1)) (ts.drop (j + 1)) := by
  obtain ⟨h1, rfl⟩ := List.getElem?_eq_some_iff.1 hf
  obtain ⟨h2, rfl⟩ := List.getElem?_eq_some_iff.1 ht
  rw [List.drop_eq_getElem_cons h1, List.drop_eq_getElem_cons h2]
  rfl
theorem renL_len (l : List BA) : ∀ (fs ts acc : List BA), (renL l acc fs ts).length = acc.length
  | [], ts, acc => by cases ts <;> rfl
  | f :: fs, [], acc => rfl
  | f :: fs, t :: ts, acc => by rw [renL, renL_len l fs ts]; simp
theorem renL_mem (l : List BA) : ∀ (fs ts acc : List BA) (x : BA), x ∈ renL l acc fs ts → x ∈ acc ∨ x ∈ ts
  | [], ts, acc, x, h => by cases ts <;> exact .inl h
  | f :: fs, [], acc, x, h => .inl h
  | f :: fs, t :: ts, acc, x, h => by
    rw [renL] at h
    rcases renL_mem l fs ts _ x h with h | h
    · rcases List.mem_or_eq_of_mem_set h with h | h
      · exact .inl h
      · exact .inr (by simp [h])
    · exact .inr (by simp [h])
open Classical in
/-- what Rename answers -/
noncomputable def renameT (cf : V → V → Int) (t : Tb) (fs ts : List BA) : Int × Tb :=
  if tcheck cf t ≠ 0 then (tcheck cf t, tNone) else if fs.length ≠ ts.length then (1, tNone) else if ¬ fs.Nodup ∨ ¬ (∀ x, x ∈ fs → x ∈ t.vars) then (30, tNone)
  else if ¬ (renL t.vars t.vars fs ts).Nodup then (30, tNone) else (0, madeT cf (renL t.vars t.vars fs ts) t.rows)

open Classical in
set_option maxRecDepth 100000 in
set_option maxHeartbeats 4000000 in
theorem rename28 {okc : V → Prop} {cf : V → V → Int} (hK : Ctx okc cf) {w : World} {v1 v2 v3 : Value} {t : Tb} {fs ts : List BA} (h1 : RdTab w v1 t) (h2 : RdStr w v2 fs) (h3 : RdStr w v3 ts) (ht : Fits okc t) (hl : fs.length ≤ 8796093021952) :
    Calls Tryz.prog 28 #[v1, v2, v3] w fun e w' => ∃ v, e = .returned (.tuple #[v, .int .i64 (renameT cf t fs ts).1]) ∧ OwnTab w w' v (renameT cf t fs ts).2 := by
  have hchk := fun w' (hf : w.Fr w' []) => check15' hK.known (h1.still hf) ht.ok ht.small
  obtain ⟨x1, y1, hs1, rfl, hv1, hr1⟩ := h1.ex
  obtain ⟨a1, c1, rfl, _, _⟩ := hv1.rd.shape
  obtain ⟨a2, c2, rfl, _, _⟩ := h2.rd.shape
  obtain ⟨a5, c5, rfl, _, _⟩ := h3.rd.shape
  obtain ⟨a3, c3, rfl, _, _⟩ := hr1.rd.shape
  have hlen := hr1.len
  generalize hR : renameT cf t fs ts = R
  rw [hlen] at hr1 hchk ⊢
  clear hlen h1
  have Hv1 := Lib.hid hv1; have H2 := Lib.hid h2; have H3 := Lib.hid h3; have Hr1 := Lib.hid hr1; have Hl := Lib.hid hl; have Ht := Lib.hid ht; have HK := Lib.hid hK; have Hchk := Lib.hid hchk; have HR := Lib.hid hR; clear h2 h3 hv1 hr1 hl ht hK hchk hR
  go_enter Tryz.func28, Tryz.ntmps28
  go_upto_region 1 with (fail)
  generalize hW : World.alloc (World.alloc w _) _ = W
  have q1 : W.heap[w.heap.size]? = some (.cells #[.slice a1 t.vars.length c1, .slice a3 t.rows.length c3] 25 (0, 0)) := by rw [← hW]; exact heap_alloc_some (heap_alloc_at _ _ _ rfl) _
  have q2 : W.heap[w.heap.size + 1]? = some (.cells #[.slice none 0 0, .slice none 0 0] 25 (0, 0)) := by rw [← hW]; exact heap_alloc_at _ _ _ (by simp)
  have q3 : w.Fr W [] := by rw [← hW]; exact ((World.Fr.refl w []).alloc _).alloc _
  clear hW
  generalize hb1 : w.heap.size = b1 at *
  have Hb1 := Lib.hid hb1; clear hb1
  obtain ⟨p0, p1, pf⟩ := two q1
  have Q1 := Lib.hid q1; have Q2 := Lib.hid q2; have Q3 := Lib.hid q3; clear q1 q2 q3
  go_wp2_with fail
  refine (Hchk.out _ Q3.out).mono ?_
  rintro e w1 ⟨rfl, hf1⟩
  have q1 := hf1.heap Q1.out (by simp)
  have q2 := hf1.heap Q2.out (by simp)
  have q3 := Q3.out.trans hf1 (by simp)
  clear p0 p1 pf Q1 Q2 Q3 hf1
  obtain ⟨p0, p1, pf⟩ := two q1
  obtain ⟨r0, r1, rf⟩ := two q2
  have hlb := lt_of_heap q1
  have hlb2 := lt_of_heap q2
  have Q1 := Lib.hid q1; have Q2 := Lib.hid q2; have Q3 := Lib.hid q3; clear q1 q2 q3
  -- the ways that end without a table
  have hbad : ∀ (W : World) (z : Int), w.Fr W [] → W.heap[b1 + 1]? = some (.cells #[.slice none 0 0, .slice none 0 0] 25 (0, 0)) → OwnTab w ((W.setCell ⟨b1 + 1, 0, none⟩ (.slice none 0 0)).setCell ⟨b1 + 1, 1, none⟩ (.slice none 0 0)) (.agg #[.slice none 0 0, .slice none 0 0]) tNone ∧
      ((W.setCell ⟨b1 + 1, 0, none⟩ (.slice none 0 0)).setCell ⟨b1 + 1, 1, none⟩ (.slice none 0 0)).heap[b1 + 1]? = some (.cells #[.slice none 0 0, .slice none 0 0] 25 (0, 0)) := fun W z hf hb => (OwnTab.empty (w := w) hf).put hb (by have := Hb1.out; omega)
  have Hbad := Lib.hid hbad; clear hbad
  by_cases h0 : tcheck cf t = 0
  · rw [h0]
    obtain ⟨k1, k2, k3, k4⟩ := tcheck_zero h0
    have K1 := Lib.hid k1; have K2 := Lib.hid k2; have K3 := Lib.hid k3; clear k1 k2 k3 k4
    by_cases hft : fs.length = ts.length
    · have hres : R = if ¬ fs.Nodup ∨ ¬ (∀ x, x ∈ fs → x ∈ t.vars) then (30, tNone) else if ¬ (renL t.vars t.vars fs ts).Nodup then (30, tNone) else (0, madeT cf (renL t.vars t.vars fs ts) t.rows) := by
        rw [← HR.out]; unfold renameT; rw [if_neg (by simp [h0]), if_neg (by simp [hft])]
      have hbb : ((fs.length : Int) == (ts.length : Int)) = true := by simp [hft]
      have hbc : ((fs.length : Int) != (ts.length : Int)) = false := by simp [hft]
      have HR2 := Lib.hid hres; have Hft := Lib.hid hft
      clear hres h0 hft HR
      have hpl := places70 (Hv1.out.fr Q3.out (by simp)) (H2.out.fr Q3.out (by simp)) (by have := K1.out; omega) (by have := Hl.out; omega)
      have Hpl := Lib.hid hpl; clear hpl
      go_wp2_with fail
      refine Hpl.out.mono ?_
      rintro e w3 ⟨vp, rfl, hop⟩
      obtain ⟨pa, pc, rfl⟩ := hop.shape
      have hps := hop.sl
      rw [pcells_icells] at hps hop ⊢
      have hpw : (icells (fs.map (idx t.vars))).length = fs.length := by simp
      rw [hpw] at hps ⊢
      have q1 := hop.fr.heap Q1.out (by simp)
      have q2 := hop.fr.heap Q2.out (by simp)
      have q3 := Q3.out.trans hop.fr (by simp)
      have Hps := Lib.hid hps
      clear p0 p1 pf r0 r1 rf Q1 Q2 Q3 hop Hpl hps hlb hlb2 hpw
      obtain ⟨p0, p1, pf⟩ := two q1
      obtain ⟨r0, r1, rf⟩ := two q2
      have hlb := lt_of_heap q1
      have hlb2 := lt_of_heap q2
      have Q1 := Lib.hid q1; have Q2 := Lib.hid q2; have Q3 := Lib.hid q3; clear q1 q2 q3
      have hun := unlike78 (H2.out.fr Q3.out (by simp)) Hl.out
      have Hun := Lib.hid hun; clear hun
      go_wp2_with fail
      refine Hun.out.mono ?_
      rintro e w2 ⟨rfl, hf2⟩
      have q1 := hf2.heap Q1.out (by simp)
      have q2 := hf2.heap Q2.out (by simp)
      have q3 := Q3.out.trans hf2 (by simp)
      have hps := Hps.out.fr hf2 (by simp)
      clear p0 p1 pf r0 r1 rf Q1 Q2 Q3 hf2 Hun hlb hlb2 Hps
      obtain ⟨p0, p1, pf⟩ := two q1
      obtain ⟨r0, r1, rf⟩ := two q2
      have hlb := lt_of_heap q1
      have hlb2 := lt_of_heap q2
      have Q1 := Lib.hid q1; have Q2 := Lib.hid q2; have Q3 := Lib.hid q3; have Hps := Lib.hid hps; clear q1 q2 q3 hps
      cases hu : risesB (sortS fs) with
      | false =>
        have hres : R = (30, tNone) := by rw [HR2.out, if_pos (.inl fun h => by rw [(unlike_iff fs).2 h] at hu; cases hu)]
        subst hres
        clear HR2
        go_wp2
        have hfin := Hbad.out _ 30 Q3.out Q2.out
        obtain ⟨f0, f1, _⟩ := two hfin.2
        have Hfin := Lib.hid hfin.1
        clear hfin p0 p1 pf
        refine bodyPost_ret (v := .tuple #[.agg #[.slice none 0 0, .slice none 0 0], .int .i64 30]) (by simp [results, Tryz.results28, go_sem, f0, f1]) rfl ⟨_, rfl, Hfin.out⟩
      | true =>
        have hnd := (unlike_iff fs).1 hu
        have hct := contains79 (l := fs.map (idx t.vars)) (v := .slice pa fs.length pc) (-1) (by rw [List.length_map]; exact Hps.out) (by simp; have := Hl.out; omega)
        have Hct := Lib.hid hct; have Hnd := Lib.hid hnd; clear hct hnd hu
        go_wp2_with fail
        refine Hct.out.mono ?_
        rintro e w4 ⟨rfl, rfl⟩
        cases hh : hasI (fs.map (idx t.vars)) (-1) with
        | true =>
          have hres : R = (30, tNone) := by
            rw [HR2.out, if_pos (.inr fun h => by rw [no_places.2 h] at hh; cases hh)]
          subst hres
          clear HR2 hh Hct
          go_wp2
          have hfin := Hbad.out _ 30 Q3.out Q2.out
          obtain ⟨f0, f1, _⟩ := two hfin.2
          have Hfin := Lib.hid hfin.1
          clear hfin p0 p1 pf
          refine bodyPost_ret (v := .tuple #[.agg #[.slice none 0 0, .slice none 0 0], .int .i64 30]) (by simp [results, Tryz.results28, go_sem, f0, f1]) rfl ⟨_, rfl, Hfin.out⟩
        | false =>
          have hin := no_places.1 hh
          have hres : R = if ¬ (renL t.vars t.vars fs ts).Nodup then (30, tNone) else (0, madeT cf (renL t.vars t.vars fs ts) t.rows) := by
            rw [HR2.out, if_neg (fun h => h.elim (fun h => h Hnd.out) (fun h => h hin))]
          have HR3 := Lib.hid hres; have Hin := Lib.hid hin
          clear HR2 hh Hct hin hres
          have hcl := clone65 (Hv1.out.fr Q3.out (by simp)) (by have := K1.out; omega)
          have Hcl := Lib.hid hcl; clear hcl
          go_wp2_with fail
          refine Hcl.out.mono ?_
          rintro e w5 ⟨v5, rfl, ho⟩
          obtain ⟨a6, c6, rfl⟩ := ho.shape
          rw [List.length_map] at ho ⊢
          have q1 := ho.fr.heap Q1.out (by simp)
          have q2 := ho.fr.heap Q2.out (by simp)
          have q3 := Q3.out.trans ho.fr (by simp)
          have hps := Hps.out.fr ho.fr (by simp)
          have hos := ho.sl
          rw [List.length_map] at hos
          have hnew : ∀ k, k ∈ (Value.slice a6 t.vars.length c6).blk → w.heap.size ≤ k ∧ k ≠ b1 ∧ k ≠ b1 + 1 ∧ k ∉ (Value.slice pa fs.length pc).blk := fun k hk => by
            have := ho.new k hk
            refine ⟨by have := Q3.out.size; omega, by omega, by omega, apart hos hps (by decide) k hk⟩
          have Hnew := Lib.hid hnew; have Hos := Lib.hid hos
          clear p0 p1 pf r0 r1 rf Q1 Q2 Q3 Hps Hcl ho hlb hlb2 hnew hos
          have Q1 := Lib.hid q1; have Q2 := Lib.hid q2; have Q3 := Lib.hid q3; have Hps := Lib.hid hps; clear q1 q2 q3 hps
          go_wp2
          go_loopw [42] (fun i wr => ∃ (j : Nat) (acc : List BA), i = .int .i64 j ∧ j ≤ fs.length ∧ Hid (renL t.vars acc (fs.drop j) (ts.drop j) = renL t.vars t.vars fs ts ∧ acc.length = t.vars.length ∧ ∀ s, s ∈ acc → s.size ≤ 9223372036854775807) ∧ Hid (wr.Sl 9 1 (.slice a6 t.vars.length c6) t.vars.length (acc.map Value.string)) ∧ Hid (w5.Fr wr (Value.slice a6 t.vars.length c6).blk)) (fun i _ => (fs.length - intOf i).toNat)
          case atStart => exact ⟨0, t.vars, rfl, Nat.zero_le _, Lib.hid ⟨rfl, rfl, Hv1.out.wf⟩, Hos, Lib.hid (World.Fr.refl _ _)⟩
          case round =>
            obtain ⟨j, acc, rfl, hj, HA, HS, HF⟩ := hrel
            have hfw := Q3.out.trans HF.out (fun k hk => .inr (Hnew.out k hk).1)
            have hdis : ∀ (u : Value), (∀ k, k ∈ u.blk → k < w.heap.size) → ∀ k, k ∈ u.blk → k ∉ (Value.slice a6 t.vars.length c6).blk := fun u hu k hk hk2 => by have := (Hnew.out k hk2).1; have := hu k hk; omega
            by_cases hlt : j < fs.length
            · obtain ⟨f, hf⟩ : ∃ f, fs[j]? = some f := ⟨fs[j], List.getElem?_eq_getElem hlt⟩
              obtain ⟨z, hz⟩ : ∃ z, ts[j]? = some z := ⟨ts[j]'(by have := Hft.out; omega), List.getElem?_eq_getElem (by have := Hft.out; omega)⟩
              obtain ⟨p, hp⟩ : ∃ p : Nat, idx t.vars f = p := ⟨(idx t.vars f).toNat, by have := idx_mem.2 (Hin.out f (List.mem_of_getElem? hf)); omega⟩
              have hpr := idx_range t.vars f
              rw [hp] at hpr
              have hpN : p < t.vars.length := by omega
              have hpI : (p : Int) < (t.vars.length : Int) := hpr.2
              have hjI : (j : Int) < (fs.length : Int) := by omega
              have hjT : (j : Int) < (ts.length : Int) := by have := Hft.out; omega
              have hw1 : IntKind.i64.wrap ((j : Int) + 1) = (j : Int) + 1 := IntWalk.i64_in _ (by have := Hl.out; omega)
              have hps := Hps.out.fr HF.out (fun k hk hk2 => (Hnew.out k hk2).2.2.2 hk)
              obtain ⟨g4, off4, c4, hv4, _, _, hg4, kcs, kfz⟩ := hps.form (by omega)
              have ko := kcs j (by omega)
              clear kcs kfz
              cases hv4
              rw [List.getElem?_map, List.getElem?_map, hf] at ko
              simp only [Option.map_some, hp] at ko
              obtain ⟨g7, off7, c7, hv7, hg7, kz⟩ := (H3.out.fr hfw (by simp)).at hz
              cases hv7
              obtain ⟨g6, off6, c6', hv6, _, _, hg6, ecs, efz⟩ := HS.out.form (by omega)
              cases hv6
              have hset := HS.out.set p hpN (.string z)
              have hmap : (acc.map Value.string).set p (.string z) = (acc.set p z).map Value.string := by rw [List.map_set]
              rw [hmap] at hset
              have hst : renL t.vars (acc.set p z) (fs.drop (j + 1)) (ts.drop (j + 1)) = renL t.vars t.vars fs ts := by
                have := renL_step (l := t.vars) (acc := acc) hf hz
                rw [hp] at this
                rw [← HA.out.1, this]
                rfl
              have hwf : ∀ s, s ∈ acc.set p z → s.size ≤ 9223372036854775807 := fun s hs => by
                rcases List.mem_or_eq_of_mem_set hs with h | h
                · exact HA.out.2.2 s h
                · rw [h]; exact H3.out.wf z (List.mem_of_getElem? hz)
              obtain ⟨y0, hy0⟩ : ∃ y, wr.cell? ⟨g6, off6 + p, none⟩ = some y := by
                have := ecs p (by omega)
                rw [List.getElem?_eq_getElem (by rw [List.length_map, HA.out.2.1]; exact hpN)] at this
                exact ⟨_, this⟩
              have hfz := efz (off6 + p)
              have Hset := Lib.hid hset; have Hst := Lib.hid hst; have Hwf := Lib.hid hwf
              have Hal := Lib.hid (show (acc.set p z).length = t.vars.length by rw [List.length_set]; exact HA.out.2.1)
              clear hset hst hwf hmap ecs efz hf hz hp hpr hps hdis hfw
              go_wp2
              go_roundw
              case rel => exact ⟨j + 1, acc.set p z, by go_num, by omega, Lib.hid ⟨Hst.out, Hal.out, Hwf.out⟩, Lib.hid Hset.out.1, Lib.hid (HF.out.trans Hset.out.2 (fun k hk => .inl (by simpa [Value.blk] using hk)))⟩
              case measure => simp [intOf]; omega
            · have hd : decide ((j : Int) < (fs.length : Int)) = false := decide_eq_false (by omega)
              have hd2 : decide (j < fs.length) = false := decide_eq_false hlt
              obtain rfl : j = fs.length := by omega
              have hA := HA.out.1
              rw [List.drop_of_length_le (Nat.le_refl _)] at hA
              have hacc : acc = renL t.vars t.vars fs ts := by rw [← hA]; cases ts.drop fs.length <;> rfl
              have hal : acc.length = t.vars.length := HA.out.2.1
              have hrd : RdStr wr (.slice a6 t.vars.length c6) acc := ⟨by have := HS.out.rd; rw [hal]; exact this, HA.out.2.2⟩
              have q1 := HF.out.heap Q1.out (fun hk => (Hnew.out _ hk).2.1 rfl)
              have q2 := HF.out.heap Q2.out (fun hk => (Hnew.out _ hk).2.2.1 rfl)
              rw [← hacc] at HR3
              have hun := unlike78 hrd (by have := K1.out; omega)
              have Hun := Lib.hid hun; have Hrd := Lib.hid hrd; have Hfw := Lib.hid hfw; have Hal := Lib.hid hal
              clear hun hrd hfw hacc hA hal Q1 Q2 Q3 HA hdis hlt hj
              obtain ⟨p0, p1, pf⟩ := two q1
              obtain ⟨r0, r1, rf⟩ := two q2
              have hlb := lt_of_heap q1
              have hlb2 := lt_of_heap q2
              have Q1 := Lib.hid q1; have Q2 := Lib.hid q2; clear q1 q2
              go_wp2_with fail
              refine Hun.out.mono ?_
              rintro e w6 ⟨rfl, hf6⟩
              have q1 := hf6.heap Q1.out (by simp)
              have q2 := hf6.heap Q2.out (by simp)
              have hfw := Hfw.out.trans hf6 (by simp)
              have hrd := Hrd.out.fr hf6 (by simp)
              clear p0 p1 pf r0 r1 rf Q1 Q2 Hun hlb hlb2 Hfw Hrd hf6
              obtain ⟨p0, p1, pf⟩ := two q1
              obtain ⟨r0, r1, rf⟩ := two q2
              have hlb := lt_of_heap q1
              have hlb2 := lt_of_heap q2
              have Q1 := Lib.hid q1; have Q2 := Lib.hid q2; have Hfw := Lib.hid hfw; have Hrd := Lib.hid hrd; clear q1 q2 hfw hrd
              cases hu : risesB (sortS acc) with
              | false =>
                have hres : R = (30, tNone) := by rw [HR3.out, if_pos (fun h => by rw [(unlike_iff acc).2 h] at hu; cases hu)]
                subst hres
                clear HR3
                go_wp2
                have hfin := Hbad.out _ 30 Hfw.out Q2.out
                obtain ⟨f0, f1, _⟩ := two hfin.2
                have Hfin := Lib.hid hfin.1
                clear hfin p0 p1 pf
                refine bodyPost_ret (v := .tuple #[.agg #[.slice none 0 0, .slice none 0 0], .int .i64 30]) (by simp [results, Tryz.results28, go_sem, f0, f1]) rfl ⟨_, rfl, Hfin.out⟩
              | true =>
                have hnd := (unlike_iff acc).1 hu
                have hres : R = (0, madeT cf acc t.rows) := by rw [HR3.out, if_neg (fun h => h hnd)]
                subst hres
                have hc := made73 HK.out.cmp HK.out.ord Hrd.out (Hr1.out.still Hfw.out) (by rw [Hal.out]; exact K1.out) Ht.out.rows (fun r hr => by rw [Hal.out]; exact (K3.out r hr).1) (fun r hr x hx => ⟨Ht.out.ok r hr x hx, (K3.out r hr).2 x hx⟩) hnd
                have Hc := Lib.hid hc
                clear hc HR3 hnd hu
                go_wp2_with fail
                refine Hc.out.mono ?_
                rintro e w7 ⟨v, rfl, ho⟩
                obtain ⟨x1, y1, x2, y2, rfl⟩ := ho.shape
                have hbx := ho.fr.heap Q2.out (by simp)
                have ho2 := (ho.since Hfw.out).put hbx (by have := Hb1.out; omega)
                clear p0 p1 pf r0 r1 rf hlb hlb2
                obtain ⟨p0, p1, pf⟩ := two hbx
                have hbW := lt_of_heap hbx
                obtain ⟨f0, f1, _⟩ := two ho2.2
                have Hfin := Lib.hid ho2.1
                clear ho2 ho hbx
                go_wp2
                refine bodyPost_ret (v := .tuple #[.agg #[.slice x1 _ y1, .slice x2 _ y2], .int .i64 0]) (by simp [results, Tryz.results28, go_sem, f0, f1]) rfl ⟨_, rfl, Hfin.out⟩
    · have hres : R = (1, tNone) := by rw [← HR.out]; unfold renameT; rw [if_neg (by simp [h0]), if_pos hft]
      have hbb : ((fs.length : Int) == (ts.length : Int)) = false := beq_eq_false_iff_ne.2 (by omega)
      have hbc : ((fs.length : Int) != (ts.length : Int)) = true := by simp; omega
      clear h0 HR hft
      subst hres
      go_wp2
      have hfin := Hbad.out _ 1 Q3.out Q2.out
      obtain ⟨f0, f1, _⟩ := two hfin.2
      have Hfin := Lib.hid hfin.1
      clear hfin p0 p1 pf
      refine bodyPost_ret (v := .tuple #[.agg #[.slice none 0 0, .slice none 0 0], .int .i64 1]) (by simp [results, Tryz.results28, go_sem, f0, f1]) rfl ⟨_, rfl, Hfin.out⟩
  · have hres : R = (tcheck cf t, tNone) := by rw [← HR.out]; unfold renameT; rw [if_pos h0]
    have h0b : (tcheck cf t == 0) = false := beq_eq_false_iff_ne.2 h0
    have h0c : (tcheck cf t != 0) = true := by simp [h0]
    clear h0 HR
    generalize tcheck cf t = z at *
    subst hres
    go_wp2
    have hfin := Hbad.out _ z Q3.out Q2.out
    obtain ⟨f0, f1, _⟩ := two hfin.2
    have Hfin := Lib.hid hfin.1
    clear hfin p0 p1 pf
    refine bodyPost_ret (v := .tuple #[.agg #[.slice none 0 0, .slice none 0 0], .int .i64 z]) (by simp [results, Tryz.results28, go_sem, f0, f1]) rfl ⟨_, rfl, Hfin.out⟩
end Go.Proofs.YtikodapgceokhaaGreat
