/-
  The walk of table.Anti.
-/
import Derived.Test.YtbejmdlncnkaaaaGreatInj
namespace Go.Proofs.YtbejmdlncnkaaaaGreat
open Go.RowKit

theorem RdRows.at2 {w w' : World} {h : Value} {rs : List Row} {hs : List Value} (hr : RdRows w h rs hs) (hf : w.Fr w' []) {j : Nat} {r : Row} (hj : rs[j]? = some r) : ∃ g off c a m, h = .slice (some ⟨g, off, none⟩) rs.length c ∧ g < w'.heap.size ∧
    w'.cell? ⟨g, off + j, none⟩ = some (.slice a r.length m) ∧ RdRow w (.slice a r.length m) r := by
  obtain ⟨g, off, c, a, m, h1, h2, h3, h4⟩ := hr.at hj
  refine ⟨g, off, c, a, m, h1, Nat.lt_of_lt_of_le h2 hf.size, ?_, h4⟩
  rw [← h3]
  exact World.cell?_of_block (a := ⟨g, off + j, none⟩) (hf.block g h2 (by simp))
open Classical in
/-- the rows of a that no row of b fits -/
noncomputable def antiRows (a b : Tb) : List Row := a.rows.filter fun x => decide (∀ y, y ∈ b.rows → pick b.vars y (sharedL a.vars b.vars) ≠ pick a.vars x (sharedL a.vars b.vars))
/-- what Anti answers -/
noncomputable def antiT (cf : V → V → Int) (a b : Tb) : Int × Tb := if bothE cf a b ≠ 0 then (bothE cf a b, tNone) else (0, madeT cf a.vars (antiRows a b))
theorem bothE_zero {cf : V → V → Int} {a b : Tb} (h : bothE cf a b = 0) : tcheck cf a = 0 ∧ tcheck cf b = 0 := by
  unfold bothE at h
  split at h
  · exact ⟨by assumption, h⟩
  · rename_i hn; exact absurd h hn
theorem sharedL_mem {a b : List BA} {x : BA} : x ∈ sharedL a b ↔ x ∈ a ∧ x ∈ b := by unfold sharedL hasS; simp
theorem sharedL_len (a b : List BA) : (sharedL a b).length ≤ a.length := List.length_filter_le _ _
theorem RdTab.wf {w : World} {v : Value} {t : Tb} (h : RdTab w v t) : ∀ r, r ∈ t.rows → ∀ x, x ∈ r → x.wf := fun r hr => by
  obtain ⟨a, b, hs, _, _, h2⟩ := h.ex
  obtain ⟨i, hi⟩ := List.getElem?_of_mem hr
  obtain ⟨_, _, _, _, _, _, _, _, h3⟩ := h2.at hi
  exact h3.wf
open Classical in
theorem grp_none {a b : Tb} {ps : List HR} (hp : ps.map (·.2) = b.rows) {want : List BA} {x : Row} (hxl : x.length = a.vars.length) (hbl : ∀ r, r ∈ b.rows → r.length = b.vars.length) (h1 : ∀ s, s ∈ want → s ∈ a.vars) (h2 : ∀ s, s ∈ want → s ∈ b.vars) (ho1 : ∀ v, v ∈ x → VOk v) (ho2 : ∀ r, r ∈ b.rows → ∀ v, v ∈ r → VOk v) :
    (grp (kyOf b.vars want) ps (kyOf a.vars want x)).length = 0 ↔ ∀ y, y ∈ b.rows → pick b.vars y want ≠ pick a.vars x want := by
  rw [List.length_eq_zero_iff]
  unfold grp
  rw [List.filter_eq_nil_iff]
  constructor
  · intro h y hy he
    rw [← hp] at hy
    obtain ⟨p, hpm, rfl⟩ := List.mem_map.1 hy
    have hy2 : p.2 ∈ b.rows := by rw [← hp]; exact List.mem_map_of_mem hpm
    have := h p hpm
    rw [decide_eq_true_iff] at this
    exact this ((kyOf_eq (hbl _ hy2) hxl h2 h1 (ho2 _ hy2) ho1).2 he)
  · intro h p hpm
    have hy2 : p.2 ∈ b.rows := by rw [← hp]; exact List.mem_map_of_mem hpm
    rw [decide_eq_true_iff]
    intro he
    exact h p.2 hy2 ((kyOf_eq (hbl _ hy2) hxl h2 h1 (ho2 _ hy2) ho1).1 he)

open Classical in
set_option maxRecDepth 100000 in
set_option maxHeartbeats 4000000 in
theorem anti26 {okc : V → Prop} {cf : V → V → Int} (hK : Ctx okc cf) {w : World} {v1 v2 : Value} {a b : Tb} (h1 : RdTab w v1 a) (h2 : RdTab w v2 b) (ha : Fits okc a) (hb : Fits okc b) :
    Calls Tryz.prog 55 #[v1, v2] w fun e w' => ∃ v, e = .returned (.tuple #[v, .int .i64 (antiT cf a b).1]) ∧ OwnTab w w' v (antiT cf a b).2 := by
  have hboth := fun w' (hf : w.Fr w' []) => both62 hK.known (h1.still hf) (h2.still hf) ha.ok hb.ok ha.small hb.small
  have hlook := fun w' (hf : w.Fr w' []) v (hv : RdStr w' v (sharedL a.vars b.vars)) => lookup69 (h2.still hf) hv
  have hwf1 := h1.wf
  have hwf2 := h2.wf
  obtain ⟨x1, y1, hs1, rfl, hv1, hr1⟩ := h1.ex
  obtain ⟨x2, y2, hs2, rfl, hv2, hr2⟩ := h2.ex
  obtain ⟨a1, c1, rfl, _, _⟩ := hv1.rd.shape
  obtain ⟨a2, c2, rfl, _, _⟩ := hr1.rd.shape
  obtain ⟨a3, c3, rfl, _, _⟩ := hv2.rd.shape
  obtain ⟨a4, c4, rfl, _, _⟩ := hr2.rd.shape
  have hlen := hr1.len
  have hlen2 := hr2.len
  generalize hR : antiT cf a b = R
  rw [hlen] at hr1 hboth ⊢
  rw [hlen2] at hr2 hboth hlook ⊢
  clear hlen hlen2 h1 h2
  have Hv1 := Lib.hid hv1; have Hv2 := Lib.hid hv2; have Hr1 := Lib.hid hr1; have Ha := Lib.hid ha; have Hb := Lib.hid hb; have HK := Lib.hid hK; have Hboth := Lib.hid hboth; have Hlook := Lib.hid hlook; have HR := Lib.hid hR; have Hwf1 := Lib.hid hwf1; have Hwf2 := Lib.hid hwf2; clear hv1 hv2 hr1 hr2 ha hb hK hboth hlook hR hwf1 hwf2
  go_enter Tryz.func55, Tryz.ntmps55
  go_upto_region 1 with (fail)
  generalize hW : World.alloc (World.alloc (World.alloc w _) _) _ = W
  have q1 : W.heap[w.heap.size]? = some (.cells #[.slice a1 a.vars.length c1, .slice a2 a.rows.length c2] 34 (0, 0)) := by rw [← hW]; exact heap_alloc_some (heap_alloc_some (heap_alloc_at _ _ _ rfl) _) _
  have q2 : W.heap[w.heap.size + 1]? = some (.cells #[.slice a3 b.vars.length c3, .slice a4 b.rows.length c4] 34 (0, 0)) := by rw [← hW]; exact heap_alloc_some (heap_alloc_at _ _ _ (by simp)) _
  have q4 : W.heap[w.heap.size + 1 + 1]? = some (.cells #[.slice none 0 0, .slice none 0 0] 34 (0, 0)) := by rw [← hW]; exact heap_alloc_at _ _ _ (by simp)
  have q3 : w.Fr W [] := by rw [← hW]; exact (((World.Fr.refl w []).alloc _).alloc _).alloc _
  clear hW
  generalize hb1 : w.heap.size = b1 at *
  have Hb1 := Lib.hid hb1; clear hb1
  obtain ⟨p0, p1, pf⟩ := two q1
  obtain ⟨s0, s1, sf⟩ := two q2
  have Q1 := Lib.hid q1; have Q2 := Lib.hid q2; have Q3 := Lib.hid q3; have Q4 := Lib.hid q4; clear q1 q2 q3 q4
  go_wp2_with fail
  refine (Hboth.out _ Q3.out).mono ?_
  rintro e w1 ⟨rfl, hf1⟩
  have q1 := hf1.heap Q1.out (by simp)
  have q2 := hf1.heap Q2.out (by simp)
  have q4 := hf1.heap Q4.out (by simp)
  have q3 := Q3.out.trans hf1 (by simp)
  clear p0 p1 pf s0 s1 sf Q1 Q2 Q3 Q4 hf1 Hboth
  obtain ⟨p0, p1, pf⟩ := two q1
  obtain ⟨s0, s1, sf⟩ := two q2
  obtain ⟨r0, r1, rf⟩ := two q4
  have hlb := lt_of_heap q1
  have hlb2 := lt_of_heap q2
  have hlb4 := lt_of_heap q4
  have Q1 := Lib.hid q1; have Q2 := Lib.hid q2; have Q3 := Lib.hid q3; have Q4 := Lib.hid q4; clear q1 q2 q3 q4
  by_cases h0 : bothE cf a b = 0
  · rw [h0]
    have hres : R = (0, madeT cf a.vars (antiRows a b)) := by rw [← HR.out]; unfold antiT; rw [if_neg (by simp [h0])]
    subst hres
    obtain ⟨ha0, hb0⟩ := bothE_zero h0
    obtain ⟨k1, k2, k3, k4⟩ := tcheck_zero ha0
    obtain ⟨l1, l2, l3, l4⟩ := tcheck_zero hb0
    have hsh := shared63 (Hv1.out.fr Q3.out (by simp)) (Hv2.out.fr Q3.out (by simp)) (by omega) (by omega)
    have Hsh := Lib.hid hsh; have K1 := Lib.hid k1; have K2 := Lib.hid k2; have K3 := Lib.hid k3; have L1 := Lib.hid l1; have L3 := Lib.hid l3
    clear hsh h0 HR ha0 hb0 k1 k2 k3 k4 l1 l2 l3 l4
    go_wp2_with fail
    refine Hsh.out.mono ?_
    rintro e w2 ⟨vw, rfl, how⟩
    obtain ⟨wa, wc, rfl⟩ := how.shape
    rw [List.length_map] at how ⊢
    have hwrd := how.rd (fun s hs => Hv1.out.wf s (sharedL_mem.1 hs).1)
    have q1 := how.fr.heap Q1.out (by simp)
    have q2 := how.fr.heap Q2.out (by simp)
    have q4 := how.fr.heap Q4.out (by simp)
    have q3 := Q3.out.trans how.fr (by simp)
    clear p0 p1 pf s0 s1 sf r0 r1 rf hlb hlb2 hlb4 Q1 Q2 Q3 Q4 Hsh how
    obtain ⟨p0, p1, pf⟩ := two q1
    obtain ⟨s0, s1, sf⟩ := two q2
    have hlb := lt_of_heap q1
    have hlb2 := lt_of_heap q2
    have Q1 := Lib.hid q1; have Q2 := Lib.hid q2; have Q3 := Lib.hid q3; have Q4 := Lib.hid q4; have Hwrd := Lib.hid hwrd; clear q1 q2 q3 q4 hwrd
    have hlk := Hlook.out _ Q3.out _ Hwrd.out L1.out (by have := sharedL_len a.vars b.vars; have := K1.out; omega) Hb.out.rows (fun r hr => (L3.out r hr).1) (fun r hr x hx => VOk.small ⟨(L3.out r hr).2 x hx, Hwf2.out r hr x hx⟩) (fun x hx => (sharedL_mem.1 hx).2)
    have Hlk := Lib.hid hlk; clear hlk
    go_wp2_with fail
    refine Hlk.out.mono ?_
    rintro e w3 ⟨mb, ps, rfl, hgg, hp2, hpr⟩
    have q1 := hgg.fr.heap Q1.out (by simp)
    have q2 := hgg.fr.heap Q2.out (by simp)
    have q4 := hgg.fr.heap Q4.out (by simp)
    have q3 := Q3.out.trans hgg.fr (by simp)
    have hwrd := Hwrd.out.fr hgg.fr (by simp)
    have Hgg := Lib.hid hgg; have Hp2 := Lib.hid hp2
    clear p0 p1 pf s0 s1 sf hlb hlb2 Q1 Q2 Q3 Q4 Hlk hgg hp2 hpr Hwrd Hlook
    obtain ⟨p0, p1, pf⟩ := two q1
    have hlb := lt_of_heap q1
    have Q1 := Lib.hid q1; have Q3 := Lib.hid q3; have Q4 := Lib.hid q4; have Hwrd := Lib.hid hwrd; clear q1 q2 q3 q4 hwrd
    have hpl := places70 (Hv1.out.fr Q3.out (by simp)) Hwrd.out (by have := K1.out; omega) (by have := sharedL_len a.vars b.vars; have := K1.out; omega)
    have Hpl := Lib.hid hpl; clear hpl
    go_wp2_with fail
    refine Hpl.out.mono ?_
    rintro e w4 ⟨vp, rfl, hop⟩
    obtain ⟨pa, pc, rfl⟩ := hop.shape
    have hpw : (pcells a.vars (sharedL a.vars b.vars)).length = (sharedL a.vars b.vars).length := by simp
    rw [hpw] at hop ⊢
    have hin1 : ∀ s, s ∈ sharedL a.vars b.vars → s ∈ a.vars := fun s hs => (sharedL_mem.1 hs).1
    have hin2 : ∀ s, s ∈ sharedL a.vars b.vars → s ∈ b.vars := fun s hs => (sharedL_mem.1 hs).2
    have q1 := hop.fr.heap Q1.out (by simp)
    have q4 := hop.fr.heap Q4.out (by simp)
    have q3 := Q3.out.trans hop.fr (by simp)
    have hgg := Hgg.out.still hop.fr
    have hps := hop.sl
    rw [hpw, plc_cells hin1] at hps
    have hwl : (sharedL a.vars b.vars).length ≤ 8 := Nat.le_trans (sharedL_len _ _) K1.out
    clear p0 p1 pf hlb Q1 Q3 Q4 Hpl hop hpw Hgg Hwrd
    obtain ⟨p0, p1, pf⟩ := two q1
    have hlb := lt_of_heap q1
    have Q1 := Lib.hid q1; have Q3 := Lib.hid q3; have Q4 := Lib.hid q4; have Hgg := Lib.hid hgg; have Hps := Lib.hid hps; have Hin1 := Lib.hid hin1; have Hin2 := Lib.hid hin2; have Hwl := Lib.hid hwl; clear q1 q3 q4 hgg hps hin1 hin2 hwl
    have HR0 : Hid (RowsR w4 w4 (.slice none 0 0) [] []) := Lib.hid (RowsR.nil w4)
    go_wp2
    clear p0 p1 pf hlb
    go_loopw [35, 10] (fun i vb wr => ∃ (j : Nat) (hsn : List Value), i = .int .i64 j ∧ j ≤ a.rows.length ∧ Hid (RowsR w4 wr vb hsn ((a.rows.take j).filter fun x => decide (∀ y, y ∈ b.rows → pick b.vars y (sharedL a.vars b.vars) ≠ pick a.vars x (sharedL a.vars b.vars)))) ∧ Hid (hsn.length ≤ j)) (fun i _ _ => (a.rows.length - intOf i).toNat)
    case atStart => exact ⟨0, [], rfl, Nat.zero_le _, HR0, Lib.hid (Nat.le_refl _)⟩
    case round =>
      obtain ⟨j, hsn, rfl, hj, HRr, Hhl⟩ := hrel
      obtain ⟨xa, xc, hxv, _, _⟩ := HRr.out.sl.shape
      subst hxv
      by_cases hlt : j < a.rows.length
      · obtain ⟨r, hr⟩ : ∃ r, a.rows[j]? = some r := ⟨a.rows[j], List.getElem?_eq_getElem hlt⟩
        have hrm := List.mem_of_getElem? hr
        have hrl := (K3.out r hrm).1
        have hfr := Q3.out.trans HRr.out.fr (by simp)
        obtain ⟨g, off, c, ax, mx, hv, hg, kx, hrow0⟩ := Hr1.out.at2 hfr hr
        cases hv
        have hrow := hrow0.fr hfr (by simp)
        have hjI : (j : Int) < (a.rows.length : Int) := by omega
        have hw1 : IntKind.i64.wrap ((j : Int) + 1) = (j : Int) + 1 := IntWalk.i64_in _ (by have := Ha.out.rows; omega)
        have hvok : ∀ v, v ∈ r → VOk v := fun v hv => ⟨(K3.out r hrm).2 v hv, Hwf1.out r hrm v hv⟩
        have hkey := key71 (plc a.vars (sharedL a.vars b.vars)) hrow (v2 := .slice pa (sharedL a.vars b.vars).length pc) (by rw [plc_len]; exact Hps.out.fr HRr.out.fr (by simp)) (fun q hq => by rw [hrl]; exact plc_lt Hin1.out q hq) (by rw [plc_len]; exact Hwl.out) (by rw [hrl]; exact K1.out) (fun x hx => (hvok x hx).small)
        have hks := kyOf_size (fun x hx => (hvok x hx).small) hrl Hin1.out Hwl.out
        have hno := grp_none Hp2.out hrl (fun r hr => (L3.out r hr).1) Hin1.out Hin2.out hvok (fun r hr v hv => ⟨(L3.out r hr).2 v hv, Hwf2.out r hr v hv⟩)
        have htk : a.rows.take (j + 1) = a.rows.take j ++ [r] := by
          rw [List.take_succ_eq_append_getElem hlt, (List.getElem?_eq_some_iff.1 hr).2]
        have hxlt := hrow0.rd.lt
        have Hkey := Lib.hid hkey; have Hks := Lib.hid hks; have Hno := Lib.hid hno; have Htk := Lib.hid htk; have Hrow := Lib.hid hrow; have Hfr := Lib.hid hfr; have Hxlt := Lib.hid hxlt
        clear hkey hks hno htk hrow hfr hvok hr hrm hrl hxlt hrow0
        change Hid (Calls Tryz.prog 120 _ _ fun e w' => e = .returned (.string (kyOf a.vars (sharedL a.vars b.vars) r)) ∧ _) at Hkey
        generalize kyOf a.vars (sharedL a.vars b.vars) r = key at *
        go_wp2_with fail
        refine Hkey.out.mono ?_
        rintro e w5 ⟨rfl, hf5⟩
        have hgg := (Hgg.out.still HRr.out.fr).still hf5
        obtain ⟨n, f, hn, hgm, hsl, hbl, hdj⟩ := hgg.ex
        have hlk := hgm.look (x := key) (by have := Hks.out; unfold maxLen; omega)
        obtain ⟨va, vc, hva, _, _⟩ := (hsl key).shape
        rw [hva] at hlk
        have HRs := Lib.hid (HRr.out.still hf5)
        have Hrow5 := Lib.hid (Hrow.out.fr hf5 (by simp))
        clear hgg hn hgm hsl hbl hdj hva kx Hkey
        by_cases hz : (grp (kyOf b.vars (sharedL a.vars b.vars)) ps key).length = 0
        · have hP := Hno.out.1 hz
          rw [hz] at hlk
          have hsnr : ((a.rows.take (j + 1)).filter fun x => decide (∀ y, y ∈ b.rows → pick b.vars y (sharedL a.vars b.vars) ≠ pick a.vars x (sharedL a.vars b.vars))) = ((a.rows.take j).filter fun x => decide (∀ y, y ∈ b.rows → pick b.vars y (sharedL a.vars b.vars) ≠ pick a.vars x (sharedL a.vars b.vars))) ++ [r] := by
            rw [Htk.out, List.filter_append, List.filter_cons, if_pos (decide_eq_true hP)]; rfl
          obtain ⟨ih, hih, hh0, hh1, hh2⟩ := info_parts infoH
          have hsl0 := HRs.out.sl
          have Hsnr := Lib.hid hsnr; have Hsl0 := Lib.hid hsl0
          clear hsnr hsl0 hP hz
          generalize hhn : hsn.length = hn at *
          have Hhn := Lib.hid hhn; clear hhn
          have hroom : hn < 5864062014634 := by have := Hhl.out; have := Ha.out.rows; omega
          go_wp2_with (at_builtin; refine wpList_append_one _ rfl (.tmp 46) (.tmp 48) 32 rfl 81 ih (.slice none 0 0) 1 24 Tryz.underlying32 hih hh0 hh1 hh2 rfl (.slice xa hn xc) hn hsn rfl (Hsl0.out.alloc _) w5.heap.size 1 [.slice ax r.length mx] 81 rfl (heap_alloc_at _ _ _ rfl) rfl rfl ⟨by omega, by omega⟩ ?_)
          intro g3 off3 c3 w6 hsl3 hfr3 hat hlt3
          have hpush := HRs.out.push ((World.Fr.refl w5 []).alloc (.cells #[.slice ax r.length mx] 81)) (Hrow5.out.fr ((World.Fr.refl w5 []).alloc _) (by simp)) (fun k hk hk2 => by
            have e1 := Hxlt.out k hk
            have e2 := HRs.out.new k hk2
            have := Q3.out.size; omega) (g := g3) (off := off3) (c := c3) (by rw [Hhn.out]; exact hsl3) hfr3 (by rcases hat with h | h; exact .inl h; exact .inr (by simp at h ⊢; omega))
          rw [← Hsnr.out, Hhn.out] at hpush
          have Hpush := Lib.hid hpush
          clear hpush hsl3 hfr3 hat hlt3 hlk hroom
          go_wp2
          go_roundw
          case rel => exact ⟨j + 1, _, by go_num, by omega, Hpush, Lib.hid (by have := Hhl.out; have := Hhn.out; simp; omega)⟩
          case measure => simp [intOf]; omega
        · have hP := fun h => hz (Hno.out.2 h)
          have hzI : (((grp (kyOf b.vars (sharedL a.vars b.vars)) ps key).length : Int) == 0) = false := beq_eq_false_iff_ne.2 (by omega)
          have hsnr : ((a.rows.take (j + 1)).filter fun x => decide (∀ y, y ∈ b.rows → pick b.vars y (sharedL a.vars b.vars) ≠ pick a.vars x (sharedL a.vars b.vars))) = ((a.rows.take j).filter fun x => decide (∀ y, y ∈ b.rows → pick b.vars y (sharedL a.vars b.vars) ≠ pick a.vars x (sharedL a.vars b.vars))) := by
            rw [Htk.out, List.filter_append, List.filter_cons, if_neg (by rw [decide_eq_true_iff]; exact hP)]; simp
          have hrs := HRs.out
          rw [← hsnr] at hrs
          have Hpush := Lib.hid hrs
          clear hrs hsnr hP hz
          generalize (grp (kyOf b.vars (sharedL a.vars b.vars)) ps key).length = gl at *
          go_wp2
          go_roundw
          case rel => exact ⟨j + 1, _, by go_num, by omega, Hpush, Lib.hid (by have := Hhl.out; omega)⟩
          case measure => simp [intOf]; omega
      · have hd : decide ((j : Int) < (a.rows.length : Int)) = false := decide_eq_false (by omega)
        have hd2 : decide (j < a.rows.length) = false := decide_eq_false hlt
        obtain rfl : j = a.rows.length := by omega
        rw [List.take_of_length_le (Nat.le_refl _)] at HRr
        change Hid (RowsR w4 wr _ hsn (antiRows a b)) at HRr
        have hfr := Q3.out.trans HRr.out.fr (by simp)
        have hbx := HRr.out.fr.heap Q4.out (by simp)
        have hq1 := HRr.out.fr.heap Q1.out (by simp)
        have hsub : ∀ r, r ∈ antiRows a b → r ∈ a.rows := fun r hr => (List.mem_filter.1 hr).1
        have hlen : (antiRows a b).length ≤ a.rows.length := List.length_filter_le _ _
        have hc := made73 HK.out.cmp HK.out.ord (Hv1.out.fr hfr (by simp)) HRr.out.rd K1.out (by have := Ha.out.rows; omega) (fun r hr => (K3.out r (hsub r hr)).1) (fun r hr x hx => ⟨Ha.out.ok r (hsub r hr) x hx, (K3.out r (hsub r hr)).2 x hx⟩) (nodup_of_pair K2.out)
        have Hc := Lib.hid hc; have Hbx := Lib.hid hbx; have Hfr := Lib.hid hfr; clear hc hbx hfr hlt hj hsub hlen
        obtain ⟨p0, p1, pf⟩ := two hq1
        clear hq1
        go_wp2_with fail
        refine Hc.out.mono ?_
        rintro e w6 ⟨v, rfl, ho⟩
        obtain ⟨x1, y1, x2, y2, rfl⟩ := ho.shape
        have hbx := ho.fr.heap Hbx.out (by simp)
        have ho2 := (ho.since Hfr.out).put hbx (by have := Hb1.out; omega)
        clear p0 p1 pf
        obtain ⟨p0, p1, pf⟩ := two hbx
        have hbW := lt_of_heap hbx
        obtain ⟨f0, f1, _⟩ := two ho2.2
        have Hfin := Lib.hid ho2.1
        clear ho2 ho hbx
        go_wp2
        refine bodyPost_ret (v := .tuple #[.agg #[.slice x1 _ y1, .slice x2 _ y2], .int .i64 0]) (by simp [results, Tryz.results55, go_sem, f0, f1]) rfl ⟨_, rfl, Hfin.out⟩
  · have hres : R = (bothE cf a b, tNone) := by rw [← HR.out]; unfold antiT; rw [if_pos h0]
    have h0b : (bothE cf a b == 0) = false := beq_eq_false_iff_ne.2 h0
    have h0c : (bothE cf a b != 0) = true := by simp [h0]
    clear h0 HR
    generalize bothE cf a b = z at *
    subst hres
    go_wp2
    have hfin := (OwnTab.empty (w := w) Q3.out).put Q4.out (by have := Hb1.out; omega)
    obtain ⟨f0, f1, _⟩ := two hfin.2
    have Hfin := Lib.hid hfin.1
    clear hfin p0 p1 pf
    refine bodyPost_ret (v := .tuple #[.agg #[.slice none 0 0, .slice none 0 0], .int .i64 z]) (by simp [results, Tryz.results55, go_sem, f0, f1]) rfl ⟨_, rfl, Hfin.out⟩
end Go.Proofs.YtbejmdlncnkaaaaGreat
