/-
  The walk of table.lookup.
-/
import Derived.Test.YtikodapgceokhaaGreatMap
namespace Go.Proofs.YtikodapgceokhaaGreat
open Go.RowKit

/-- where some names stand -/
def plc (l want : List BA) : List Nat := want.map fun x => (idx l x).toNat
def kyOf (l want : List BA) (r : Row) : BA := keyS r (plc l want)
theorem plc_cells {l want : List BA} (h : ∀ x, x ∈ want → x ∈ l) : pcells l want = (plc l want).map fun p : Nat => Value.int .i64 (p : Int) := by
  unfold plc
  rw [List.map_map]
  refine List.map_congr_left fun x hx => ?_
  have := idx_mem.2 (h x hx)
  simp only [Function.comp]
  congr 1; omega
theorem plc_lt {l want : List BA} (h : ∀ x, x ∈ want → x ∈ l) : ∀ p, p ∈ plc l want → p < l.length := fun p hp => by
  obtain ⟨x, hx, rfl⟩ := List.mem_map.1 hp
  have h1 := idx_mem.2 (h x hx)
  have h2 := idx_range l x
  omega
theorem plc_len (l want : List BA) : (plc l want).length = want.length := by simp [plc]
theorem kyOf_size {l want : List BA} {r : Row} (hs : ∀ x, x ∈ r → x.s.size ≤ 64) (hr : r.length = l.length) (h : ∀ x, x ∈ want → x ∈ l) (hl : want.length ≤ 8) : (kyOf l want r).size ≤ 664 := by
  have h1 := keyL_len hs (plc l want) (fun p hp => by rw [hr]; exact plc_lt h p hp)
  have h2 : (kyOf l want r).size = (keyL r (plc l want)).length := by simp [kyOf, keyS, ByteArray.size]
  rw [h2]
  rw [plc_len] at h1
  omega

open Classical in
set_option maxRecDepth 100000 in
set_option maxHeartbeats 4000000 in
theorem lookup69 {w : World} {v1 v2 : Value} {t : Tb} {want : List BA} (h1 : RdTab w v1 t) (h2 : RdStr w v2 want) (hl : t.vars.length ≤ 8) (hl2 : want.length ≤ 8) (hm : t.rows.length ≤ 5864062014634) (hw : ∀ r, r ∈ t.rows → r.length = t.vars.length) (hs : ∀ r, r ∈ t.rows → ∀ x, x ∈ r → x.s.size ≤ 64) (hin : ∀ x, x ∈ want → x ∈ t.vars) :
    Calls Tryz.prog 69 #[v1, v2] w fun e w' => ∃ b ps, e = .returned (.map (some b)) ∧ GG w w' b ps (kyOf t.vars want) ∧ ps.map (·.2) = t.rows ∧ ∀ p, p ∈ ps → RdRow w p.1 p.2 := by
  obtain ⟨x1, y1, hs1, rfl, hv1, hr1⟩ := h1.ex
  obtain ⟨a1, c1, rfl, _, _⟩ := hv1.rd.shape
  obtain ⟨a2, c2, rfl, _, _⟩ := h2.rd.shape
  obtain ⟨a3, c3, rfl, _, _⟩ := hr1.rd.shape
  have hlen := hr1.len
  rw [hlen] at hr1 ⊢
  clear h1
  obtain ⟨ps, hps⟩ : ∃ ps, ps = hs1.zip t.rows := ⟨_, rfl⟩
  have hp1 : ps.map (·.1) = hs1 := by rw [hps]; exact zip_fst hlen
  have hp2 : ps.map (·.2) = t.rows := by rw [hps]; exact zip_snd hlen
  have hpr : ∀ p, p ∈ ps → RdRow w p.1 p.2 := fun p hp => by
    rw [hps] at hp
    obtain ⟨i, hi⟩ := List.getElem?_of_mem hp
    rw [List.getElem?_zip_eq_some] at hi
    exact hr1.row i p.1 p.2 hi.1 hi.2
  have hpl : ps.length = t.rows.length := by rw [← hp2, List.length_map]
  clear hps
  have hmm := @run_makeMap Tryz.prog
  have Hv1 := Lib.hid hv1; have H2 := Lib.hid h2; have Hr1 := Lib.hid hr1; have Hl := Lib.hid hl; have Hl2 := Lib.hid hl2; have Hm := Lib.hid hm; have Hw := Lib.hid hw; have Hs := Lib.hid hs; have Hin := Lib.hid hin; have Hp1 := Lib.hid hp1; have Hp2 := Lib.hid hp2; have Hpr := Lib.hid hpr; have Hpl := Lib.hid hpl; clear h2 hv1 hr1 hl hl2 hm hw hs hin hp1 hp2 hpr hpl hlen
  go_enter Tryz.func69, Tryz.ntmps69
  go_upto_region 1 with (fail)
  generalize hW : World.alloc w _ = W
  have q1 : W.heap[w.heap.size]? = some (.cells #[.slice a1 t.vars.length c1, .slice a3 t.rows.length c3] 25 (0, 0)) := by rw [← hW]; exact heap_alloc_at _ _ _ rfl
  have q3 : w.Fr W [] := by rw [← hW]; exact (World.Fr.refl w []).alloc _
  clear hW
  generalize hb1 : w.heap.size = b1 at *
  have Hb1 := Lib.hid hb1; clear hb1
  obtain ⟨p0, p1, pf⟩ := two q1
  have Q1 := Lib.hid q1; have Q3 := Lib.hid q3; clear q1 q3
  have hc := places70 (Hv1.out.fr Q3.out (by simp)) (H2.out.fr Q3.out (by simp)) (by have := Hl.out; omega) (by have := Hl2.out; omega)
  have Hc := Lib.hid hc; clear hc
  go_wp2_with fail
  refine Hc.out.mono ?_
  rintro e w1 ⟨vp, rfl, hop⟩
  obtain ⟨pa, pc, rfl⟩ := hop.shape
  have hpw : (pcells t.vars want).length = want.length := by simp
  rw [hpw] at hop ⊢
  have q1 := hop.fr.heap Q1.out (by simp)
  have q3 := Q3.out.trans hop.fr (by simp)
  have hps := hop.sl
  rw [hpw, plc_cells Hin.out] at hps
  clear p0 p1 pf Hc Q1 Q3 hop hpw
  have Q1 := Lib.hid q1; have Q3 := Lib.hid q3; have Hps := Lib.hid hps; clear q1 q3 hps
  go_upto_region 3 with (fail)
  have hg0 := GG.made w1 (kyOf t.vars want)
  generalize hW2 : World.alloc w1 _ = W2 at *
  have q1 : W2.heap[b1]? = some (.cells #[.slice a1 t.vars.length c1, .slice a3 t.rows.length c3] 25 (0, 0)) := by rw [← hW2]; exact heap_alloc_some Q1.out _
  clear hW2 Q1 hmm
  obtain ⟨p0, p1, pf⟩ := two q1
  have hlb := lt_of_heap q1
  generalize w1.heap.size = mb at *
  have HG0 := Lib.hid hg0; clear hg0 q1
  go_wp2
  clear p0 p1 pf hlb
  go_loopw [18] (fun i wr => ∃ j : Nat, i = .int .i64 j ∧ j ≤ t.rows.length ∧ Hid (GG w1 wr mb (ps.take j) (kyOf t.vars want))) (fun i _ => (t.rows.length - intOf i).toNat)
  case atStart => exact ⟨0, rfl, Nat.zero_le _, HG0⟩
  case round =>
    obtain ⟨j, rfl, hj, HG⟩ := hrel
    by_cases hlt : j < t.rows.length
    · obtain ⟨p, hp⟩ : ∃ p, ps[j]? = some p := ⟨ps[j]'(by have := Hpl.out; omega), List.getElem?_eq_getElem _⟩
      have hpm := List.mem_of_getElem? hp
      have hr : t.rows[j]? = some p.2 := by rw [← Hp2.out, List.getElem?_map, hp]; rfl
      have hh : hs1[j]? = some p.1 := by rw [← Hp1.out, List.getElem?_map, hp]; rfl
      have hrm := List.mem_of_getElem? hr
      have hrl := Hw.out _ hrm
      have hfr := Q3.out.trans HG.out.fr (by simp)
      have hrow := (Hpr.out p hpm).fr hfr (by simp)
      obtain ⟨ax, mx, hpv, _, _⟩ := hrow.rd.shape
      have hall := (Hr1.out.still hfr).rd
      obtain ⟨g, off, c, hv, _, _, hg, kcs⟩ := hall.form (by rw [Hr1.out.len]; omega)
      have kx := kcs j (by rw [Hr1.out.len]; omega)
      clear kcs
      rw [hh] at kx
      have hv' := hv
      rw [Hr1.out.len] at hv'
      cases hv'
      obtain ⟨pv, pr⟩ := p
      simp only at hpv hrow kx hrl
      subst hpv
      have hjI : (j : Int) < (t.rows.length : Int) := by omega
      have hw1 : IntKind.i64.wrap ((j : Int) + 1) = (j : Int) + 1 := IntWalk.i64_in _ (by have := Hm.out; omega)
      have hkey := key71 (plc t.vars want) hrow (v2 := .slice pa want.length pc) (by rw [plc_len]; exact Hps.out.fr HG.out.fr (by simp)) (fun q hq => by rw [hrl]; exact plc_lt Hin.out q hq) (by rw [plc_len]; exact Hl2.out) (by rw [hrl]; exact Hl.out) (Hs.out _ hrm)
      have hks := kyOf_size (Hs.out _ hrm) hrl Hin.out Hl2.out
      have hsn : ps.take (j + 1) = ps.take j ++ [(.slice ax pr.length mx, pr)] := by
        rw [List.take_succ_eq_append_getElem (List.getElem?_eq_some_iff.1 hp).1, (List.getElem?_eq_some_iff.1 hp).2]
      have htl : (ps.take j).length = j := by simp; have := Hpl.out; omega
      have Hkey := Lib.hid hkey; have Hks := Lib.hid hks; have Hsn := Lib.hid hsn; have Htl := Lib.hid htl
      clear hkey hks hsn htl hall hrow hfr hv hh hr hrm hpm hp hrl
      change Hid (Calls Tryz.prog 71 _ _ fun e w' => e = .returned (.string (kyOf t.vars want pr)) ∧ _) at Hkey
      generalize hky : kyOf t.vars want pr = key at *
      have Hky := Lib.hid hky; clear hky
      go_wp2_with fail
      refine Hkey.out.mono ?_
      rintro e w2 ⟨rfl, hf2⟩
      have hgg := HG.out.still hf2
      obtain ⟨n, f, hn, hgm, hsl, hbl, hdj⟩ := hgg.ex
      have hlk := hgm.look (x := key) (by have := Hks.out; unfold maxLen; omega)
      have hsk := hsl key
      obtain ⟨va, vc, hva, _, _⟩ := hsk.shape
      have hglen : (grp (kyOf t.vars want) (ps.take j) key).length ≤ j := by
        have := List.length_filter_le (fun p : HR => decide (kyOf t.vars want p.2 = key)) (ps.take j)
        rw [Htl.out] at this
        exact this
      rw [hva] at hlk hsk
      generalize hgl : (grp (kyOf t.vars want) (ps.take j) key).length = gl at *
      have Hgl := Lib.hid hgl; have Hgg := Lib.hid hgg; have Hgm := Lib.hid hgm; have Hsl := Lib.hid hsl; have Hbl := Lib.hid hbl; have Hdj := Lib.hid hdj; have Hsk := Lib.hid hsk; have Hva := Lib.hid hva; have Hn := Lib.hid hn
      clear hgl hgg hgm hsl hbl hdj hsk hva hn kx Hkey hf2
      obtain ⟨ih, hih, hh0, hh1, hh2⟩ := info_parts infoH
      have hroom : j < 5864062014634 := by have := Hm.out; omega
      go_wp2_with (at_builtin; refine wpList_append_one _ rfl (.tmp 29) (.tmp 31) 23 rfl 32 ih (.slice none 0 0) 1 24 Tryz.underlying23 hih hh0 hh1 hh2 rfl (.slice va gl vc) gl _ rfl (Hsk.out.alloc _) w2.heap.size 1 [.slice ax pr.length mx] 32 rfl (heap_alloc_at _ _ _ rfl) rfl rfl ⟨by omega, by omega⟩ ?_)
      intro g3 off3 c3 w5 hsl3 hfr3 hat hlt3
      have hgm5 := (Hgm.out.fr ((World.Fr.refl w2 []).alloc (.cells #[.slice ax pr.length mx] 32)) (by simp)).fr hfr3 (by rw [← Hva.out]; exact map_cells (Hsl.out key) Hgm.out)
      have Hsl3 := Lib.hid hsl3; have Hfr3 := Lib.hid hfr3; have Hat := Lib.hid hat; have Hgm5 := Lib.hid hgm5
      clear hsl3 hfr3 hat hlt3 hgm5 hlk
      have hn2 : n < maxLen := by have := Hn.out; rw [Htl.out] at this; unfold maxLen; omega
      go_wp2_with (at_mapUpdate; refine wpList_update_gm _ rfl (.tmp 25) (.tmp 26) (.tmp 32) rfl mb n f rfl Hgm5.out hn2 key (by have := Hks.out; unfold maxLen; omega) (.slice (some ⟨g3, off3, none⟩) (gl + 1) c3) rfl rfl ?_)
      intro w6 hgm6 hf6
      have hpush := GG.push (p := (.slice ax pr.length mx, pr)) (o := .cells #[.slice ax pr.length mx] 32) Hgg.out.fr Hgg.out.new Hn.out Hgm.out Hsl.out Hbl.out Hdj.out Hky.out Hgl.out Hsl3.out (by rw [Hva.out]; exact Hfr3.out) (by rw [Hva.out]; simpa using Hat.out) hgm6 hf6
      rw [← Hsn.out] at hpush
      have Hpush := Lib.hid hpush
      clear hpush hgm6 hf6 hn2
      go_wp2
      go_roundw
      case rel => exact ⟨j + 1, by go_num, by omega, Hpush⟩
      case measure => simp [intOf]; omega
    · have hd : decide ((j : Int) < (t.rows.length : Int)) = false := decide_eq_false (by omega)
      have hd2 : decide (j < t.rows.length) = false := decide_eq_false hlt
      obtain rfl : j = t.rows.length := by omega
      rw [List.take_of_length_le (by rw [Hpl.out]; exact Nat.le_refl _)] at HG
      have hfr := Q3.out.trans HG.out.fr (by simp)
      obtain ⟨n, f, h1, h2, h3, h4, h5⟩ := HG.out.ex
      have hz := Q3.out.size
      have hfin : GG w wr mb ps (kyOf t.vars want) := ⟨⟨n, f, h1, h2, h3, fun key k hk => Nat.le_trans hz (h4 key k hk), h5⟩, hfr, Nat.le_trans hz HG.out.new⟩
      have Hfin := Lib.hid hfin
      clear hfin h1 h2 h3 h4 h5 hfr hz hlt hj
      go_wp2
      go_ret
      exact ⟨mb, ps, rfl, Hfin.out, Hp2.out, Hpr.out⟩
end Go.Proofs.YtikodapgceokhaaGreat
