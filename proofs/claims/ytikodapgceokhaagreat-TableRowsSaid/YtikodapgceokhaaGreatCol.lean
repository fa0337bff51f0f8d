/-
  The walks of slices.Index, Contains of numbers, table.columns. The walk of table.columns. The walk of table.Project.
-/
import Derived.Test.YtikodapgceokhaaGreatMad
namespace Go.Proofs.YtikodapgceokhaaGreat
open Go.RowKit

/-- the place of a number; -1: there is none -/
def idxI (l : List Int) (x : Int) : Int := match l with | [] => -1 | a :: t => if x = a then 0 else (if idxI t x < 0 then -1 else idxI t x + 1)
theorem idxI_neg {l : List Int} {x : Int} (h : x ∉ l) : idxI l x = -1 := by
  induction l with
  | nil => rfl
  | cons a t ih =>
    simp only [List.mem_cons, not_or] at h
    unfold idxI
    rw [if_neg h.1, ih h.2]; rfl
theorem idxI_at {l : List Int} {x : Int} : ∀ (j : Nat), l[j]? = some x → (∀ (i : Nat) (a : Int), i < j → l[i]? = some a → x ≠ a) → idxI l x = j := by
  induction l with
  | nil => intro j h; simp at h
  | cons a t ih =>
    intro j hj h
    cases j with
    | zero => simp at hj; subst hj; simp [idxI]
    | succ j =>
      have h1 := h 0 a (by omega) rfl
      have h2 := ih j (by simpa using hj) (fun i b hi hb => h (i + 1) b (by omega) (by simpa using hb))
      unfold idxI
      rw [if_neg h1, h2, if_neg (by omega)]
      omega
theorem idxI_mem {l : List Int} {x : Int} : 0 ≤ idxI l x ↔ x ∈ l := by
  constructor
  · intro h
    by_cases hm : x ∈ l
    · exact hm
    · rw [idxI_neg hm] at h; omega
  · intro h
    induction l with
    | nil => cases h
    | cons a t ih =>
      unfold idxI
      split
      · omega
      · rename_i hne
        rcases List.mem_cons.1 h with rfl | h
        · exact absurd rfl hne
        · have := ih h
          rw [if_neg (by omega)]; omega
abbrev icells (l : List Int) : List Value := l.map (Value.int .i64)
set_option maxRecDepth 100000 in
set_option maxHeartbeats 1000000 in
theorem index107 {w : World} {v : Value} {l : List Int} (x : Int) (h : w.Sl 3 1 v l.length (icells l)) (hl : l.length ≤ 8000000000000000000) :
    Calls Tryz.prog 107 #[v, .int .i64 x] w fun e w' => e = .returned (.int .i64 (idxI l x)) ∧ w = w' := by
  obtain ⟨a1, c1, rfl, _, _⟩ := h.shape
  have H := Lib.hid h; have Hl := Lib.hid hl; clear h hl
  generalize hR : idxI l x = R
  have HR := Lib.hid hR; clear hR
  go_enter Tryz.func107, Tryz.ntmps107
  go_wp2
  go_loopw [8] (fun i wr => ∃ j : Nat, i = .int .i64 j ∧ j ≤ l.length ∧ Hid (∀ (i : Nat) (a : Int), i < j → l[i]? = some a → x ≠ a) ∧ wr = w) (fun i _ => (l.length - intOf i).toNat)
  case atStart => exact ⟨0, rfl, Nat.zero_le _, Lib.hid (fun i a hi => by omega), rfl⟩
  case round =>
    obtain ⟨j, rfl, hj, HA, rfl⟩ := hrel
    by_cases hlt : j < l.length
    · obtain ⟨y, hy⟩ : ∃ y, l[j]? = some y := ⟨l[j], List.getElem?_eq_getElem (by omega)⟩
      obtain ⟨g, off, c, hv, _, _, hg, hcs, hfz⟩ := H.out.form (by omega)
      clear hcs hfz
      cases hv
      have kx := H.out.cells rfl j (by omega)
      rw [List.getElem?_map, hy] at kx
      simp only [Option.map_some] at kx
      have hrI : (j : Int) < (l.length : Int) := by omega
      have hw1 : IntKind.i64.wrap ((j : Int) + 1) = (j : Int) + 1 := IntWalk.i64_in _ (by have := Hl.out; omega)
      have Hy := Lib.hid hy; clear hy
      by_cases hxy : x = y
      · have hres : R = (j : Int) := by rw [← HR.out]; exact idxI_at j (by rw [Hy.out, hxy]) HA.out
        subst hres
        have hb : (x == y) = true := by simp [hxy]
        clear hxy
        go_wp2
        go_ret
        exact ⟨rfl, rfl⟩
      · have hb : (x == y) = false := beq_eq_false_iff_ne.2 hxy
        have Hxy := Lib.hid hxy; clear hxy
        go_wp2
        go_roundw
        case rel => exact ⟨j + 1, by go_num, by omega, Lib.hid (fun k a hk ha => by
          rcases Nat.lt_or_ge k j with h | h
          · exact HA.out k a h ha
          · obtain rfl : k = j := by omega
            rw [Hy.out] at ha
            cases ha; exact Hxy.out), trivial⟩
        case measure => simp [intOf]; omega
    · have hres : R = -1 := by
        rw [← HR.out]
        exact idxI_neg (fun hm => by
          obtain ⟨i, hi⟩ := List.getElem?_of_mem hm
          exact HA.out i x (by have := (List.getElem?_eq_some_iff.1 hi).1; omega) hi rfl)
      have hd : decide ((j : Int) < (l.length : Int)) = false := decide_eq_false (by omega)
      have hd2 : decide (j < l.length) = false := decide_eq_false hlt
      subst hres
      clear HA hlt hj HR
      go_wp2
      go_ret
      exact ⟨rfl, rfl⟩
def hasI (l : List Int) (x : Int) : Bool := decide (0 ≤ idxI l x)
theorem hasI_iff {l : List Int} {x : Int} : hasI l x = true ↔ x ∈ l := by unfold hasI; rw [decide_eq_true_iff]; exact idxI_mem
theorem contains79 {w : World} {v : Value} {l : List Int} (x : Int) (h : w.Sl 3 1 v l.length (icells l)) (hl : l.length ≤ 8000000000000000000) :
    Calls Tryz.prog 79 #[v, .int .i64 x] w fun e w' => e = .returned (.bool (hasI l x)) ∧ w = w' := by
  have hc := index107 x h hl
  obtain ⟨a1, c1, rfl, _, _⟩ := h.shape
  have hres : decide (0 ≤ idxI l x) = hasI l x := rfl
  have Hc := Lib.hid hc; have Hres := Lib.hid hres; clear hc h hl hres
  generalize idxI l x = i at *
  go_enter Tryz.func79, Tryz.ntmps79
  go_wp2_with fail
  refine Hc.out.mono ?_
  rintro e w2 ⟨rfl, rfl⟩
  go_wp2
  go_ret
  rw [← Hres.out]
  exact ⟨rfl, rfl⟩

/-- rows gathered since W: the headers lie in a slice of the call's own, apart from the rows -/
structure RowsR (W w : World) (vb : Value) (hs : List Value) (rows : List Row) : Prop where
  sl : w.Sl 32 1 vb hs.length hs
  len : hs.length = rows.length
  new : ∀ k, k ∈ vb.blk → W.heap.size ≤ k
  row : ∀ (i : Nat) (hv : Value) (r : Row), hs[i]? = some hv → rows[i]? = some r → RdRow w hv r ∧ ∀ k, k ∈ hv.rblk → k ∉ vb.blk
  fr : W.Fr w []
theorem RowsR.nil (w : World) : RowsR w w (.slice none 0 0) [] [] := ⟨World.Sl.nil _ _ _, rfl, by simp [Value.blk], by simp, World.Fr.refl _ _⟩
theorem RowsR.still {W w w1 : World} {vb : Value} {hs : List Value} {rows : List Row} (h : RowsR W w vb hs rows) (hf : w.Fr w1 []) : RowsR W w1 vb hs rows :=
  ⟨h.sl.fr hf (by simp), h.len, h.new, fun i hv r a b => ⟨(h.row i hv r a b).1.fr hf (by simp), (h.row i hv r a b).2⟩, h.fr.trans hf (by simp)⟩
theorem RowsR.push {W w w1 w2 : World} {vb v : Value} {g off c : Nat} {hs : List Value} {rows : List Row} {r : Row} (h : RowsR W w vb hs rows) (hf0 : w.Fr w1 []) (hr : RdRow w1 v r) (hoff : ∀ k, k ∈ v.rblk → k ∉ vb.blk)
    (hs2 : w2.Sl 32 1 (.slice (some ⟨g, off, none⟩) (hs.length + 1) c) (hs.length + 1) (hs ++ [v])) (hf : w1.Fr w2 vb.blk) (hg : g ∈ vb.blk ∨ w1.heap.size ≤ g) :
    RowsR W w2 (.slice (some ⟨g, off, none⟩) (hs.length + 1) c) (hs ++ [v]) (rows ++ [r]) := by
  have key : ∀ (hv : Value) (x : Row), RdRow w1 hv x → (∀ k, k ∈ hv.rblk → k ∉ vb.blk) → RdRow w2 hv x ∧ ∀ k, k ∈ hv.rblk → k ∉ (Value.slice (some ⟨g, off, none⟩) (hs.length + 1) c).blk := fun hv x h1 h2 => by
    refine ⟨h1.fr hf h2, fun k hk hk2 => ?_⟩
    simp [Value.blk] at hk2
    subst hk2
    rcases hg with h3 | h3
    · exact h2 k hk h3
    · have := h1.rd.lt k hk; omega
  refine ⟨by simpa using hs2, by simp [h.len], fun k hk => ?_, fun i hv x h1 h2 => ?_, (h.fr.trans hf0 (by simp)).trans hf (fun k hk => .inr (h.new k hk))⟩
  · simp [Value.blk] at hk
    subst hk
    rcases hg with h1 | h1
    · exact h.new _ h1
    · have := h.fr.size; have := hf0.size; omega
  · rcases Nat.lt_or_ge i hs.length with hi | hi
    · rw [List.getElem?_append_left hi] at h1
      rw [List.getElem?_append_left (by rw [← h.len]; exact hi)] at h2
      obtain ⟨b1, b2⟩ := h.row i hv x h1 h2
      exact key hv x (b1.fr hf0 (by simp)) b2
    · rw [List.getElem?_append_right hi] at h1
      rw [List.getElem?_append_right (by rw [← h.len]; exact hi)] at h2
      have hi0 : i - hs.length = 0 := by
        have := (List.getElem?_eq_some_iff.1 h1).1
        simp at this; omega
      rw [hi0] at h1
      rw [← h.len, hi0] at h2
      simp at h1 h2
      subst h1 h2
      exact key _ _ hr hoff
theorem RowsR.rd {W w : World} {vb : Value} {hs : List Value} {rows : List Row} (h : RowsR W w vb hs rows) : RdRows w vb rows hs := ⟨h.sl.rd, h.len, fun i hv r a b => (h.row i hv r a b).1⟩
theorem OwnRow.rd {w w' : World} {v : Value} {r : Row} (h : OwnRow w w' v r) (hw : ∀ x, x ∈ r → x.wf) : RdRow w' v r := ⟨h.sl.rd, hw⟩
theorem run_make60 (n : Nat) (hn : n ≤ 3518437208780) (W : World) : (Instr.makeSlice 32 (.int .i64 0) (.int .i64 (n : Int))).run Tryz.prog W = .ok (.slice (some ⟨W.heap.size, 0, none⟩) 0 n) (W.alloc (.cells (madeCells #[.int .i64 0, .int .i64 0, .int .i64 0, .string .empty] (n * 4)) 60)) := by
  obtain ⟨iv, hiv, hv0, hv1, hv2⟩ := info_parts infoV
  have := run_make (P := Tryz.prog) W 32 60 iv (.agg #[.int .i64 0, .int .i64 0, .int .i64 0, .string .empty]) Tryz.underlying32 hiv hv0 .i64 .i64 0 (n : Int) (by omega) (by omega) (by rw [hv2]; omega) (by omega)
  simp only [Int.toNat_natCast, hv1] at this
  exact this
theorem ownRow_make (n : Nat) (hn : n ≤ 3518437208780) (W : World) : OwnRow W (W.alloc (.cells (madeCells #[.int .i64 0, .int .i64 0, .int .i64 0, .string .empty] (n * 4)) 60)) (.slice (some ⟨W.heap.size, 0, none⟩) 0 n) [] :=
  ⟨⟨rfl, .inr ⟨_, 0, n, _, rfl, heap_alloc_new _ _, Nat.zero_le _, by unfold maxLen; omega, by simp [size_madeCells], rfl⟩⟩, by simp [Value.blk], (World.Fr.refl _ _).alloc _⟩
/-- places, as numbers -/
theorem pcells_icells (l want : List BA) : pcells l want = icells (want.map (idx l)) := by simp [pcells, icells]
end Go.Proofs.YtikodapgceokhaaGreat
namespace Go.Proofs.YtikodapgceokhaaGreat
open Go.RowKit

set_option maxRecDepth 100000 in
set_option maxHeartbeats 4000000 in
theorem columns83 {okc : V → Prop} {cf : V → V → Int} (hK : Ctx okc cf) {w : World} {v1 v2 : Value} {t : Tb} {want : List BA} (h1 : RdTab w v1 t) (h2 : RdStr w v2 want) (hl : t.vars.length ≤ 8) (hl2 : want.length ≤ 8) (hm : t.rows.length ≤ 5864062014634) (hw : ∀ r, r ∈ t.rows → r.length = t.vars.length) (hok : ∀ r, r ∈ t.rows → ∀ x, x ∈ r → okc x ∧ vcheck x = 0) (hu : want.Nodup) (hin : ∀ x, x ∈ want → x ∈ t.vars) :
    Calls Tryz.prog 83 #[v1, v2] w fun e w' => ∃ v, e = .returned v ∧ OwnTab w w' v (madeT cf want (t.rows.map fun r => pick t.vars r want)) := by
  obtain ⟨x1, y1, hs1, rfl, hv1, hr1⟩ := h1.ex
  obtain ⟨a1, c1, rfl, _, _⟩ := hv1.rd.shape
  obtain ⟨a2, c2, rfl, _, _⟩ := h2.rd.shape
  obtain ⟨a3, c3, rfl, _, _⟩ := hr1.rd.shape
  have hlen := hr1.len
  rw [hlen] at hr1 ⊢
  clear hlen h1
  have hmk := fun W => run_make60 want.length (by omega) W
  have Hv1 := Lib.hid hv1; have H2 := Lib.hid h2; have Hr1 := Lib.hid hr1; have Hl := Lib.hid hl; have Hl2 := Lib.hid hl2; have Hm := Lib.hid hm; have Hw := Lib.hid hw; have HK := Lib.hid hK; have Hok := Lib.hid hok; have Hu := Lib.hid hu; have Hin := Lib.hid hin; have Hmk := Lib.hid hmk; clear h2 hv1 hr1 hl hl2 hm hw hK hok hu hin hmk
  go_enter Tryz.func83, Tryz.ntmps83
  go_upto_region 1 with (fail)
  generalize hW : World.alloc (World.alloc w _) _ = W
  have q1 : W.heap[w.heap.size]? = some (.cells #[.slice a1 t.vars.length c1, .slice a3 t.rows.length c3] 25 (0, 0)) := by rw [← hW]; exact heap_alloc_some (heap_alloc_at _ _ _ rfl) _
  have q2 : W.heap[w.heap.size + 1]? = some (.cells #[.slice none 0 0, .slice none 0 0] 25 (0, 0)) := by rw [← hW]; exact heap_alloc_at _ _ _ (by simp)
  have q3 : w.Fr W [] := by rw [← hW]; exact ((World.Fr.refl w []).alloc _).alloc _
  clear hW
  generalize hb1 : w.heap.size = b1 at *
  have Hb1 := Lib.hid hb1; clear hb1
  obtain ⟨p0, p1, pf⟩ := two q1
  have Q1 := Lib.hid q1; have Q2 := Lib.hid q2; have Q3 := Lib.hid q3; clear q1 q2 q3
  have hc := places70 (Hv1.out.fr Q3.out (by simp)) (H2.out.fr Q3.out (by simp)) (by have := Hl.out; omega) (by have := Hl2.out; omega)
  have Hc := Lib.hid hc; clear hc
  go_wp2_with fail
  refine Hc.out.mono ?_
  rintro e w1 ⟨vp, rfl, hop⟩
  obtain ⟨pa, pc, rfl⟩ := hop.shape
  have hpl : (pcells t.vars want).length = want.length := by simp
  rw [hpl] at hop ⊢
  have q1 := hop.fr.heap Q1.out (by simp)
  have q2 := hop.fr.heap Q2.out (by simp)
  have q3 := Q3.out.trans hop.fr (by simp)
  have hps := hop.sl
  rw [hpl] at hps
  clear p0 p1 pf Hc Q1 Q2 Q3 hop hpl
  obtain ⟨p0, p1, pf⟩ := two q1
  have hlb := lt_of_heap q1
  have Q1 := Lib.hid q1; have Q2 := Lib.hid q2; have Q3 := Lib.hid q3; have Hps := Lib.hid hps; clear q1 q2 q3 hps
  have HR0 : Hid (RowsR w1 w1 (.slice none 0 0) [] []) := Lib.hid (RowsR.nil w1)
  go_wp2
  clear p0 p1 pf
  go_loopw [19, 6] (fun i vb wr => ∃ (j : Nat) (hsn : List Value), i = .int .i64 j ∧ j ≤ t.rows.length ∧ Hid (RowsR w1 wr vb hsn ((t.rows.take j).map fun r => pick t.vars r want))) (fun i _ _ => (t.rows.length - intOf i).toNat)
  case atStart => exact ⟨0, [], rfl, Nat.zero_le _, HR0⟩
  case round =>
    obtain ⟨j, hsn, rfl, hj, HR⟩ := hrel
    obtain ⟨xa, xc, hxv, _, _⟩ := HR.out.sl.shape
    subst hxv
    by_cases hlt : j < t.rows.length
    · obtain ⟨r, hr⟩ : ∃ r, t.rows[j]? = some r := ⟨t.rows[j], List.getElem?_eq_getElem hlt⟩
      have hrm := List.mem_of_getElem? hr
      have hrl := Hw.out r hrm
      have hfr := Q3.out.trans HR.out.fr (by simp)
      obtain ⟨g, off, c, ax, mx, hv, hg, kx, hrow⟩ := (Hr1.out.still hfr).at hr
      cases hv
      have hjI : (j : Int) < (t.rows.length : Int) := by omega
      have hw1 : IntKind.i64.wrap ((j : Int) + 1) = (j : Int) + 1 := IntWalk.i64_in _ (by have := Hm.out; omega)
      have hmk := Hmk.out
      have Hr := Lib.hid hr; have Hrm := Lib.hid hrm; have Hrl := Lib.hid hrl; have Hrow := Lib.hid hrow; have Hfr := Lib.hid hfr
      clear hr hrm hrl hrow hfr
      go_upto_region 7 with (fail)
      have HO0 := Lib.hid (ownRow_make want.length (by have := Hl2.out; omega) wr)
      generalize hW5 : World.alloc wr _ = W5 at *
      clear hW5 hmk kx
      go_wp2
      obtain ⟨wQ, rfl⟩ : ∃ wQ : World, wQ = wr := ⟨_, rfl⟩
      go_loopw [28, 9] (fun i v wr => ∃ (k : Nat), i = .int .i64 k ∧ k ≤ want.length ∧ Hid (OwnRow wQ wr v (pick t.vars r (want.take k)))) (fun i _ _ => (want.length - intOf i).toNat)
      case atStart => exact ⟨0, rfl, Nat.zero_le _, HO0⟩
      case round =>
        obtain ⟨k, rfl, hk, HO⟩ := hrel
        have hkl : (pick t.vars r (want.take k)).length = k := by rw [pick_len]; simp; omega
        obtain ⟨ya, yc, hyv, _, _⟩ := HO.out.sl.shape
        subst hyv
        have hO := HO.out
        rw [hkl] at hO ⊢
        have hfo := HR.out.fr.trans hO.fr (by simp)
        by_cases hkt : k < want.length
        · obtain ⟨x, hx⟩ : ∃ x, want[k]? = some x := ⟨want[k], List.getElem?_eq_getElem hkt⟩
          have hkI : (k : Int) < (want.length : Int) := by omega
          have hw2 : IntKind.i64.wrap ((k : Int) + 1) = (k : Int) + 1 := IntWalk.i64_in _ (by have := Hl2.out; omega)
          obtain ⟨p, hp⟩ : ∃ p : Nat, idx t.vars x = p := ⟨(idx t.vars x).toNat, by have := idx_mem.2 (Hin.out x (List.mem_of_getElem? hx)); omega⟩
          have hpr := idx_range t.vars x
          rw [hp] at hpr
          have hpI : (p : Int) < (t.vars.length : Int) := hpr.2
          have hsn : pick t.vars r (want.take (k + 1)) = pick t.vars r (want.take k) ++ [r.getD p default] := by
            rw [List.take_succ_eq_append_getElem hkt, (List.getElem?_eq_some_iff.1 hx).2]
            simp [pick, hp]
          have hry : r[p]? = some (r.getD p default) := by
            have : p < r.length := by have := Hrl.out; omega
            rw [List.getD_eq_getElem?_getD, List.getElem?_eq_getElem this]; rfl
          have hrow3 := Hrow.out.fr hO.fr (by simp)
          obtain ⟨g2, off2, c2', hv2, hg2, ky0, ky1, ky2, ky3⟩ := hrow3.at hry
          rw [Hrl.out] at hv2
          have ko := (Hps.out.fr hfo (by simp))
          obtain ⟨g4, off4, c4, hv4, _, _, hg4, kcs, _⟩ := ko.form (by omega)
          cases hv4
          have ko := kcs k (by omega)
          clear kcs
          rw [List.getElem?_map, hx] at ko
          simp only [Option.map_some, hp] at ko
          have Hsn := Lib.hid hsn; have Hkl := Lib.hid hkl; have HO2 := Lib.hid hO
          clear hsn hkl hO HO hry hrow3 hx hp hpr hfo
          generalize r.getD p default = y at *
          generalize pick t.vars r (want.take k) = ys at *
          have hrlI : (p : Int) < (r.length : Int) := by rw [Hrl.out]; exact hpI
          have hroom : k < 9 := by have := Hl2.out; omega
          have hsly := HO2.out.sl
          rw [Hkl.out] at hsly
          have hgl : g2 < wr.heap.size + 1 := by omega
          have Hsly := Lib.hid hsly; clear hsly
          rw [← Hrl.out] at hv2
          cases hv2
          obtain ⟨iv, hiv, hv0, hv1, hv2⟩ := info_parts infoV
          go_wp2_with (at_builtin; refine wpList_append_one _ rfl (.tmp 32) (.tmp 37) 32 rfl 60 iv (.agg #[.int .i64 0, .int .i64 0, .int .i64 0, .string .empty]) 4 40 Tryz.underlying32 hiv hv0 hv1 hv2 rfl (.slice ya k yc) k (ys.flatMap V.enc) rfl (Hsly.out.alloc _) wr.heap.size 1 (V.enc y) 60 rfl (heap_alloc_at _ _ _ rfl) rfl rfl ⟨by omega, by omega⟩ ?_)
          intro g3 off3 c3 w5 hsl hfr3 hat hlt3
          have hown := (HO2.out.still ((World.Fr.refl wr []).alloc (.cells (V.enc y).toArray 60))).appended (y := y) (g := g3) (off := off3) (c := c3) (by rw [Hkl.out]; exact hsl) hfr3 (by simpa using hat)
          rw [Hkl.out, ← Hsn.out] at hown
          have Hown := Lib.hid hown; clear hown hsl hfr3 hat ky0 ky1 ky2 ky3 ko hlt3
          go_wp2
          go_roundw
          case rel => exact ⟨k + 1, by go_num, by omega, Hown⟩
          case measure => simp [intOf]; omega
        · have hd : decide ((k : Int) < (want.length : Int)) = false := decide_eq_false (by omega)
          have hd2 : decide (k < want.length) = false := decide_eq_false hkt
          obtain rfl : k = want.length := by omega
          rw [List.take_of_length_le (Nat.le_refl _)] at hO hkl
          have HRn := Lib.hid hO
          clear hO HO hkt hk
          have hxs := HR.out.still HRn.out.fr
          have hjh : hsn.length = j := by have := HR.out.len; rw [this]; simp; omega
          have hoff := fun k hk => apart HRn.out.sl hxs.sl (by decide) k (Value.rblk_sub hk)
          have hsl0 := hxs.sl
          rw [hjh] at hsl0
          have Hxs := Lib.hid hxs; have Hjh := Lib.hid hjh; have Hoff := Lib.hid hoff; have Hsl0 := Lib.hid hsl0; have Hkl := Lib.hid hkl; clear hxs hjh hoff hsl0 hfo hkl
          have hroom : j < 5864062014634 := by have := Hm.out; omega
          obtain ⟨ih, hih, hh0, hh1, hh2⟩ := info_parts infoH
          rw [Hjh.out]
          go_wp2_with (at_builtin; refine wpList_append_one _ rfl (.tmp 40) (.tmp 42) 23 rfl 32 ih (.slice none 0 0) 1 24 Tryz.underlying23 hih hh0 hh1 hh2 rfl (.slice xa j xc) j hsn rfl (Hsl0.out.alloc _) wr.heap.size 1 [.slice ya want.length yc] 32 rfl (heap_alloc_at _ _ _ rfl) rfl rfl ⟨by omega, by omega⟩ ?_)
          intro g3 off3 c3 w5 hsl hfr3 hat hlt3
          have hf1 : wQ.Fr (wr.alloc (.cells #[.slice ya want.length yc] 32)) [] := HRn.out.fr.alloc _
          have hrd : RdRow (wr.alloc (.cells #[.slice ya want.length yc] 32)) (.slice ya want.length yc) (pick t.vars r want) :=
            (HRn.out.rd (fun x hx => Hrow.out.wf x (pick_mem Hin.out Hrl.out hx))).fr ((World.Fr.refl wr []).alloc _) (by simp)
          have hpush := HR.out.push hf1 hrd Hoff.out (g := g3) (off := off3) (c := c3) (by rw [Hjh.out]; exact hsl) (by rw [Hjh.out]; exact hfr3) (by rw [Hjh.out]; rcases hat with h | h; exact .inl h; exact .inr (by simp at h ⊢; omega))
          rw [Hjh.out] at hpush
          have hsnr : (t.rows.take (j + 1)).map (fun r => pick t.vars r want) = (t.rows.take j).map (fun r => pick t.vars r want) ++ [pick t.vars r want] := by
            rw [List.take_succ_eq_append_getElem hlt, (List.getElem?_eq_some_iff.1 Hr.out).2]
            simp
          rw [← hsnr] at hpush
          have Hpush := Lib.hid hpush
          clear hpush hsnr hsl hfr3 hat hlt3 hf1 hrd
          go_wp2
          go_roundw
          case rel => exact ⟨j + 1, _, by go_num, by omega, Hpush⟩
          case measure => simp [intOf]; omega
    · have hd : decide ((j : Int) < (t.rows.length : Int)) = false := decide_eq_false (by omega)
      have hd2 : decide (j < t.rows.length) = false := decide_eq_false hlt
      obtain rfl : j = t.rows.length := by omega
      rw [List.take_of_length_le (Nat.le_refl _)] at HR
      have hfr := Q3.out.trans HR.out.fr (by simp)
      have hbx := HR.out.fr.heap Q2.out (by simp)
      have hc := made73 HK.out.cmp HK.out.ord (H2.out.fr hfr (by simp)) HR.out.rd Hl2.out (by simpa using Hm.out) (fun r hr => by
        obtain ⟨r0, _, rfl⟩ := List.mem_map.1 hr
        exact pick_len _ _ _) (fun r hr x hx => by
        obtain ⟨r0, hr0, rfl⟩ := List.mem_map.1 hr
        exact Hok.out r0 hr0 x (pick_mem Hin.out (Hw.out r0 hr0) hx)) Hu.out
      have Hc := Lib.hid hc; have Hbx := Lib.hid hbx; have Hfr := Lib.hid hfr; clear hc hbx hfr hlt hj
      go_wp2_with fail
      refine Hc.out.mono ?_
      rintro e w2 ⟨v, rfl, ho⟩
      obtain ⟨x1, y1, x2, y2, rfl⟩ := ho.shape
      have hbx := ho.fr.heap Hbx.out (by simp)
      have ho2 := (ho.since Hfr.out).put hbx (by have := Hb1.out; omega)
      obtain ⟨p0, p1, pf⟩ := two hbx
      have hbW := lt_of_heap hbx
      obtain ⟨f0, f1, _⟩ := two ho2.2
      have Hfin := Lib.hid ho2.1
      clear ho2 ho hbx
      go_wp2
      refine bodyPost_ret (v := .agg #[.slice x1 _ y1, .slice x2 _ y2]) (by simp [results, Tryz.results83, go_sem, f0, f1]) rfl ⟨_, rfl, Hfin.out⟩
end Go.Proofs.YtikodapgceokhaaGreat
namespace Go.Proofs.YtikodapgceokhaaGreat
open Go.RowKit

theorem rowsCheck_zero {cf : V → V → Int} {n : Nat} : ∀ (rs : List Row) (p : Option Row), rowsCheck cf n p rs = 0 → (∀ r, r ∈ rs → rowCheck n r = 0) ∧ (∀ q r, p = some q → rs.head? = some r → rcmp cf q r < 0) ∧ ∀ (i : Nat) (a b : Row), rs[i]? = some a → rs[i + 1]? = some b → rcmp cf a b < 0
  | [], _, _ => by simp
  | r :: rs, p, h => by
    have h0 : rowCheck n r = 0 := by
      by_cases hr : rowCheck n r = 0
      · exact hr
      · simp only [rowsCheck, hr, if_false] at h
    simp only [rowsCheck, h0, if_true] at h
    have hup : (∀ q, p = some q → rcmp cf q r < 0) ∧ rowsCheck cf n (some r) rs = 0 := by
      cases p with
      | none => simp only [Bool.false_eq_true, if_false] at h; exact ⟨by simp, h⟩
      | some q =>
        by_cases hq : 0 ≤ rcmp cf q r
        · simp [hq] at h
        · simp [hq] at h
          exact ⟨fun q' e => by cases e; omega, h⟩
    obtain ⟨a1, a2, a3⟩ := rowsCheck_zero rs (some r) hup.2
    refine ⟨fun x hx => ?_, fun q x hq hx => ?_, fun i a b ha hb => ?_⟩
    · rcases List.mem_cons.1 hx with rfl | hx
      · exact h0
      · exact a1 x hx
    · subst hq
      simp at hx
      subst hx
      exact hup.1 q rfl
    · cases i with
      | zero =>
        simp at ha
        subst ha
        exact a2 r b rfl (by rw [List.head?_eq_getElem?]; simpa using hb)
      | succ i => exact a3 i a b (by simpa using ha) (by simpa using hb)
theorem tcheck_zero {cf : V → V → Int} {t : Tb} (h : tcheck cf t = 0) : t.vars.length ≤ 8 ∧ (t.vars.Pairwise fun a b => ltS a b = true) ∧ (∀ r, r ∈ t.rows → r.length = t.vars.length ∧ ∀ x, x ∈ r → vcheck x = 0) ∧ ∀ (i : Nat) (a b : Row), t.rows[i]? = some a → t.rows[i + 1]? = some b → rcmp cf a b < 0 := by
  unfold tcheck at h
  split at h
  · cases h
  · rename_i h8
    split at h
    · rename_i hr
      obtain ⟨a1, _, a3⟩ := rowsCheck_zero _ _ h
      refine ⟨by omega, pair_of_rises _ (by unfold risesB at hr; simpa using hr), fun r hr => rowCheck_zero (a1 r hr), a3⟩
    · cases h
theorem nodup_le' {α : Type} [DecidableEq α] : ∀ (l m : List α), l.Nodup → (∀ x, x ∈ l → x ∈ m) → l.length ≤ m.length
  | [], _, _, _ => Nat.zero_le _
  | a :: t, m, hn, hs => by
    obtain ⟨h1, h2⟩ := List.nodup_cons.1 hn
    have ha := hs a (by simp)
    have ih := nodup_le' t (m.erase a) h2 (fun x hx => (List.mem_erase_of_ne (fun e => h1 (by rw [← e]; exact hx))).2 (hs x (by simp [hx])))
    have := List.length_erase_of_mem ha
    have := List.length_pos_of_mem ha
    simp only [List.length_cons]
    omega
theorem nodup_le (l m : List BA) (h1 : l.Nodup) (h2 : ∀ x, x ∈ l → x ∈ m) : l.length ≤ m.length := by classical exact nodup_le' l m h1 h2
theorem pair_all {okv : V → Prop} {cf : V → V → Int} (hO : OrdOk okv cf) : ∀ (rs : List Row), (∀ r, r ∈ rs → ∀ x, x ∈ r → okv x) → (∀ (i : Nat) (a b : Row), rs[i]? = some a → rs[i + 1]? = some b → rcmp cf a b < 0) → rs.Pairwise (rlt cf)
  | [], _, _ => List.Pairwise.nil
  | [a], _, _ => by simp
  | a :: b :: t, ho, h => by
    have ih := pair_all hO (b :: t) (fun r hr => ho r (by simp only [List.mem_cons] at hr ⊢; exact .inr hr)) (fun i x y hx hy => h (i + 1) x y (by simpa using hx) (by simpa using hy))
    have h0 := h 0 a b rfl rfl
    refine List.pairwise_cons.2 ⟨fun c hc => ?_, ih⟩
    rcases List.mem_cons.1 hc with rfl | hc
    · exact h0
    · exact rcmp_trans hO a b c (ho a (by simp)) (ho b (by simp)) (ho c (by simp [hc])) h0 ((List.pairwise_cons.1 ih).1 c hc)

abbrev tNone : Tb := ⟨[], []⟩
open Classical in
/-- what Project answers -/
noncomputable def projectT (cf : V → V → Int) (t : Tb) (want : List BA) : Int × Tb :=
  if tcheck cf t ≠ 0 then (tcheck cf t, tNone) else if ¬ want.Nodup ∨ ¬ (∀ x, x ∈ want → x ∈ t.vars) then (30, tNone) else (0, madeT cf want (t.rows.map fun r => pick t.vars r want))

theorem no_places {l want : List BA} : hasI (want.map (idx l)) (-1) = false ↔ ∀ x, x ∈ want → x ∈ l := by
  constructor
  · intro h x hx
    rw [← idx_mem]
    have h1 := idx_range l x
    by_cases h2 : idx l x = -1
    · have : (-1 : Int) ∈ want.map (idx l) := by rw [← h2]; exact List.mem_map_of_mem hx
      rw [hasI_iff.2 this] at h; cases h
    · omega
  · intro h
    cases hb : hasI (want.map (idx l)) (-1) with
    | false => rfl
    | true =>
      obtain ⟨x, hx, he⟩ := List.mem_map.1 (hasI_iff.1 hb)
      have := idx_mem.2 (h x hx)
      omega

/-- the bounds of tables and of lists of names in this work -/
structure Fits (okc : V → Prop) (t : Tb) : Prop where
  small : Small t
  rows : t.rows.length ≤ 5864062014634
  ok : TabOf okc t
open Classical in
set_option maxRecDepth 100000 in
set_option maxHeartbeats 4000000 in
theorem project35 {okc : V → Prop} {cf : V → V → Int} (hK : Ctx okc cf) {w : World} {v1 v2 : Value} {t : Tb} {want : List BA} (h1 : RdTab w v1 t) (h2 : RdStr w v2 want) (ht : Fits okc t) (hl : want.length ≤ 8796093021952) :
    Calls Tryz.prog 35 #[v1, v2] w fun e w' => ∃ v, e = .returned (.tuple #[v, .int .i64 (projectT cf t want).1]) ∧ OwnTab w w' v (projectT cf t want).2 := by
  have hchk := fun w' (hf : w.Fr w' []) => check15' hK.known (h1.still hf) ht.ok ht.small
  have hcol := fun w' (hf : w.Fr w' []) => columns83 (want := want) hK (h1.still hf) (h2.fr hf (by simp))
  obtain ⟨x1, y1, hs1, rfl, hv1, hr1⟩ := h1.ex
  obtain ⟨a1, c1, rfl, _, _⟩ := hv1.rd.shape
  obtain ⟨a2, c2, rfl, _, _⟩ := h2.rd.shape
  obtain ⟨a3, c3, rfl, _, _⟩ := hr1.rd.shape
  have hlen := hr1.len
  generalize hR : projectT cf t want = R
  rw [hlen] at hr1 hchk hcol ⊢
  clear hlen h1
  have Hv1 := Lib.hid hv1; have H2 := Lib.hid h2; have Hr1 := Lib.hid hr1; have Hl := Lib.hid hl; have Ht := Lib.hid ht; have HK := Lib.hid hK; have Hchk := Lib.hid hchk; have Hcol := Lib.hid hcol; have HR := Lib.hid hR; clear h2 hv1 hr1 hl ht hK hchk hcol hR
  go_enter Tryz.func35, Tryz.ntmps35
  go_upto_region 1 with (fail)
  generalize hW : World.alloc (World.alloc w _) _ = W
  have q1 : W.heap[w.heap.size]? = some (.cells #[.slice a1 t.vars.length c1, .slice a3 t.rows.length c3] 25 (0, 0)) := by rw [← hW]; exact heap_alloc_some (heap_alloc_at _ _ _ rfl) _
  have q2 : W.heap[w.heap.size + 1]? = some (.cells #[.slice none 0 0, .slice none 0 0] 25 (0, 0)) := by rw [← hW]; exact heap_alloc_at _ _ _ (by simp)
  have q3 : w.Fr W [] := by rw [← hW]; exact ((World.Fr.refl w []).alloc _).alloc _
  clear hW
  generalize hb1 : w.heap.size = b1 at *
  have Hb1 := Lib.hid hb1; clear hb1
  obtain ⟨p0, p1, pf⟩ := two q1
  have Q1 := Lib.hid q1; have Q2 := Lib.hid q2; have Q3 := Lib.hid q3; clear q1 q2 q3
  go_wp2_with fail
  refine (Hchk.out _ Q3.out).mono ?_
  rintro e w1 ⟨rfl, hf1⟩
  have q1 := hf1.heap Q1.out (by simp)
  have q2 := hf1.heap Q2.out (by simp)
  have q3 := Q3.out.trans hf1 (by simp)
  clear p0 p1 pf Q1 Q2 Q3 hf1
  obtain ⟨p0, p1, pf⟩ := two q1
  obtain ⟨r0, r1, rf⟩ := two q2
  have hlb := lt_of_heap q1
  have hlb2 := lt_of_heap q2
  have Q1 := Lib.hid q1; have Q2 := Lib.hid q2; have Q3 := Lib.hid q3; clear q1 q2 q3
  by_cases h0 : tcheck cf t = 0
  · rw [h0]
    have hres : R = if ¬ want.Nodup ∨ ¬ (∀ x, x ∈ want → x ∈ t.vars) then (30, tNone) else (0, madeT cf want (t.rows.map fun r => pick t.vars r want)) := by rw [← HR.out]; unfold projectT; rw [if_neg (by simp [h0])]
    obtain ⟨k1, k2, k3, k4⟩ := tcheck_zero h0
    have hun := unlike78 (H2.out.fr Q3.out (by simp)) Hl.out
    have Hun := Lib.hid hun; have HR2 := Lib.hid hres; have K1 := Lib.hid k1; have K2 := Lib.hid k2; have K3 := Lib.hid k3
    clear hun hres k1 k2 k3 k4 h0 HR
    go_wp2_with fail
    refine Hun.out.mono ?_
    rintro e w2 ⟨rfl, hf2⟩
    have q1 := hf2.heap Q1.out (by simp)
    have q2 := hf2.heap Q2.out (by simp)
    have q3 := Q3.out.trans hf2 (by simp)
    clear p0 p1 pf r0 r1 rf Q1 Q2 Q3 hf2 Hun hlb hlb2
    obtain ⟨p0, p1, pf⟩ := two q1
    obtain ⟨r0, r1, rf⟩ := two q2
    have hlb := lt_of_heap q1
    have hlb2 := lt_of_heap q2
    have Q1 := Lib.hid q1; have Q2 := Lib.hid q2; have Q3 := Lib.hid q3; clear q1 q2 q3
    cases hu : risesB (sortS want) with
    | false =>
      have hres : R = (30, tNone) := by rw [HR2.out, if_pos (.inl fun h => by rw [(unlike_iff want).2 h] at hu; cases hu)]
      subst hres
      clear HR2
      go_wp2
      have hfin := (OwnTab.empty (w := w) Q3.out).put Q2.out (by have := Hb1.out; omega)
      obtain ⟨f0, f1, _⟩ := two hfin.2
      have Hfin := Lib.hid hfin.1
      clear hfin p0 p1 pf
      refine bodyPost_ret (v := .tuple #[.agg #[.slice none 0 0, .slice none 0 0], .int .i64 30]) (by simp [results, Tryz.results35, go_sem, f0, f1]) rfl ⟨_, rfl, Hfin.out⟩
    | true =>
      have hnd := (unlike_iff want).1 hu
      have hpl := places70 (Hv1.out.fr Q3.out (by simp)) (H2.out.fr Q3.out (by simp)) (by have := K1.out; omega) (by have := Hl.out; omega)
      have Hpl := Lib.hid hpl; have Hnd := Lib.hid hnd; clear hpl hnd hu
      go_wp2_with fail
      refine Hpl.out.mono ?_
      rintro e w3 ⟨vp, rfl, hop⟩
      obtain ⟨pa, pc, rfl⟩ := hop.shape
      have hps := hop.sl
      rw [pcells_icells] at hps hop ⊢
      have hpw : (icells (want.map (idx t.vars))).length = (want.map (idx t.vars)).length := by simp
      rw [hpw] at hps ⊢
      have hct := contains79 (-1) hps (by simp; have := Hl.out; omega)
      have q1 := hop.fr.heap Q1.out (by simp)
      have q2 := hop.fr.heap Q2.out (by simp)
      have q3 := Q3.out.trans hop.fr (by simp)
      rw [List.length_map] at hct
      have Hct := Lib.hid hct
      clear p0 p1 pf r0 r1 rf Q1 Q2 Q3 hop Hpl hps hct hlb hlb2 hpw
      obtain ⟨p0, p1, pf⟩ := two q1
      obtain ⟨r0, r1, rf⟩ := two q2
      have hlb := lt_of_heap q1
      have hlb2 := lt_of_heap q2
      have Q1 := Lib.hid q1; have Q2 := Lib.hid q2; have Q3 := Lib.hid q3; clear q1 q2 q3
      go_wp2_with fail
      refine Hct.out.mono ?_
      rintro e w4 ⟨rfl, rfl⟩
      cases hh : hasI (want.map (idx t.vars)) (-1) with
      | true =>
        have hres : R = (30, tNone) := by
          rw [HR2.out, if_pos (.inr fun h => by rw [no_places.2 h] at hh; cases hh)]
        subst hres
        clear HR2 hh Hct
        go_wp2
        have hfin := (OwnTab.empty (w := w) Q3.out).put Q2.out (by have := Hb1.out; omega)
        obtain ⟨f0, f1, _⟩ := two hfin.2
        have Hfin := Lib.hid hfin.1
        clear hfin p0 p1 pf
        refine bodyPost_ret (v := .tuple #[.agg #[.slice none 0 0, .slice none 0 0], .int .i64 30]) (by simp [results, Tryz.results35, go_sem, f0, f1]) rfl ⟨_, rfl, Hfin.out⟩
      | false =>
        have hin := no_places.1 hh
        have hres : R = (0, madeT cf want (t.rows.map fun r => pick t.vars r want)) := by
          rw [HR2.out, if_neg (fun h => h.elim (fun h => h Hnd.out) (fun h => h hin))]
        subst hres
        have hwl := nodup_le want t.vars Hnd.out hin
        have hc := Hcol.out _ Q3.out K1.out (by have := K1.out; omega) Ht.out.rows (fun r hr => (K3.out r hr).1) (fun r hr x hx => ⟨Ht.out.ok r hr x hx, (K3.out r hr).2 x hx⟩) Hnd.out hin
        have Hc := Lib.hid hc
        clear HR2 hh Hct hin hc hwl
        go_wp2_with fail
        refine Hc.out.mono ?_
        rintro e w5 ⟨v, rfl, ho⟩
        obtain ⟨x1, y1, x2, y2, rfl⟩ := ho.shape
        have hbx := ho.fr.heap Q2.out (by simp)
        have ho2 := (ho.since Q3.out).put hbx (by have := Hb1.out; omega)
        clear p0 p1 pf r0 r1 rf hlb hlb2
        obtain ⟨p0, p1, pf⟩ := two hbx
        have hbW := lt_of_heap hbx
        obtain ⟨f0, f1, _⟩ := two ho2.2
        have Hfin := Lib.hid ho2.1
        clear ho2 ho hbx
        go_wp2
        refine bodyPost_ret (v := .tuple #[.agg #[.slice x1 _ y1, .slice x2 _ y2], .int .i64 0]) (by simp [results, Tryz.results35, go_sem, f0, f1]) rfl ⟨_, rfl, Hfin.out⟩
  · have hres : R = (tcheck cf t, tNone) := by rw [← HR.out]; unfold projectT; rw [if_pos h0]
    have h0b : (tcheck cf t == 0) = false := beq_eq_false_iff_ne.2 h0
    have h0c : (tcheck cf t != 0) = true := by simp [h0]
    clear h0 HR
    generalize tcheck cf t = z at *
    subst hres
    go_wp2
    have hfin := (OwnTab.empty (w := w) Q3.out).put Q2.out (by have := Hb1.out; omega)
    obtain ⟨f0, f1, _⟩ := two hfin.2
    have Hfin := Lib.hid hfin.1
    clear hfin p0 p1 pf
    refine bodyPost_ret (v := .tuple #[.agg #[.slice none 0 0, .slice none 0 0], .int .i64 z]) (by simp [results, Tryz.results35, go_sem, f0, f1]) rfl ⟨_, rfl, Hfin.out⟩
end Go.Proofs.YtikodapgceokhaaGreat
