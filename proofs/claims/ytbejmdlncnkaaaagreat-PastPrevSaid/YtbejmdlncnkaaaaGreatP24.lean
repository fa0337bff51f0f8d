/-
  The walk of the statement PastPrev.
-/
import Derived.Test.YtbejmdlncnkaaaaGreatPaE
import Derived.Test.YtbejmdlncnkaaaaGreatPaF
import Derived.Test.YtbejmdlncnkaaaaGreatRmB
import Derived.Test.YtbejmdlncnkaaaaGreatRsr
namespace Go.Proofs.YtbejmdlncnkaaaaGreat
open Go.RowKit

/-- a table that is told, or an argument's -/
def LT (w0 w : World) (v : Value) (t : Tb) : Prop := RdTab w0 v t ∨ SlTab w v t
theorem LT.fr {w0 w w' : World} {v : Value} {t : Tb} {M : List Nat} (h : LT w0 w v t) (hf : w.Fr w' M) (hM : Odd w M) : LT w0 w' v t := h.imp id (fun h => h.fr hf hM)
theorem LT.still {w0 w w' : World} {v : Value} {t : Tb} (h : LT w0 w v t) (hf : w.Fr w' []) : LT w0 w' v t := h.imp id (fun h => h.still hf)
theorem LT.rd {w0 w : World} {v : Value} {t : Tb} (h : LT w0 w v t) (hf : w0.Fr w []) : RdTab w v t := h.elim (fun h => h.still hf) (fun h => h.rd)
theorem RdTab.shp {w : World} {a b : Value} {t : Tb} (h : RdTab w (.agg #[a, b]) t) : ∃ a1 a2 a3 a4, a = .slice a1 t.vars.length a2 ∧ b = .slice a3 t.rows.length a4 := by
  obtain ⟨x, y, hs, he, h1, h2⟩ := h.ex
  cases he
  obtain ⟨a1, a2, e1, _, _⟩ := h1.rd.shape
  obtain ⟨a3, a4, e2, _, _⟩ := h2.rd.shape
  rw [h2.len] at e2
  exact ⟨a1, a2, a3, a4, e1, e2⟩
/-- between the points -/
structure PvI (cf : V → V → Int) (w0 wr : World) (p : Nat) (X : PX) (B : List Nat) (i : Iv) (R : List BA) (b3 b10 b12 : Nat) (na nb xa xb : Value) (L : Tb) : Prop where
  op : OpAt wr p X B
  ok : POkP cf X 5864062014634
  fix : X.i = i ∧ X.right = R ∧ X.fn = 59 ∧ X.parts = 1
  st : (X.time = -1 ∧ X.w = [] ∧ L = ⟨R, []⟩) ∨ (0 ≤ X.time ∧ X.w = [(X.time, L)])
  new : ∀ k, k ∈ B → w0.heap.size ≤ k
  fr : w0.Fr wr []
  box3 : wr.heap[b3]? = some (.cells #[.int .i64 i.lo, .int .i64 i.hi, .bool i.op] 23 (0, 0))
  boxN : wr.heap[b10]? = some (.cells #[na, nb] 34 (0, 0))
  nul : SlTab wr (.agg #[na, nb]) ⟨R, []⟩
  boxL : wr.heap[b12]? = some (.cells #[xa, xb] 34 (0, 0))
  last : LT w0 wr (.agg #[xa, xb]) L
  b12 : w0.heap.size ≤ b12 ∧ b10 ≠ b12 ∧ b3 ≠ b12
theorem PvI.still {cf : V → V → Int} {w0 wr w' : World} {p : Nat} {X : PX} {B : List Nat} {i : Iv} {R : List BA} {b3 b10 b12 : Nat} {na nb xa xb : Value} {L : Tb} (h : PvI cf w0 wr p X B i R b3 b10 b12 na nb xa xb L) (hf : wr.Fr w' []) : PvI cf w0 w' p X B i R b3 b10 b12 na nb xa xb L :=
  ⟨h.op.still hf, h.ok, h.fix, h.st, h.new, h.fr.trans hf (by simp), hf.heap h.box3 (by simp), hf.heap h.boxN (by simp), h.nul.still hf, hf.heap h.boxL (by simp), h.last.still hf, h.b12⟩
/-- behind a step, ahead of the law's own memory -/
theorem PvI.step {cf : V → V → Int} {w0 wr w' : World} {p : Nat} {X X' : PX} {B B' : List Nat} {i : Iv} {R : List BA} {b3 b10 b12 : Nat} {na nb xa xb : Value} {L : Tb} (h : PvI cf w0 wr p X B i R b3 b10 b12 na nb xa xb L) (hf : wr.Fr w' B) (ho : OpAt w' p X' B') (hb : ∀ k, k ∈ B' → k ∈ B ∨ wr.heap.size ≤ k) :
    OpAt w' p X' B' ∧ (∀ k, k ∈ B' → w0.heap.size ≤ k) ∧ w0.Fr w' [] ∧ w'.heap[b3]? = some (.cells #[.int .i64 i.lo, .int .i64 i.hi, .bool i.op] 23 (0, 0)) ∧ w'.heap[b10]? = some (.cells #[na, nb] 34 (0, 0)) ∧ SlTab w' (.agg #[na, nb]) ⟨R, []⟩ ∧ w'.heap[b12]? = some (.cells #[xa, xb] 34 (0, 0)) ∧ LT w0 w' (.agg #[xa, xb]) L :=
  ⟨ho, fun k hk => (hb k hk).elim (h.new k) (fun h1 => Nat.le_trans h.fr.size h1), h.fr.trans hf (fun k hk => .inr (h.new k hk)), hf.heap h.box3 (h.op.ne h.box3 (by decide) (by decide)), hf.heap h.boxN (h.op.ne h.boxN (by decide) (by decide)), h.nul.fr hf h.op.odd, hf.heap h.boxL (h.op.ne h.boxL (by decide) (by decide)), h.last.fr hf h.op.odd⟩
theorem PvI.same {cf : V → V → Int} {w0 wr w' : World} {p : Nat} {X : PX} {B B' : List Nat} {i : Iv} {R : List BA} {b3 b10 b12 : Nat} {na nb xa xb : Value} {L : Tb} (h : PvI cf w0 wr p X B i R b3 b10 b12 na nb xa xb L) (hf : wr.Fr w' B) (ho : OpAt w' p X B') (hb : ∀ k, k ∈ B' → k ∈ B ∨ wr.heap.size ≤ k) : PvI cf w0 w' p X B' i R b3 b10 b12 na nb xa xb L := by
  obtain ⟨k1, k2, k3, k4, k5, k6, k7, k8⟩ := h.step hf ho hb
  exact ⟨k1, h.ok, h.fix, h.st, k2, k3, k4, k5, k6, k7, k8, h.b12⟩
theorem PvI.few {cf : V → V → Int} {w0 wr : World} {p : Nat} {X : PX} {B : List Nat} {i : Iv} {R : List BA} {b3 b10 b12 : Nat} {na nb xa xb : Value} {L : Tb} (h : PvI cf w0 wr p X B i R b3 b10 b12 na nb xa xb L) : X.w.length ≤ 1000 := by
  rcases h.st with ⟨_, h, _⟩ | ⟨_, h⟩ <;> rw [h] <;> simp
theorem RdTabs.low {w : World} {v : Value} {ts : List Tb} (h : RdTabs w v ts) (hp : 0 < ts.length) {g off l c : Nat} (e : v = .slice (some ⟨g, off, none⟩) l c) : g < w.heap.size := by
  obtain ⟨g3, off3, c3, _, _, _, _, hv3, hg3, _⟩ := h.at (j := 0) (List.getElem?_eq_getElem hp)
  rw [hv3] at e
  cases e
  exact hg3
theorem PvI.next {cf : V → V → Int} {w0 w' : World} {p : Nat} {X' : PX} {B' : List Nat} {i : Iv} {R : List BA} {b3 b10 b12 : Nat} {na nb xa xb v0 v1 : Value} {t : Tb} (ho : OpAt w' p X' B') (hok : POkP cf X' 5864062014634) (hfix : X'.i = i ∧ X'.right = R ∧ X'.fn = 59 ∧ X'.parts = 1) (hst : 0 ≤ X'.time ∧ X'.w = [(X'.time, t)]) (hnew : ∀ k, k ∈ B' → w0.heap.size ≤ k) (hfr : w0.Fr w' []) (h3 : w'.heap[b3]? = some (.cells #[.int .i64 i.lo, .int .i64 i.hi, .bool i.op] 23 (0, 0))) (hN : w'.heap[b10]? = some (.cells #[na, nb] 34 (0, 0))) (hno : SlTab w' (.agg #[na, nb]) ⟨R, []⟩) (hL : w'.heap[b12]? = some (.cells #[xa, xb] 34 (0, 0))) (ht : RdTab w0 (.agg #[v0, v1]) t) (hb : w0.heap.size ≤ b12 ∧ b10 ≠ b12 ∧ b3 ≠ b12) :
    PvI cf w0 ((w'.setCell ⟨b12, 0, none⟩ v0).setCell ⟨b12, 1, none⟩ v1) p X' B' i R b3 b10 b12 na nb v0 v1 t := by
  have h1 := ((World.Fr.refl w' [b12]).setCell (a := ⟨b12, 0, none⟩) (.inl (by simp)) v0).setCell (a := ⟨b12, 1, none⟩) (.inl (by simp)) v1
  have hod := Odd.one hL (by decide)
  exact ⟨ho.fr h1 hod (fun k hk hm => by simp at hm; subst hm; exact ho.ne hL (by decide) (by decide) hk), hok, hfix, .inr hst, hnew, hfr.trans h1 (fun k hk => .inr (by simp at hk; subst hk; exact hb.1)), h1.heap h3 (by simpa using hb.2.2), h1.heap hN (by simpa using hb.2.1), hno.fr h1 hod, heap_set_same (heap_set_same hL 0 v0) 1 v1, .inl ht, hb⟩
theorem prevX_one {i : Iv} {n t0 : Int} {e L : Tb} : prevX i n e [(t0, L)] = if inB (n - t0) i then L else e := rfl
theorem len_one {α : Type} {l : List α} (h : (l.length : Int) = 1) : ∃ t, l = [t] := by
  match l, h with
  | [t], _ => exact ⟨t, rfl⟩
  | [], h => simp at h
  | _ :: _ :: _, h => simp at h; omega
/-- what a step of Prev that is taken tells, and leaves -/
theorem prev_taken {cf : V → V → Int} {X : PX} {n : Int} {ts : List Tb} (hf : X.fn = 59) (hp : X.parts = 1) (he : (stepP cf X n ts).1 = 0) : ∃ t, ts = [t] ∧ tcheck cf t = 0 ∧ t.vars = X.right ∧ X.time ≤ n ∧ 0 ≤ n ∧ n ≤ 1099511627776 ∧ stepP cf X n ts = (0, prevX X.i n ⟨X.right, []⟩ X.w, { X with time := n, w := [(n, t)] }) := by
  have h0 : wrongP cf X n ts = 0 := by
    refine Classical.byContradiction fun hne => ?_
    unfold stepP at he
    rw [if_neg hne] at he
    exact hne he
  obtain ⟨h1, h2, h3, h4, h5, h6, h7⟩ := wrongE_zero (S := X.ps) (.inl hp) h0
  simp only at h4 h7
  rw [hp] at h4
  obtain ⟨t, rfl⟩ := len_one h4
  refine ⟨t, rfl, h5 t (by simp), h7, h3, h1, h2, ?_⟩
  unfold stepP
  rw [if_pos h0]
  unfold tellP keepP
  rw [if_pos hf, if_pos hf]
  rfl
theorem step_not {cf : V → V → Int} {X : PX} {n : Int} {ts : List Tb} (he : (stepP cf X n ts).1 ≠ 0) : (stepP cf X n ts).2.2 = X := by
  unfold stepP at he ⊢
  split
  · rename_i h; rw [if_pos h] at he; exact absurd rfl he
  · rfl
theorem sdu_fits {w : World} {v : Value} {ts : List Tb} (h : RdTabs w v ts) (hu : ∀ t, t ∈ ts → TabLite t) : ∀ t, t ∈ ts → Fits V.wf t := fun t ht => by
  obtain ⟨j, hj⟩ := List.getElem?_of_mem ht
  obtain ⟨_, _, _, _, _, _, _, _, _, _, _, hr⟩ := h.at hj
  have := hu t ht
  exact ⟨⟨by have := this.vars; omega, by have := this.rows; omega, fun r hr => by have := this.row r hr; omega⟩, by have := this.rows; omega, hr.wf⟩
theorem same_self (t : Tb) : sameB t t = true := by simp [sameB, eqB_true]

set_option maxRecDepth 100000 in
set_option maxHeartbeats 8000000 in
theorem prev3 {cf : V → V → Int} (hK : Ctx V.wf cf) (hRK : RChkOk V.wf) (hRC : RCmpOk V.wf cf) {w : World} {i : Iv} {v2 v3 : Value} {vars : List BA} {ss : List SD} (h2 : RdStr w v2 vars) (hv : vars.length * 16 ≤ 140737488351232) (h3 : RdSteps w v3 ss) (hl : ss.length * 40 ≤ 140737488351232) (hu : ∀ s, s ∈ ss → SDL s) :
    Calls Tryz.prog 3 #[ivV i, v2, v3] w fun e w' => e = .returned (.bool true) ∧ w.Fr w' [] := by
  obtain ⟨lo, hi, op⟩ := i
  obtain ⟨c1, c2, rfl, _, _⟩ := h2.rd.shape
  obtain ⟨d1, d2, rfl⟩ := h3.shape
  obtain ⟨NV, hNV⟩ : ∃ N, vars.length = N := ⟨_, rfl⟩
  obtain ⟨N, hN⟩ : ∃ N, ss.length = N := ⟨_, rfl⟩
  rw [hNV] at h2 ⊢
  rw [hN] at h3 ⊢
  have q1 := heap_alloc_at w (.cells #[.int .i64 lo, .int .i64 hi, .bool op] 23) _ rfl
  have f1 := (World.Fr.refl w []).alloc (.cells #[.int .i64 lo, .int .i64 hi, .bool op] 23)
  have HK := Lib.hid hK; have HRK := Lib.hid hRK; have HRC := Lib.hid hRC; have H2 := Lib.hid h2; have H3 := Lib.hid h3; have HV := Lib.hid hv; have HL := Lib.hid hl; have HU := Lib.hid hu; have HN := Lib.hid hN; have HNV := Lib.hid hNV
  have Q1 := Lib.hid q1; have F := Lib.hid f1
  clear hK hRK hRC h2 h3 hv hl hu hN hNV q1 f1
  go_enter Tryz.func3, Tryz.ntmps3
  go_upto_region 1 with (fail)
  generalize hW : World.alloc w _ = W at *
  clear hW
  generalize hb3 : w.heap.size = b3 at *
  have HB3 := Lib.hid hb3
  clear hb3
  have k := Lib.hid (live14 HK.out W)
  go_wp2_with fail
  (with_reducible refine k.out.mono ?_)
  rintro e w1 ⟨rfl, fx⟩
  have Q1 := Lib.hid (fx.heap Q1.out (by simp)); have F := Lib.hid (F.out.trans fx (by simp))
  clear k fx
  have k := Lib.hid (many15a (H3.out.still F.out) (by have := HL.out; have := HN.out; omega) HU.out)
  go_wp2_with fail
  (with_reducible refine k.out.mono ?_)
  rintro e w2 ⟨RA, rfl, fx⟩
  have Q1 := Lib.hid (fx.heap Q1.out (by simp)); have F := Lib.hid (F.out.trans fx (by simp))
  clear k fx
  cases hd : decide ((600 : Int) < RA) with
  | true =>
    go_wp2
    go_ret
    exact ⟨rfl, F.out⟩
  | false =>
  obtain ⟨t0, t1, t2, tf⟩ := tri Q1.out
  have hz3 := lt_of_heap Q1.out
  have HSz := Lib.hid F.out.size
  have k := prev16 HK.out (i := ⟨lo, hi, op⟩) (H2.out.fr F.out (by simp)) (by have := HV.out; have := HNV.out; omega)
  obtain ⟨R, hR⟩ : ∃ R, beginE ⟨lo, hi, op⟩ [] vars = R := ⟨_, rfl⟩
  rw [hR] at k
  have k := Lib.hid k
  have HR := Lib.hid hR
  clear hR
  go_wp2_with fail
  (with_reducible refine k.out.mono ?_)
  rintro e w3 ⟨⟨pv, rfl, hp⟩, fx⟩
  have Q1 := Lib.hid (fx.heap Q1.out (by simp)); have F := Lib.hid (F.out.trans fx (by simp))
  have HP := Lib.hid hp
  clear k fx hp t0 t1 t2 tf hz3 hd
  by_cases hR0 : R = 0
  · subst hR0
    have HP2 : Hid (∃ k vl vr, pv = .pointer (some ⟨k, 0, none⟩) ∧ w2.heap.size ≤ k ∧ PastAt w3 k (beginS ⟨lo, hi, op⟩ false [] vars 59 1) vl vr (.slice none 0 0)) := Lib.hid (HP.out.elim (fun h => absurd rfl h.1) (fun h => h.2))
    clear HP
    obtain ⟨p, vl, vr, rfl, hk, hpa⟩ := HP2.out
    have HPA := Lib.hid (OpAt.begun hpa); have HKW := Lib.hid hk
    clear HP2 hpa hk
    by_cases hlong : 60 < N
    · have hd : decide ((60 : Int) < (N : Int)) = true := decide_eq_true (by omega)
      have hd2 : decide (60 < N) = true := decide_eq_true hlong
      clear hlong
      go_wp2
      go_ret
      exact ⟨rfl, F.out⟩
    have hd : decide ((60 : Int) < (N : Int)) = false := decide_eq_false (by omega)
    have hd2 : decide (60 < N) = false := decide_eq_false hlong
    have HN60 : Hid (N ≤ 60) := Lib.hid (by omega)
    clear hlong
    have hbz := beginE_zero HR.out
    have hOK0 : POkP cf (beginP ⟨lo, hi, op⟩ false [] vars 59 1) 5864062014634 := beginP_ok HR.out (.inl ⟨rfl, rfl⟩) (.inl rfl)
    have k := rempty34 HRK.out HRC.out HK.out.ord (H2.out.fr F.out (by simp)) (by have := HV.out; have := HNV.out; omega)
    rw [ofT_ok hbz.2.2.1] at k
    have K := Lib.hid k; have HOK0 := Lib.hid hOK0
    clear k hOK0 hbz
    go_wp2_with fail
    (with_reducible refine K.out.mono ?_)
    rintro e w4 ⟨u, rfl, ho⟩
    obtain ⟨s1, s2, s3, s4, rfl⟩ := ho.shape
    simp only [List.length_nil] at ho ⊢
    clear K hd hd2
    obtain ⟨RR, hRR⟩ : ∃ l, sortS vars = l := ⟨_, rfl⟩
    have hf4 := (World.Fr.refl w4 []).alloc (.cells #[.slice s1 (sortS vars).length s2, .slice s3 0 s4] 34)
    have hf5 := (World.Fr.refl (w4.alloc (.cells #[.slice s1 (sortS vars).length s2, .slice s3 0 s4] 34)) []).alloc (.cells #[.slice s1 (sortS vars).length s2, .slice s3 0 s4] 34)
    have hff := ho.fr.trans (hf4.trans hf5 (by simp)) (by simp)
    have hq10 := heap_alloc_some (heap_alloc_at w4 (.cells #[.slice s1 (sortS vars).length s2, .slice s3 0 s4] 34) _ rfl) (.cells #[.slice s1 (sortS vars).length s2, .slice s3 0 s4] 34)
    have hq12 := heap_alloc_at (w4.alloc (.cells #[.slice s1 (sortS vars).length s2, .slice s3 0 s4] 34)) (.cells #[.slice s1 (sortS vars).length s2, .slice s3 0 s4] 34) (w4.heap.size + 1) (by simp)
    have hsn := ho.sl.still (hf4.trans hf5 (by simp))
    have hq3 := hff.heap Q1.out (by simp)
    have hop := HPA.out.still hff
    have hw4 : w.heap.size ≤ w4.heap.size := (F.out.trans ho.fr (by simp)).size
    have HI0 : Hid (PvI cf w ((w4.alloc (.cells #[.slice s1 (sortS vars).length s2, .slice s3 0 s4] 34)).alloc (.cells #[.slice s1 (sortS vars).length s2, .slice s3 0 s4] 34)) p (beginP ⟨lo, hi, op⟩ false [] vars 59 1) [p] ⟨lo, hi, op⟩ RR b3 w4.heap.size (w4.heap.size + 1) (.slice s1 (sortS vars).length s2) (.slice s3 0 s4) (.slice s1 (sortS vars).length s2) (.slice s3 0 s4) ⟨RR, []⟩) := Lib.hid
      ⟨hop, HOK0.out, ⟨rfl, hRR, rfl, rfl⟩, .inl ⟨rfl, rfl, rfl⟩, fun k hk => by simp at hk; subst hk; exact Nat.le_trans HSz.out HKW.out, F.out.trans hff (by simp), hq3, hq10, hRR ▸ hsn, hq12, .inr (hRR ▸ hsn), ⟨by omega, by omega, by have := lt_of_heap Q1.out; have := ho.fr.size; omega⟩⟩
    have HZ0 := Lib.hid (lt_of_heap hq12)
    clear hff hf4 hf5 hq12 hsn hq3 hop hw4 HOK0 ho HPA HKW Q1 F
    obtain ⟨r0, r1, rf⟩ := two hq10
    have hz10 := lt_of_heap hq10
    clear hq10
    go_upto_region 10 with (fail)
    rw [hRR] at HI0 HZ0 ⊢
    generalize hWW : World.alloc (World.alloc w4 _) _ = W5 at *
    clear hWW r0 r1 rf hz10
    clear hRR
    generalize hb10 : w4.heap.size = b10 at *
    generalize hb12 : b10 + 1 = b12 at *
    clear hb10 hb12
    go_wp2
    go_loopw [13, 54] (fun t i wr => ∃ (j : Nat) (X : PX) (B : List Nat) (xa xb : Value) (L : Tb), i = .int .i64 j ∧ t = .int .i64 X.time ∧ j ≤ N ∧ Hid (PvI cf w wr p X B ⟨lo, hi, op⟩ RR b3 b10 b12 (.slice s1 RR.length s2) (.slice s3 0 s4) xa xb L)) (fun _ i _ => (N - intOf i).toNat)
    case atStart => exact ⟨0, _, _, _, _, _, rfl, rfl, Nat.zero_le _, HI0⟩
    case round =>
      obtain ⟨j, X, B, xa, xb, L, rfl, rfl, hj, HI⟩ := hrel
      clear HI0 HZ0
      by_cases hlt : j < N
      · obtain ⟨s, hs⟩ : ∃ s, ss[j]? = some s := ⟨ss[j]'(by have := HN.out; omega), List.getElem?_eq_getElem _⟩
        obtain ⟨g, off, c, a, mm, hv, hg, k0, k1, k2, hrd⟩ := H3.out.at hs
        rw [HN.out] at hv
        cases hv
        have hfr := HI.out.fr
        have k0 := cellFr hfr k0 (by simp)
        have k1 := cellFr hfr k1 (by simp)
        have k2 := cellFr hfr k2 (by simp)
        have hg := Nat.lt_of_lt_of_le hg hfr.size
        have hjI : (j : Int) < (N : Int) := by omega
        have hw1 : IntKind.i64.wrap ((j : Int) + 1) = (j : Int) + 1 := IntWalk.i64_in _ (by have := HN60.out; omega)
        have hnn : (0 : Int) ≤ (j : Int) := by omega
        have hus := HU.out s (List.mem_of_getElem? hs)
        have hrows : ∀ t, t ∈ s.tabs → t.rows.length ≤ 5864062014634 := fun t ht => by have := (hus.tab t ht).rows; omega
        have hf15 := (World.Fr.refl wr []).alloc (.cells #[.int .i64 s.time, .slice a s.tabs.length mm, .bool s.clone] 39)
        have q15 := heap_alloc_at wr (.cells #[.int .i64 s.time, .slice a s.tabs.length mm, .bool s.clone] 39) _ rfl
        have HLT15 := Lib.hid (lt_of_heap HI.out.boxL)
        have hi15 := HI.out.still hf15
        have hc := step18 HK.out (M := 5864062014634) (by decide) (n := s.time) hi15.op hi15.ok hi15.few (fun W hW => hrd.still (hi15.fr.trans hW (fun k hk => .inr (hi15.new k hk)))) (fun hpos g2 off2 l2 c2 e hm => by have h1 := hrd.low hpos e; have h2 := hi15.new g2 hm; omega) (by have := hus.len; omega) (sdu_fits hrd hus.tab) (fun _ => hrows)
        obtain ⟨NT, hNT⟩ : ∃ n, s.tabs.length = n := ⟨_, rfl⟩
        obtain ⟨T, hT⟩ : ∃ T, (stepP cf X s.time s.tabs).2.1 = T := ⟨_, rfl⟩
        obtain ⟨E, hE⟩ : ∃ T, (stepP cf X s.time s.tabs).1 = T := ⟨_, rfl⟩
        obtain ⟨X', hX'⟩ : ∃ T, (stepP cf X s.time s.tabs).2.2 = T := ⟨_, rfl⟩
        rw [hT, hE, hX'] at hc
        rw [hNT] at hc q15 k1 hi15
        have Hc := Lib.hid hc; have HI := Lib.hid hi15; have HT := Lib.hid hT; have HE := Lib.hid hE; have HX := Lib.hid hX'; have HNT := Lib.hid hNT; have Hrd := Lib.hid hrd; have Hrows := Lib.hid hrows; have HFits := Lib.hid (sdu_fits hrd hus.tab)
        clear hc hi15 hT hE hX' hf15 hus hs hfr hrows
        go_upto_region 13 with (fail)
        clear hNT hrd
        generalize hWW : World.alloc wr _ = w5 at *
        clear hWW
        generalize wr.heap.size = b15 at *
        obtain ⟨m0, m1, m2, mf⟩ := tri q15
        have hz15 := lt_of_heap q15
        have Q15 := Lib.hid q15
        clear q15 k0 k1 k2 hg
        go_wp2_with fail
        (with_reducible refine Hc.out.mono ?_)
        rintro e w6 ⟨u, B', rfl, hn, ho, hb, hfb⟩
        have hsl := hn.sl
        obtain ⟨ua, ub, _, hu', _⟩ := hsl.ex
        subst hu'
        obtain ⟨u1, u2, u3, u4, rfl, rfl⟩ := hsl.shape
        have hp6 := HI.out.step hfb ho hb
        have q15 := hfb.heap Q15.out (HI.out.op.ne Q15.out (by decide) (by decide))
        have hf16 := (World.Fr.refl w6 []).alloc (.cells #[.slice u1 T.vars.length u2, .slice u3 T.rows.length u4] 34)
        have q16 := heap_alloc_at w6 (.cells #[.slice u1 T.vars.length u2, .slice u3 T.rows.length u4] 34) _ rfl
        have hsame : X' = X → PvI cf w (w6.alloc (.cells #[.slice u1 T.vars.length u2, .slice u3 T.rows.length u4] 34)) p X B' ⟨lo, hi, op⟩ RR b3 b10 b12 (.slice s1 RR.length s2) (.slice s3 0 s4) xa xb L := fun e => (HI.out.same hfb (by rw [← e]; exact ho) hb).still hf16
        have HSame := Lib.hid hsame
        clear hsame
        have HP6 := Lib.hid hp6; have HSl := Lib.hid (hsl.still hf16); have Q15 := Lib.hid (hf16.heap q15 (by simp)); have Q16 := Lib.hid q16; have HF16 := Lib.hid hf16
        clear m0 m1 m2 mf hz15 hp6 hsl hn q15 q16 hf16 ho hb hfb Hc
        go_upto_region 14 with (fail)
        generalize hWW : World.alloc w6 _ = w7 at *
        clear hWW
        generalize w6.heap.size = b16 at *
        by_cases hE0 : E = 0
        · have he := HE.out
          rw [hE0] at he
          obtain ⟨t, hts, htc, htv, hx1, hx2, hx3, hx4⟩ := prev_taken HI.out.fix.2.2.1 HI.out.fix.2.2.2 he
          have hX2 : X' = { X with time := s.time, w := [(s.time, t)] } := by rw [← HX.out, hx4]
          have hT2 : T = prevX X.i s.time ⟨X.right, []⟩ X.w := by rw [← HT.out, hx4]
          obtain rfl : NT = 1 := by have := HNT.out; rw [hts] at this; exact this.symm
          obtain ⟨g2, off2, c2, x1, x2, x3, x4, hv, hg2, l1, l2, htab⟩ := Hrd.out.at (j := 0) (t := t) (by rw [hts]; rfl)
          rw [hts] at hv
          cases hv
          simp only [Nat.zero_mul, Nat.add_zero] at l1 l2
          have hxo : -1 ≤ X.time := by rcases HI.out.st with ⟨h, _⟩ | ⟨h, _⟩ <;> omega
          obtain ⟨D, hD⟩ : ∃ D, s.time - X.time = D := ⟨_, rfl⟩
          have hw2 : IntKind.i64.wrap (s.time - X.time) = D := (IntWalk.i64_in _ (by omega)).trans hD
          have HT2 := Lib.hid hT2; have HX2 := Lib.hid hX2; have HD := Lib.hid hD; have L1 := Lib.hid l1; have L2 := Lib.hid l2; have HG2 := Lib.hid hg2; have HTab := Lib.hid htab
          have HTf : Hid (Fits V.wf T ∧ Fits V.wf t ∧ Good cf t ∧ t.rows.length ≤ 5864062014634) := Lib.hid (by
            have h600 := Hrows.out t (by rw [hts]; simp)
            have hgt := good_of HK.out.ord htc htab.wf
            have hgT := prevX_good (i := X.i) (n := s.time) (l := X.w) (R := X.right) (M := 5864062014634) ⟨X.right, []⟩ ⟨empty_good HI.out.ok, rfl, by simp⟩ HI.out.ok.good
            rw [← hT2] at hgT
            exact ⟨hgT.1.fits (by have := hgT.2.2; omega), hgt.fits (by omega), hgt, h600⟩)
          have HTV := Lib.hid htv; have HX13 := Lib.hid (And.intro hx1 (And.intro hx2 hx3))
          have hb : (E != 0) = false := by simp [hE0]
          have hp7 := HP6.out
          obtain ⟨o1, o2, o3, o4, o5, o6, o7, o8⟩ := hp7
          have hshp := ((o8.still HF16.out).rd (o3.trans HF16.out (by simp))).shp
          obtain ⟨y1, y2, y3, y4, hya, hyb⟩ := hshp
          subst hya hyb
          have hf18 := (World.Fr.refl w7 []).alloc (.cells #[.slice s1 RR.length s2, .slice s3 0 s4] 34)
          have q18 := heap_alloc_at w7 (.cells #[.slice s1 RR.length s2, .slice s3 0 s4] 34) _ rfl
          have hff := HF16.out.trans hf18 (by simp)
          have HO := Lib.hid (o1.still hff); have HNew := Lib.hid o2; have HFr := Lib.hid (o3.trans hff (by simp)); have B3 := Lib.hid (hff.heap o4 (by simp)); have BN := Lib.hid (hff.heap o5 (by simp)); have HNo := Lib.hid (o6.still hff); have BL := Lib.hid (hff.heap o7 (by simp)); have HLa := Lib.hid (o8.still hff)
          have HB18 := Lib.hid (show b15 < w7.heap.size ∧ b16 < w7.heap.size ∧ b12 < w7.heap.size ∧ b10 < w7.heap.size ∧ b3 < w7.heap.size from ⟨lt_of_heap Q15.out, lt_of_heap Q16.out, lt_of_heap (HF16.out.heap o7 (by simp)), lt_of_heap (HF16.out.heap o5 (by simp)), lt_of_heap (HF16.out.heap o4 (by simp))⟩)
          have HSl := Lib.hid (HSl.out.still hf18); have Q15 := Lib.hid (hf18.heap Q15.out (by simp)); have Q16 := Lib.hid (hf18.heap Q16.out (by simp)); have Q18 := Lib.hid q18
          have n5 := HF16.out.heap o5 (by simp)
          obtain ⟨r0, r1, rf⟩ := two n5
          have hzn := lt_of_heap n5
          clear hE0 he hts htc htv hx1 hx2 hx3 hx4 hX2 hT2 hxo hD l1 l2 hg2 htab o1 o2 o3 o4 o5 o6 o7 o8 hf18 q18 hff n5 HP6 HSame HF16
          go_upto_region 16 with (fail)
          generalize hWW : World.alloc w7 _ = w8 at *
          clear hWW r0 r1 rf hzn
          generalize w7.heap.size = b18 at *
          rcases HI.out.st with ⟨hst1, hst2, hst3⟩ | ⟨hst1, hst2⟩
          · have c1 : decide (0 ≤ X.time) = false := decide_eq_false (by omega)
            have HTe : Hid (T = ⟨RR, []⟩) := Lib.hid (by rw [HT2.out, hst2, HI.out.fix.2.1]; rfl)
            clear hst1 hst2 hst3
            have HTY := Lib.hid (show T = ⟨RR, []⟩ from HTe.out)
            have HYT := Lib.hid HNo.out.rd
            obtain ⟨t0, t1, t2, tf⟩ := tri B3.out
            obtain ⟨m0, m1, m2, mf⟩ := tri Q15.out
            have z3 := lt_of_heap B3.out
            have z15 := lt_of_heap Q15.out
            go_upto_region 19 with (fail)
            clear t0 t1 t2 tf z3 m0 m1 m2 mf z15
            have hsame := rsame17 HSl.out.rd HYT.out HTf.out.1.small
            have e1 : sameB T ⟨RR, []⟩ = true := by rw [HTY.out]; exact same_self _
            rw [e1] at hsame
            have Hs := Lib.hid hsame
            clear hsame e1
            obtain ⟨m0, m1, m2, mf⟩ := tri Q15.out
            obtain ⟨r0, r1, rf⟩ := two Q16.out
            obtain ⟨p0, p1, pf⟩ := two Q18.out
            have z15 := lt_of_heap Q15.out
            have z16 := lt_of_heap Q16.out
            have z18 := lt_of_heap Q18.out
            go_wp2_with fail
            (with_reducible refine Hs.out.mono ?_)
            rintro e w10 ⟨rfl, fx⟩
            clear m0 m1 m2 mf r0 r1 rf p0 p1 pf z15 z16 z18 Hs
            have hfr10 := HFr.out.trans fx (by simp)
            have q15 := fx.heap Q15.out (by simp)
            have q12 := fx.heap BL.out (by simp)
            have l1 := cellFr hfr10 L1.out (by simp)
            have l2 := cellFr hfr10 L2.out (by simp)
            have hg2 := Nat.lt_of_lt_of_le HG2.out hfr10.size
            have HFin : Hid (PvI cf w ((w10.setCell ⟨b12, 0, none⟩ (.slice x1 t.vars.length x2)).setCell ⟨b12, 1, none⟩ (.slice x3 t.rows.length x4)) p { X with time := s.time, w := [(s.time, t)] } B' ⟨lo, hi, op⟩ RR b3 b10 b12 (.slice s1 RR.length s2) (.slice s3 0 s4) (.slice x1 t.vars.length x2) (.slice x3 t.rows.length x4) t) := Lib.hid (by
              have hok : POkP cf X' 5864062014634 := by
                have := HI.out.ok.step HK.out.ord (n := s.time) (ts := s.tabs) (fun h0 t' ht' => by
                  have := Hrows.out t' ht'
                  refine ⟨?_, this⟩
                  obtain ⟨_, _, _, _, h5, _, _⟩ := wrongE_zero (S := X.ps) HI.out.ok.parts h0
                  exact good_of HK.out.ord (h5 t' ht') (HFits.out t' ht').ok)
                rw [HX.out] at this
                exact this
              have ho := HO.out.still fx
              rw [HX2.out] at hok ho
              exact PvI.next ho hok HI.out.fix ⟨HX13.out.2.1, rfl⟩ HNew.out hfr10 (fx.heap B3.out (by simp)) (fx.heap BN.out (by simp)) (HNo.out.still fx) q12 HTab.out HI.out.b12)
            obtain ⟨m0, m1, m2, mf⟩ := tri q15
            obtain ⟨p0, p1, pf⟩ := two q12
            have z15 := lt_of_heap q15
            have z12 := lt_of_heap q12
            have hne15 : b15 ≠ b12 := by have := HLT15.out; omega
            obtain ⟨ma0, ma1, ma2, maf⟩ := tri (heap_set_other (heap_set_other q15 ⟨b12, 0, none⟩ hne15 (.slice x1 t.vars.length x2)) ⟨b12, 1, none⟩ hne15 (.slice x3 t.rows.length x4))
            clear hfr10 q15 q12 fx HO HFr B3 BN HNo BL HSl Q15 Q16 Q18 HYT
            go_wp2
            go_roundw
            case rel => exact ⟨j + 1, _, B', _, _, t, by go_num, rfl, by omega, HFin⟩
            case measure => simp [intOf]; omega
          · have c1 : decide (0 ≤ X.time) = true := decide_eq_true hst1
            have HTe : Hid (T = if inB D ⟨lo, hi, op⟩ then L else ⟨RR, []⟩) := Lib.hid (by rw [HT2.out, hst2, prevX_one, HI.out.fix.2.1, HI.out.fix.1, HD.out])
            clear hst1 hst2
            cases c2 : decide (lo ≤ D) with
            | false =>
              have HTz : Hid (T = ⟨RR, []⟩) := Lib.hid (by rw [HTe.out, if_neg (by simp [inB, c2])])
              have HTY := Lib.hid (show T = ⟨RR, []⟩ from HTz.out)
              have HYT := Lib.hid HNo.out.rd
              obtain ⟨t0, t1, t2, tf⟩ := tri B3.out
              obtain ⟨m0, m1, m2, mf⟩ := tri Q15.out
              have z3 := lt_of_heap B3.out
              have z15 := lt_of_heap Q15.out
              go_upto_region 19 with (fail)
              clear t0 t1 t2 tf z3 m0 m1 m2 mf z15
              have hsame := rsame17 HSl.out.rd HYT.out HTf.out.1.small
              have e1 : sameB T ⟨RR, []⟩ = true := by rw [HTY.out]; exact same_self _
              rw [e1] at hsame
              have Hs := Lib.hid hsame
              clear hsame e1
              obtain ⟨m0, m1, m2, mf⟩ := tri Q15.out
              obtain ⟨r0, r1, rf⟩ := two Q16.out
              obtain ⟨p0, p1, pf⟩ := two Q18.out
              have z15 := lt_of_heap Q15.out
              have z16 := lt_of_heap Q16.out
              have z18 := lt_of_heap Q18.out
              go_wp2_with fail
              (with_reducible refine Hs.out.mono ?_)
              rintro e w10 ⟨rfl, fx⟩
              clear m0 m1 m2 mf r0 r1 rf p0 p1 pf z15 z16 z18 Hs
              have hfr10 := HFr.out.trans fx (by simp)
              have q15 := fx.heap Q15.out (by simp)
              have q12 := fx.heap BL.out (by simp)
              have l1 := cellFr hfr10 L1.out (by simp)
              have l2 := cellFr hfr10 L2.out (by simp)
              have hg2 := Nat.lt_of_lt_of_le HG2.out hfr10.size
              have HFin : Hid (PvI cf w ((w10.setCell ⟨b12, 0, none⟩ (.slice x1 t.vars.length x2)).setCell ⟨b12, 1, none⟩ (.slice x3 t.rows.length x4)) p { X with time := s.time, w := [(s.time, t)] } B' ⟨lo, hi, op⟩ RR b3 b10 b12 (.slice s1 RR.length s2) (.slice s3 0 s4) (.slice x1 t.vars.length x2) (.slice x3 t.rows.length x4) t) := Lib.hid (by
                have hok : POkP cf X' 5864062014634 := by
                  have := HI.out.ok.step HK.out.ord (n := s.time) (ts := s.tabs) (fun h0 t' ht' => by
                    have := Hrows.out t' ht'
                    refine ⟨?_, this⟩
                    obtain ⟨_, _, _, _, h5, _, _⟩ := wrongE_zero (S := X.ps) HI.out.ok.parts h0
                    exact good_of HK.out.ord (h5 t' ht') (HFits.out t' ht').ok)
                  rw [HX.out] at this
                  exact this
                have ho := HO.out.still fx
                rw [HX2.out] at hok ho
                exact PvI.next ho hok HI.out.fix ⟨HX13.out.2.1, rfl⟩ HNew.out hfr10 (fx.heap B3.out (by simp)) (fx.heap BN.out (by simp)) (HNo.out.still fx) q12 HTab.out HI.out.b12)
              obtain ⟨m0, m1, m2, mf⟩ := tri q15
              obtain ⟨p0, p1, pf⟩ := two q12
              have z15 := lt_of_heap q15
              have z12 := lt_of_heap q12
              have hne15 : b15 ≠ b12 := by have := HLT15.out; omega
              obtain ⟨ma0, ma1, ma2, maf⟩ := tri (heap_set_other (heap_set_other q15 ⟨b12, 0, none⟩ hne15 (.slice x1 t.vars.length x2)) ⟨b12, 1, none⟩ hne15 (.slice x3 t.rows.length x4))
              clear hfr10 q15 q12 fx HO HFr B3 BN HNo BL HSl Q15 Q16 Q18 HYT
              go_wp2
              go_roundw
              case rel => exact ⟨j + 1, _, B', _, _, t, by go_num, rfl, by omega, HFin⟩
              case measure => simp [intOf]; omega
            | true =>
              rcases Bool.eq_false_or_eq_true op with hop | hop
              · have HTz : Hid (T = L) := Lib.hid (by rw [HTe.out, if_pos (by simp [inB, c2, hop])])
                have HOP := Lib.hid hop
                clear hop
                have HTY := Lib.hid (show T = L from HTz.out)
                obtain ⟨t0, t1, t2, tf⟩ := tri B3.out
                rw [HOP.out] at t2
                obtain ⟨m0, m1, m2, mf⟩ := tri Q15.out
                have z15 := lt_of_heap Q15.out
                obtain ⟨r0, r1, rf⟩ := two BL.out
                obtain ⟨p0, p1, pf⟩ := two Q18.out
                have z3 := lt_of_heap B3.out
                have z12 := lt_of_heap BL.out
                have z18 := lt_of_heap Q18.out
                have hs1 := ((World.Fr.refl w8 [b18]).setCell (a := ⟨b18, 0, none⟩) (.inl (by simp)) (.slice y1 L.vars.length y2)).setCell (a := ⟨b18, 1, none⟩) (.inl (by simp)) (.slice y3 L.rows.length y4)
                have hod := Odd.one Q18.out (by decide)
                have hla := (HLa.out.fr hs1 hod)
                have hfr9 := HFr.out.trans hs1 (fun k hk => .inr (by simp at hk; subst hk; have := HB18.out; have := HI.out.b12; omega))
                have HYT := Lib.hid (hla.rd hfr9)
                have HO := Lib.hid (HO.out.fr hs1 hod (fun k hk hm => by simp at hm; subst hm; exact HO.out.ne Q18.out (by decide) (by decide) hk))
                have HFr := Lib.hid hfr9
                have B3 := Lib.hid (hs1.heap B3.out (by have := HB18.out; simp; omega)); have BN := Lib.hid (hs1.heap BN.out (by have := HB18.out; simp; omega)); have HNo := Lib.hid (HNo.out.fr hs1 hod); have BL := Lib.hid (hs1.heap BL.out (by have := HB18.out; simp; omega))
                have HSl := Lib.hid (HSl.out.fr hs1 hod); have Q15 := Lib.hid (hs1.heap Q15.out (by have := HB18.out; simp; omega)); have Q16 := Lib.hid (hs1.heap Q16.out (by have := HB18.out; simp; omega)); have Q18 := Lib.hid (heap_set_same (heap_set_same Q18.out 0 (.slice y1 L.vars.length y2)) 1 (.slice y3 L.rows.length y4))
                clear hs1 hod hla hfr9 HLa
                go_upto_region 19 with (fail)
                generalize hWW : World.setCell (World.setCell w8 _ _) _ _ = w9 at *
                clear hWW t0 t1 t2 tf r0 r1 rf p0 p1 pf z3 z12 z18 m0 m1 m2 mf z15
                have hsame := rsame17 HSl.out.rd HYT.out HTf.out.1.small
                have e1 : sameB T L = true := by rw [HTY.out]; exact same_self _
                rw [e1] at hsame
                have Hs := Lib.hid hsame
                clear hsame e1
                obtain ⟨m0, m1, m2, mf⟩ := tri Q15.out
                obtain ⟨r0, r1, rf⟩ := two Q16.out
                obtain ⟨p0, p1, pf⟩ := two Q18.out
                have z15 := lt_of_heap Q15.out
                have z16 := lt_of_heap Q16.out
                have z18 := lt_of_heap Q18.out
                go_wp2_with fail
                (with_reducible refine Hs.out.mono ?_)
                rintro e w10 ⟨rfl, fx⟩
                clear m0 m1 m2 mf r0 r1 rf p0 p1 pf z15 z16 z18 Hs
                have hfr10 := HFr.out.trans fx (by simp)
                have q15 := fx.heap Q15.out (by simp)
                have q12 := fx.heap BL.out (by simp)
                have l1 := cellFr hfr10 L1.out (by simp)
                have l2 := cellFr hfr10 L2.out (by simp)
                have hg2 := Nat.lt_of_lt_of_le HG2.out hfr10.size
                have HFin : Hid (PvI cf w ((w10.setCell ⟨b12, 0, none⟩ (.slice x1 t.vars.length x2)).setCell ⟨b12, 1, none⟩ (.slice x3 t.rows.length x4)) p { X with time := s.time, w := [(s.time, t)] } B' ⟨lo, hi, op⟩ RR b3 b10 b12 (.slice s1 RR.length s2) (.slice s3 0 s4) (.slice x1 t.vars.length x2) (.slice x3 t.rows.length x4) t) := Lib.hid (by
                  have hok : POkP cf X' 5864062014634 := by
                    have := HI.out.ok.step HK.out.ord (n := s.time) (ts := s.tabs) (fun h0 t' ht' => by
                      have := Hrows.out t' ht'
                      refine ⟨?_, this⟩
                      obtain ⟨_, _, _, _, h5, _, _⟩ := wrongE_zero (S := X.ps) HI.out.ok.parts h0
                      exact good_of HK.out.ord (h5 t' ht') (HFits.out t' ht').ok)
                    rw [HX.out] at this
                    exact this
                  have ho := HO.out.still fx
                  rw [HX2.out] at hok ho
                  exact PvI.next ho hok HI.out.fix ⟨HX13.out.2.1, rfl⟩ HNew.out hfr10 (fx.heap B3.out (by simp)) (fx.heap BN.out (by simp)) (HNo.out.still fx) q12 HTab.out HI.out.b12)
                obtain ⟨m0, m1, m2, mf⟩ := tri q15
                obtain ⟨p0, p1, pf⟩ := two q12
                have z15 := lt_of_heap q15
                have z12 := lt_of_heap q12
                have hne15 : b15 ≠ b12 := by have := HLT15.out; omega
                obtain ⟨ma0, ma1, ma2, maf⟩ := tri (heap_set_other (heap_set_other q15 ⟨b12, 0, none⟩ hne15 (.slice x1 t.vars.length x2)) ⟨b12, 1, none⟩ hne15 (.slice x3 t.rows.length x4))
                clear hfr10 q15 q12 fx HO HFr B3 BN HNo BL HSl Q15 Q16 Q18 HYT
                go_wp2
                go_roundw
                case rel => exact ⟨j + 1, _, B', _, _, t, by go_num, rfl, by omega, HFin⟩
                case measure => simp [intOf]; omega
              · have HOP := Lib.hid hop
                clear hop
                cases c4 : decide (D ≤ hi) with
                | false =>
                  have HTz : Hid (T = ⟨RR, []⟩) := Lib.hid (by rw [HTe.out, if_neg (by simp [inB, c2, c4, HOP.out])])
                  have HTY := Lib.hid (show T = ⟨RR, []⟩ from HTz.out)
                  have HYT := Lib.hid HNo.out.rd
                  obtain ⟨t0, t1, t2, tf⟩ := tri B3.out
                  rw [HOP.out] at t2
                  obtain ⟨m0, m1, m2, mf⟩ := tri Q15.out
                  have z3 := lt_of_heap B3.out
                  have z15 := lt_of_heap Q15.out
                  go_upto_region 19 with (fail)
                  clear t0 t1 t2 tf z3 m0 m1 m2 mf z15
                  have hsame := rsame17 HSl.out.rd HYT.out HTf.out.1.small
                  have e1 : sameB T ⟨RR, []⟩ = true := by rw [HTY.out]; exact same_self _
                  rw [e1] at hsame
                  have Hs := Lib.hid hsame
                  clear hsame e1
                  obtain ⟨m0, m1, m2, mf⟩ := tri Q15.out
                  obtain ⟨r0, r1, rf⟩ := two Q16.out
                  obtain ⟨p0, p1, pf⟩ := two Q18.out
                  have z15 := lt_of_heap Q15.out
                  have z16 := lt_of_heap Q16.out
                  have z18 := lt_of_heap Q18.out
                  go_wp2_with fail
                  (with_reducible refine Hs.out.mono ?_)
                  rintro e w10 ⟨rfl, fx⟩
                  clear m0 m1 m2 mf r0 r1 rf p0 p1 pf z15 z16 z18 Hs
                  have hfr10 := HFr.out.trans fx (by simp)
                  have q15 := fx.heap Q15.out (by simp)
                  have q12 := fx.heap BL.out (by simp)
                  have l1 := cellFr hfr10 L1.out (by simp)
                  have l2 := cellFr hfr10 L2.out (by simp)
                  have hg2 := Nat.lt_of_lt_of_le HG2.out hfr10.size
                  have HFin : Hid (PvI cf w ((w10.setCell ⟨b12, 0, none⟩ (.slice x1 t.vars.length x2)).setCell ⟨b12, 1, none⟩ (.slice x3 t.rows.length x4)) p { X with time := s.time, w := [(s.time, t)] } B' ⟨lo, hi, op⟩ RR b3 b10 b12 (.slice s1 RR.length s2) (.slice s3 0 s4) (.slice x1 t.vars.length x2) (.slice x3 t.rows.length x4) t) := Lib.hid (by
                    have hok : POkP cf X' 5864062014634 := by
                      have := HI.out.ok.step HK.out.ord (n := s.time) (ts := s.tabs) (fun h0 t' ht' => by
                        have := Hrows.out t' ht'
                        refine ⟨?_, this⟩
                        obtain ⟨_, _, _, _, h5, _, _⟩ := wrongE_zero (S := X.ps) HI.out.ok.parts h0
                        exact good_of HK.out.ord (h5 t' ht') (HFits.out t' ht').ok)
                      rw [HX.out] at this
                      exact this
                    have ho := HO.out.still fx
                    rw [HX2.out] at hok ho
                    exact PvI.next ho hok HI.out.fix ⟨HX13.out.2.1, rfl⟩ HNew.out hfr10 (fx.heap B3.out (by simp)) (fx.heap BN.out (by simp)) (HNo.out.still fx) q12 HTab.out HI.out.b12)
                  obtain ⟨m0, m1, m2, mf⟩ := tri q15
                  obtain ⟨p0, p1, pf⟩ := two q12
                  have z15 := lt_of_heap q15
                  have z12 := lt_of_heap q12
                  have hne15 : b15 ≠ b12 := by have := HLT15.out; omega
                  obtain ⟨ma0, ma1, ma2, maf⟩ := tri (heap_set_other (heap_set_other q15 ⟨b12, 0, none⟩ hne15 (.slice x1 t.vars.length x2)) ⟨b12, 1, none⟩ hne15 (.slice x3 t.rows.length x4))
                  clear hfr10 q15 q12 fx HO HFr B3 BN HNo BL HSl Q15 Q16 Q18 HYT
                  go_wp2
                  go_roundw
                  case rel => exact ⟨j + 1, _, B', _, _, t, by go_num, rfl, by omega, HFin⟩
                  case measure => simp [intOf]; omega
                | true =>
                  have HTz : Hid (T = L) := Lib.hid (by rw [HTe.out, if_pos (by simp [inB, c2, c4, HOP.out])])
                  have HTY := Lib.hid (show T = L from HTz.out)
                  obtain ⟨t0, t1, t2, tf⟩ := tri B3.out
                  rw [HOP.out] at t2
                  obtain ⟨m0, m1, m2, mf⟩ := tri Q15.out
                  have z15 := lt_of_heap Q15.out
                  obtain ⟨r0, r1, rf⟩ := two BL.out
                  obtain ⟨p0, p1, pf⟩ := two Q18.out
                  have z3 := lt_of_heap B3.out
                  have z12 := lt_of_heap BL.out
                  have z18 := lt_of_heap Q18.out
                  have hs1 := ((World.Fr.refl w8 [b18]).setCell (a := ⟨b18, 0, none⟩) (.inl (by simp)) (.slice y1 L.vars.length y2)).setCell (a := ⟨b18, 1, none⟩) (.inl (by simp)) (.slice y3 L.rows.length y4)
                  have hod := Odd.one Q18.out (by decide)
                  have hla := (HLa.out.fr hs1 hod)
                  have hfr9 := HFr.out.trans hs1 (fun k hk => .inr (by simp at hk; subst hk; have := HB18.out; have := HI.out.b12; omega))
                  have HYT := Lib.hid (hla.rd hfr9)
                  have HO := Lib.hid (HO.out.fr hs1 hod (fun k hk hm => by simp at hm; subst hm; exact HO.out.ne Q18.out (by decide) (by decide) hk))
                  have HFr := Lib.hid hfr9
                  have B3 := Lib.hid (hs1.heap B3.out (by have := HB18.out; simp; omega)); have BN := Lib.hid (hs1.heap BN.out (by have := HB18.out; simp; omega)); have HNo := Lib.hid (HNo.out.fr hs1 hod); have BL := Lib.hid (hs1.heap BL.out (by have := HB18.out; simp; omega))
                  have HSl := Lib.hid (HSl.out.fr hs1 hod); have Q15 := Lib.hid (hs1.heap Q15.out (by have := HB18.out; simp; omega)); have Q16 := Lib.hid (hs1.heap Q16.out (by have := HB18.out; simp; omega)); have Q18 := Lib.hid (heap_set_same (heap_set_same Q18.out 0 (.slice y1 L.vars.length y2)) 1 (.slice y3 L.rows.length y4))
                  clear hs1 hod hla hfr9 HLa
                  go_upto_region 19 with (fail)
                  generalize hWW : World.setCell (World.setCell w8 _ _) _ _ = w9 at *
                  clear hWW t0 t1 t2 tf r0 r1 rf p0 p1 pf z3 z12 z18 m0 m1 m2 mf z15
                  have hsame := rsame17 HSl.out.rd HYT.out HTf.out.1.small
                  have e1 : sameB T L = true := by rw [HTY.out]; exact same_self _
                  rw [e1] at hsame
                  have Hs := Lib.hid hsame
                  clear hsame e1
                  obtain ⟨m0, m1, m2, mf⟩ := tri Q15.out
                  obtain ⟨r0, r1, rf⟩ := two Q16.out
                  obtain ⟨p0, p1, pf⟩ := two Q18.out
                  have z15 := lt_of_heap Q15.out
                  have z16 := lt_of_heap Q16.out
                  have z18 := lt_of_heap Q18.out
                  go_wp2_with fail
                  (with_reducible refine Hs.out.mono ?_)
                  rintro e w10 ⟨rfl, fx⟩
                  clear m0 m1 m2 mf r0 r1 rf p0 p1 pf z15 z16 z18 Hs
                  have hfr10 := HFr.out.trans fx (by simp)
                  have q15 := fx.heap Q15.out (by simp)
                  have q12 := fx.heap BL.out (by simp)
                  have l1 := cellFr hfr10 L1.out (by simp)
                  have l2 := cellFr hfr10 L2.out (by simp)
                  have hg2 := Nat.lt_of_lt_of_le HG2.out hfr10.size
                  have HFin : Hid (PvI cf w ((w10.setCell ⟨b12, 0, none⟩ (.slice x1 t.vars.length x2)).setCell ⟨b12, 1, none⟩ (.slice x3 t.rows.length x4)) p { X with time := s.time, w := [(s.time, t)] } B' ⟨lo, hi, op⟩ RR b3 b10 b12 (.slice s1 RR.length s2) (.slice s3 0 s4) (.slice x1 t.vars.length x2) (.slice x3 t.rows.length x4) t) := Lib.hid (by
                    have hok : POkP cf X' 5864062014634 := by
                      have := HI.out.ok.step HK.out.ord (n := s.time) (ts := s.tabs) (fun h0 t' ht' => by
                        have := Hrows.out t' ht'
                        refine ⟨?_, this⟩
                        obtain ⟨_, _, _, _, h5, _, _⟩ := wrongE_zero (S := X.ps) HI.out.ok.parts h0
                        exact good_of HK.out.ord (h5 t' ht') (HFits.out t' ht').ok)
                      rw [HX.out] at this
                      exact this
                    have ho := HO.out.still fx
                    rw [HX2.out] at hok ho
                    exact PvI.next ho hok HI.out.fix ⟨HX13.out.2.1, rfl⟩ HNew.out hfr10 (fx.heap B3.out (by simp)) (fx.heap BN.out (by simp)) (HNo.out.still fx) q12 HTab.out HI.out.b12)
                  obtain ⟨m0, m1, m2, mf⟩ := tri q15
                  obtain ⟨p0, p1, pf⟩ := two q12
                  have z15 := lt_of_heap q15
                  have z12 := lt_of_heap q12
                  have hne15 : b15 ≠ b12 := by have := HLT15.out; omega
                  obtain ⟨ma0, ma1, ma2, maf⟩ := tri (heap_set_other (heap_set_other q15 ⟨b12, 0, none⟩ hne15 (.slice x1 t.vars.length x2)) ⟨b12, 1, none⟩ hne15 (.slice x3 t.rows.length x4))
                  clear hfr10 q15 q12 fx HO HFr B3 BN HNo BL HSl Q15 Q16 Q18 HYT
                  go_wp2
                  go_roundw
                  case rel => exact ⟨j + 1, _, B', _, _, t, by go_num, rfl, by omega, HFin⟩
                  case measure => simp [intOf]; omega
        · have hb : (E != 0) = true := by simpa using hE0
          have hxx : X' = X := by rw [← HX.out]; exact step_not (by rw [HE.out]; exact hE0)
          have HFin := Lib.hid (HSame.out hxx)
          clear hE0 hxx HP6 HSl Q15 Q16 HF16
          go_wp2
          go_roundw
          case rel => exact ⟨j + 1, X, B', xa, xb, L, by go_num, rfl, by omega, HFin⟩
          case measure => simp [intOf]; omega
      · have hd : decide ((j : Int) < (N : Int)) = false := decide_eq_false (by omega)
        have hd2 : decide (j < N) = false := decide_eq_false hlt
        have HF := Lib.hid HI.out.fr
        clear HI hlt hj
        go_wp2
        go_ret
        exact ⟨rfl, HF.out⟩
  · have hb : (R == 0) = false := by simpa using hR0
    have hb2 : (R != 0) = true := by simpa using hR0
    obtain rfl : pv = .pointer none := (HP.out.elim (fun h => h.2) (fun h => absurd h.1 hR0))
    clear HP hR0 HR
    go_wp2
    go_ret
    exact ⟨rfl, F.out⟩
end Go.Proofs.YtbejmdlncnkaaaaGreat
