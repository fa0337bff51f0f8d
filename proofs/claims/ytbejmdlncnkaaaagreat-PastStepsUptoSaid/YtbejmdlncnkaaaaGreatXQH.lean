/-
  The reference of the past: Held. Headers of tables that lie as they did.
-/
import Derived.Test.YtbejmdlncnkaaaaGreatFuD
import Derived.Test.YtbejmdlncnkaaaaGreatRfZ
import Derived.Test.YtbejmdlncnkaaaaGreatPaB
import Derived.Test.YtbejmdlncnkaaaaGreatQP
set_option maxRecDepth 100000
set_option maxHeartbeats 16000000
set_option linter.unusedSimpArgs false
namespace Go.Proofs.YtbejmdlncnkaaaaGreat
section
open Go.RowKit
theorem held75 {cf : V -> V -> Int} (hRC : RCtx cf) {w : World} {v1 v2 : Value} {nt : Bool} {a b : Tb} (h1 : RdTab w v1 a) (h2 : RdTab w v2 b) (ha : Fits V.wf a) (hb : Fits V.wf b) (hlight : a.rows.length * b.rows.length <= 1000000000) :
  Calls Tryz.prog 75 #[v1, v2, .bool nt] w fun e w' => ∃ v, e = .returned v /\ OwnTab w w' v (holdT cf nt a b) := by
 obtain ⟨va, vb, hs, rfl, hv, hr⟩ := h1.ex
 obtain ⟨a1, a2, rfl, _, _⟩ := hv.rd.shape
 obtain ⟨a3, a4, rfl, _, _⟩ := hr.rd.shape
 obtain ⟨va, vb, hs2, rfl, hv2, hr2⟩ := h2.ex
 obtain ⟨b1, b2, rfl, _, _⟩ := hv2.rd.shape
 obtain ⟨b3, b4, rfl, _, _⟩ := hr2.rd.shape
 have f1 := (((World.Fr.refl w []).alloc (.cells #[.slice a1 a.vars.length a2, .slice a3 hs.length a4] 34)).alloc (.cells #[.slice b1 b.vars.length b2, .slice b3 hs2.length b4] 34)).alloc (.cells #[.slice none 0 0, .slice none 0 0] 34)
 have q1 := heap_alloc_some (heap_alloc_some (heap_alloc_at w (.cells #[.slice a1 a.vars.length a2, .slice a3 hs.length a4] 34) _ rfl) (.cells #[.slice b1 b.vars.length b2, .slice b3 hs2.length b4] 34)) (.cells #[.slice none 0 0, .slice none 0 0] 34)
 have q2 := heap_alloc_some (heap_alloc_at (w.alloc (.cells #[.slice a1 a.vars.length a2, .slice a3 hs.length a4] 34)) (.cells #[.slice b1 b.vars.length b2, .slice b3 hs2.length b4] 34) (w.heap.size + 1) (by simp)) (.cells #[.slice none 0 0, .slice none 0 0] 34)
 have q3 := heap_alloc_at ((w.alloc (.cells #[.slice a1 a.vars.length a2, .slice a3 hs.length a4] 34)).alloc (.cells #[.slice b1 b.vars.length b2, .slice b3 hs2.length b4] 34)) (.cells #[.slice none 0 0, .slice none 0 0] 34) (w.heap.size + 2) (by simp)
 obtain ⟨n1, hn1⟩ : ∃ n, hs.length = n := ⟨_, rfl⟩
 obtain ⟨n2, hn2⟩ : ∃ n, hs2.length = n := ⟨_, rfl⟩
 rw [hn1] at h1
 rw [hn2] at h2
 rw [hn1, hn2] at f1 q1 q2 q3
 rw [hn1, hn2]
 have HRC := Hz hRC; have H1 := Hz (h1.still f1); have H2 := Hz (h2.still f1); have HA := Hz ha; have HB := Hz hb; have HL := Hz hlight; have F := Hz f1; have Q3 := Hz q3
 have hsz : w.heap.size + 2 < (((w.alloc (.cells #[.slice a1 a.vars.length a2, .slice a3 n1 a4] 34)).alloc (.cells #[.slice b1 b.vars.length b2, .slice b3 n2 b4] 34)).alloc (.cells #[.slice none 0 0, .slice none 0 0] 34)).heap.size := lt_of_heap q3
 have Hsz := Hz hsz
 clear hRC h1 h2 ha hb hlight hv hr hv2 hr2 hn1 hn2 f1 hsz
 go_enter Tryz.func75, Tryz.ntmps75
 go_upto_region 1 with (fail)
 generalize hW : World.alloc (World.alloc (World.alloc w _) _) _ = W at *
 clear hW
 obtain ⟨x0, x1, xf⟩ := two q1
 obtain ⟨y0, y1, yf⟩ := two q2
 have z1 := lt_of_heap q1
 have z2 := lt_of_heap q2
 clear q1 q2 q3
 cases nt with
 | true =>
  have hc := Hz (ranti27 HRC.out.rk HRC.out.rc HRC.out.ord H1.out H2.out HA.out HB.out)
  go_wp2_with fail
  (with_reducible refine hc.out.mono ?_)
  rintro e w1 ⟨u, rfl, ho⟩
  obtain ⟨t1, t2, t3, t4, rfl⟩ := ho.shape
  have q3 := heap_alloc_some (ho.fr.heap Q3.out (by simp)) (.cells #[.slice t1 (antiT cf a b).2.vars.length t2, .slice t3 (antiT cf a b).2.rows.length t4] 34)
  have q7 := heap_alloc_at w1 (.cells #[.slice t1 (antiT cf a b).2.vars.length t2, .slice t3 (antiT cf a b).2.rows.length t4] 34) _ rfl
  have hput := ((ho.stay ((World.Fr.refl w1 []).alloc (.cells #[.slice t1 (antiT cf a b).2.vars.length t2, .slice t3 (antiT cf a b).2.rows.length t4] 34))).since F.out).put q3 (by omega)
  obtain ⟨f0, f1, _⟩ := two hput.2
  obtain ⟨p0, p1, pf⟩ := two q7
  obtain ⟨r0, r1, rf⟩ := two q3
  have hz3 := lt_of_heap q3
  have hz7 := lt_of_heap q7
  have Hfin := Hz hput.1
  clear hput q3 q7 ho hc x0 x1 xf y0 y1 yf z1 z2
  go_wp2
  refine bodyPost_ret (v := .agg #[.slice t1 _ t2, .slice t3 _ t4]) (by simp [results, Tryz.results75, go_sem, f0, f1]) rfl ⟨_, rfl, (show OwnTab _ _ _ (antiT cf a b).2 from Hfin.out)⟩
 | false =>
  have hc := Hz (rjoin25 HRC.out.rk HRC.out.rc HRC.out.ord H1.out H2.out HA.out HB.out HL.out)
  go_wp2_with fail
  (with_reducible refine hc.out.mono ?_)
  rintro e w1 ⟨u, rfl, ho⟩
  obtain ⟨t1, t2, t3, t4, rfl⟩ := ho.shape
  have q3 := heap_alloc_some (ho.fr.heap Q3.out (by simp)) (.cells #[.slice t1 (joinT cf a b).2.vars.length t2, .slice t3 (joinT cf a b).2.rows.length t4] 34)
  have q7 := heap_alloc_at w1 (.cells #[.slice t1 (joinT cf a b).2.vars.length t2, .slice t3 (joinT cf a b).2.rows.length t4] 34) _ rfl
  have hput := ((ho.stay ((World.Fr.refl w1 []).alloc (.cells #[.slice t1 (joinT cf a b).2.vars.length t2, .slice t3 (joinT cf a b).2.rows.length t4] 34))).since F.out).put q3 (by omega)
  obtain ⟨f0, f1, _⟩ := two hput.2
  obtain ⟨p0, p1, pf⟩ := two q7
  obtain ⟨r0, r1, rf⟩ := two q3
  have hz3 := lt_of_heap q3
  have hz7 := lt_of_heap q7
  have Hfin := Hz hput.1
  clear hput q3 q7 ho hc x0 x1 xf y0 y1 yf z1 z2
  go_wp2
  refine bodyPost_ret (v := .agg #[.slice t1 _ t2, .slice t3 _ t4]) (by simp [results, Tryz.results75, go_sem, f0, f1]) rfl ⟨_, rfl, (show OwnTab _ _ _ (joinT cf a b).2 from Hfin.out)⟩
end
section
open Go.RowKit
structure Hdr (w0 w : World) (v : Value) (ts : List Tb) : Prop where
 ex : ∃ hd : List (Value × Value), w.Sl 34 2 v ts.length (hd.flatMap fun x => [x.1, x.2]) /\ hd.length = ts.length /\ ∀ (i : Nat) (x : Value × Value) (t : Tb), hd[i]? = some x -> ts[i]? = some t -> RdTab w0 (.agg #[x.1, x.2]) t
theorem Hdr.fr {w0 w w' : World} {v : Value} {ts : List Tb} {M : List Nat} (h : Hdr w0 w v ts) (hf : w.Fr w' M) (hd : ∀ k, k ∈ v.blk -> k ∉ M) : Hdr w0 w' v ts := by
 obtain ⟨hs, h1, h2, h3⟩ := h.ex
 exact ⟨hs, h1.fr hf hd, h2, h3⟩
theorem Hdr.still {w0 w w' : World} {v : Value} {ts : List Tb} (h : Hdr w0 w v ts) (hf : w.Fr w' []) : Hdr w0 w' v ts := h.fr hf (by simp)
theorem Hdr.nil (w0 w : World) : Hdr w0 w (.slice none 0 0) [] := ⟨[], World.Sl.nil _ _ _, rfl, by simp⟩
theorem Hdr.shape {w0 w : World} {v : Value} {ts : List Tb} (h : Hdr w0 w v ts) : ∃ a c, v = .slice a ts.length c := by
 obtain ⟨hs, h1, h2, h3⟩ := h.ex
 obtain ⟨a, c, e, _⟩ := h1.shape
 exact ⟨a, c, e⟩
theorem flatH {D : List (Value × Value)} {j : Nat} {d : Value × Value} (h : D[j]? = some d) : (D.flatMap fun x => [x.1, x.2])[j * 2]? = some d.1 /\ (D.flatMap fun x => [x.1, x.2])[j * 2 + 1]? = some d.2 := by
 induction D generalizing j with
 | nil => simp at h
 | cons a t ih =>
  cases j with
  | zero => simp at h; subst h; simp
  | succ j =>
   have h' : t[j]? = some d := by simpa using h
   obtain ⟨i1, i2⟩ := ih h'
   simp only [List.flatMap_cons]
   rw [List.getElem?_append_right (by show 2 <= (j + 1) * 2; omega), List.getElem?_append_right (by show 2 <= (j + 1) * 2 + 1; omega)]
   have e1 : (j + 1) * 2 - [a.1, a.2].length = j * 2 := by simp; omega
   have e2 : (j + 1) * 2 + 1 - [a.1, a.2].length = j * 2 + 1 := by simp; omega
   rw [e1, e2]
   exact ⟨i1, i2⟩
theorem RdTab.forms {w : World} {a b : Value} {t : Tb} (h : RdTab w (.agg #[a, b]) t) : ∃ x1 x2 x3 x4, a = .slice x1 t.vars.length x2 /\ b = .slice x3 t.rows.length x4 := by
 obtain ⟨va, vb, hs, he, hv, hr⟩ := h.ex
 cases he
 obtain ⟨a1, a2, rfl, _, _⟩ := hv.rd.shape
 obtain ⟨a3, a4, rfl, _, _⟩ := hr.rd.shape
 exact ⟨a1, a2, a3, a4, rfl, by rw [hr.len]⟩
theorem Hdr.at {w0 w : World} {v : Value} {ts : List Tb} (h : Hdr w0 w v ts) {j : Nat} {t : Tb} (hj : ts[j]? = some t) : ∃ g off c x1 x2 x3 x4, v = .slice (some ⟨g, off, none⟩) ts.length c /\ g < w.heap.size /\ w.cell? ⟨g, off + j * 2, none⟩ = some (.slice x1 t.vars.length x2) /\ w.cell? ⟨g, off + j * 2 + 1, none⟩ = some (.slice x3 t.rows.length x4) /\ RdTab w0 (.agg #[.slice x1 t.vars.length x2, .slice x3 t.rows.length x4]) t := by
 obtain ⟨hs, h1, h2, h3⟩ := h.ex
 have hl := (List.getElem?_eq_some_iff.1 hj).1
 obtain ⟨x, hx⟩ : ∃ x, hs[j]? = some x := ⟨hs[j]'(by omega), List.getElem?_eq_getElem _⟩
 have hr := h3 j x t hx hj
 obtain ⟨x1, x2, x3, x4, e1, e2⟩ := hr.forms
 obtain ⟨g, off, c, he, _, _, hg, hc, _⟩ := h1.form (by omega)
 obtain ⟨f1, f2⟩ := flatH hx
 have c1 := hc (j * 2) (by omega)
 have c2 := hc (j * 2 + 1) (by omega)
 rw [f1, e1] at c1
 rw [f2, e2] at c2
 rw [e1, e2] at hr
 exact ⟨g, off, c, x1, x2, x3, x4, he, hg, c1, by rw [Nat.add_assoc]; exact c2, hr⟩
theorem Hdr.push {w0 w w' : World} {v v' a b : Value} {ts : List Tb} {t : Tb} (h : Hdr w0 w v ts) (hs : ∀ hd : List (Value × Value), w.Sl 34 2 v ts.length (hd.flatMap fun x => [x.1, x.2]) -> w'.Sl 34 2 v' (ts.length + 1) ((hd.flatMap fun x => [x.1, x.2]) ++ [a, b])) (ht : RdTab w0 (.agg #[a, b]) t) : Hdr w0 w' v' (ts ++ [t]) := by
 obtain ⟨hd, h1, h2, h3⟩ := h.ex
 refine ⟨hd ++ [(a, b)], by simpa using hs hd h1, by simp [h2], fun i x t' e1 e2 => ?_⟩
 rcases Nat.lt_or_ge i hd.length with hi | hi
 ·rw [List.getElem?_append_left hi] at e1
  rw [List.getElem?_append_left (by omega)] at e2
  exact h3 i x t' e1 e2
 ·rw [List.getElem?_append_right hi] at e1
  rw [List.getElem?_append_right (by omega)] at e2
  have hz : i - hd.length = 0 := by have := (List.getElem?_eq_some_iff.1 e1).1; simp at this; omega
  rw [hz] at e1
  rw [show i - ts.length = 0 by omega] at e2
  simp at e1 e2
  subst e1 e2
  exact ht
theorem World.Sl.cut {w : World} {e : TypeId} {size n c : Nat} {a : Option Addr} {xs : List Value} (h : w.Sl e size (.slice a n c) n xs) : w.Sl e size (.slice a n n) n xs := by
 refine ⟨h.1, ?_⟩
 rcases h.2 with ⟨he, h0⟩ | ⟨g, off, cap, cur, he, hg, h1, h2, h3, h4⟩
 ·cases he
  exact .inl ⟨rfl, rfl⟩
 ·cases he
  exact .inr ⟨g, off, n, cur, rfl, hg, Nat.le_refl _, Nat.le_trans h1 h2, by have := Nat.mul_le_mul_right size h1; omega, h4⟩
theorem Sl.ty {w : World} {e : TypeId} {size n : Nat} {v : Value} {xs : List Value} (h : w.Sl e size v n xs) : ∀ k, k ∈ v.blk -> ∃ cs, w.heap[k]? = some (.cells cs e (0, 0)) := by
 intro k hk
 rcases h.2 with ⟨rfl, _⟩ | ⟨g, off, cap, cur, rfl, hg, _⟩
 ·simp [Value.blk] at hk
 ·simp [Value.blk] at hk
  subst hk
  exact ⟨_, hg⟩
theorem Sl.apart {w : World} {e e' : TypeId} {size n size' n' : Nat} {v v' : Value} {xs xs' : List Value} (h : w.Sl e size v n xs) (h' : w.Sl e' size' v' n' xs') (hne : e ≠ e') : ∀ k, k ∈ v.blk -> k ∉ v'.blk := by
 intro k hk hk'
 obtain ⟨c1, h1⟩ := Sl.ty h k hk
 obtain ⟨c2, h2⟩ := Sl.ty h' k hk'
 rw [h1] at h2
 cases h2
 exact hne rfl
theorem Sl.off_box {w : World} {e T : TypeId} {size n g : Nat} {v : Value} {xs : List Value} {cs : Array Value} (h : w.Sl e size v n xs) (hg : w.heap[g]? = some (.cells cs T (0, 0))) (hne : e ≠ T) : g ∉ v.blk := by
 intro hk
 obtain ⟨c1, h1⟩ := Sl.ty h g hk
 rw [h1] at hg
 cases hg
 exact hne rfl
theorem Hdr.sl {w0 w : World} {v : Value} {ts : List Tb} (h : Hdr w0 w v ts) : ∃ xs, w.Sl 34 2 v ts.length xs := by
 obtain ⟨hd, h1, _⟩ := h.ex
 exact ⟨_, h1⟩
theorem rdns_one {w : World} {g : Nat} {a : Value} {l : List BA} (hg : w.heap[g]? = some (.cells #[a] 24 (0, 0))) (h : RdStr w a l) : RdNs w (.slice (some ⟨g, 0, none⟩) 1 1) [l] := by
 have hs : w.Sl 24 1 (.slice (some ⟨g, 0, none⟩) 1 1) 1 [a] := ⟨by simp, .inr ⟨g, 0, 1, _, rfl, hg, Nat.le_refl _, by simp [maxLen], by simp, by simp⟩⟩
 refine ⟨[a], rfl, hs.rd, fun i x l' e1 e2 => ?_⟩
 cases i with
 | zero => simp at e1 e2; subst e1 e2; exact h
 | succ i => simp at e1
theorem rdns_two {w : World} {g : Nat} {a b : Value} {l m : List BA} (hg : w.heap[g]? = some (.cells #[a, b] 24 (0, 0))) (h1 : RdStr w a l) (h2 : RdStr w b m) : RdNs w (.slice (some ⟨g, 0, none⟩) 2 2) [l, m] := by
 have hs : w.Sl 24 1 (.slice (some ⟨g, 0, none⟩) 2 2) 2 [a, b] := ⟨by simp, .inr ⟨g, 0, 2, _, rfl, hg, Nat.le_refl _, by simp [maxLen], by simp, by simp⟩⟩
 refine ⟨[a, b], rfl, hs.rd, fun i x l' e1 e2 => ?_⟩
 match i with
 | 0 => simp at e1 e2; subst e1 e2; exact h1
 | 1 => simp at e1 e2; subst e1 e2; exact h2
 | i + 2 => simp at e1
theorem OwnTab.sl {w0 w : World} {v : Value} {t : Tb} (h : OwnTab w0 w v t) : TabIn anyB w v t := h.inn fun _ _ _ => trivial
def TT (w0 w : World) (v : Value) (t : Tb) : Prop := RdTab w0 v t ∨ TabIn anyB w v t
theorem TT.rd {w0 w : World} {v : Value} {t : Tb} (h : TT w0 w v t) (hf : w0.Fr w []) : RdTab w v t := h.elim (fun h => h.still hf) (fun h => h.rd)
theorem TT.fr {w0 w w' : World} {v : Value} {t : Tb} {M : List Nat} (h : TT w0 w v t) (hf : w.Fr w' M) (hM : Odd w M) : TT w0 w' v t := h.elim .inl (fun h => .inr (h.fr hf hM))
theorem TT.still {w0 w w' : World} {v : Value} {t : Tb} (h : TT w0 w v t) (hf : w.Fr w' []) : TT w0 w' v t := h.elim .inl (fun h => .inr (h.still hf))
end
end Go.Proofs.YtbejmdlncnkaaaaGreat
