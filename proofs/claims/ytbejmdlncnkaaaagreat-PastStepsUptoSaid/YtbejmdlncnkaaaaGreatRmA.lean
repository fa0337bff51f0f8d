/-
  The document's names: find, unlike, picked. The document's picked: a row's values for some variables. The document's merged: two lists of rows that rise, as one, each row once. The document's sorted: rows so that they rise, each once. The document's rising: names in order.
-/
import Derived.Test.YtbejmdlncnkaaaaGreatMad
import Derived.Test.YtbejmdlncnkaaaaGreatKys
import Derived.Test.YtbejmdlncnkaaaaGreatRvs
import Derived.Test.YtbejmdlncnkaaaaGreatRsr
set_option maxRecDepth 100000
set_option maxHeartbeats 16000000
set_option linter.unusedSimpArgs false
namespace Go.Proofs.YtbejmdlncnkaaaaGreat
section
open Go.RowKit
theorem rfind81 {w : World} {v : Value} {l : List BA} (x : BA) (h : RdStr w v l) (hl : l.length <= 8000000000000000000) :
  Calls Tryz.prog 171 #[v, .string x] w fun e w' => e = .returned (.int .i64 (idx l x)) /\ w = w' := by
 obtain ⟨a1, c1, rfl, _, _⟩ := h.rd.shape
 have H := Hz h; have Hl := Hz hl; clear h hl
 generalize hR : idx l x = R
 have HR := Hz hR; clear hR
 go_enter Tryz.func171, Tryz.ntmps171
 go_wp2
 go_loopw [5] (fun i wr => ∃ j : Nat, i = .int .i64 j /\ j <= l.length /\ Hid (∀ (i : Nat) (a : BA), i < j -> l[i]? = some a -> (x.toList == a.toList) = false) /\ wr = w) (fun i _ => (l.length - intOf i).toNat)
 case atStart => exact ⟨0, rfl, Nat.zero_le _, Hz (fun i a hi => by omega), rfl⟩
 case round =>
  obtain ⟨j, rfl, hj, HA, rfl⟩ := hrel
  by_cases hlt : j < l.length
  ·obtain ⟨y, hy⟩ : ∃ y, l[j]? = some y := ⟨l[j], List.getElem?_eq_getElem (by omega)⟩
   obtain ⟨g, off, c, hv, hg, kx⟩ := H.out.at hy
   cases hv
   have hrI : (j : Int) < (l.length : Int) := by omega
   have hw1 : IntKind.i64.wrap ((j : Int) + 1) = (j : Int) + 1 := IntWalk.i64_in _ (by have := Hl.out; omega)
   have Hy := Hz hy; clear hy
   have hyx : (y.toList == x.toList) = (x.toList == y.toList) := by rw [Bool.eq_iff_iff, beq_iff_eq, beq_iff_eq]; exact eq_comm
   cases hxy : x.toList == y.toList with
   | true =>
    rw [hxy] at hyx
    have hres : R = (j : Int) := by rw [<- HR.out]; exact idx_at j Hy.out hxy HA.out
    subst hres
    go_wp2
    go_ret
    exact ⟨rfl, rfl⟩
   | false =>
    rw [hxy] at hyx
    have Hxy := Hz hxy
    go_wp2
    go_roundw
    case rel => exact ⟨j + 1, by go_num, by omega, Hz (fun k a hk ha => by
     rcases Nat.lt_or_ge k j with h | h
     ·exact HA.out k a h ha
     ·obtain rfl : k = j := by omega
      rw [Hy.out] at ha
      cases ha; exact Hxy.out), trivial⟩
    case measure => simp [intOf]; omega
  ·have hres : R = -1 := by
    rw [<- HR.out]
    exact idx_neg (fun y hy => by
     obtain ⟨i, hi⟩ := List.getElem?_of_mem hy
     exact HA.out i y (by have := (List.getElem?_eq_some_iff.1 hi).1; omega) hi)
   have hd : decide ((j : Int) < (l.length : Int)) = false := decide_eq_false (by omega)
   have hd2 : decide (j < l.length) = false := decide_eq_false hlt
   subst hres
   clear HA hlt hj HR
   go_wp2
   go_ret
   exact ⟨rfl, rfl⟩
theorem rd_take {w : World} {size g off n cap j : Nat} {xs : List Value} (h : w.Rd size (.slice (some ⟨g, off, none⟩) n cap) n xs) (hj : j <= n) : w.Rd size (.slice (some ⟨g, off, none⟩) j cap) j (xs.take (j * size)) := by
 have hle := Nat.mul_le_mul_right size hj
 refine ⟨by rw [List.length_take, h.1]; omega, ?_⟩
 rcases h.2 with ⟨h0, a, c, he, hm⟩ | ⟨g', off', cap', he, hc, hm, hg, hcell⟩
 ·cases he
  exact .inl ⟨by omega, _, _, by rw [show j = 0 by omega], hm⟩
 ·cases he
  refine .inr ⟨_, _, _, rfl, by omega, hm, hg, fun k hk => ?_⟩
  rw [hcell k (by omega), List.getElem?_take_of_lt hk]
theorem str_take {w : World} {g off cap j : Nat} {l : List BA} (h : RdStr w (.slice (some ⟨g, off, none⟩) l.length cap) l) (hj : j <= l.length) : RdStr w (.slice (some ⟨g, off, none⟩) (l.take j).length cap) (l.take j) := by
 have h1 := rd_take h.rd hj
 rw [Nat.mul_one, <- List.map_take] at h1
 have e : (l.take j).length = j := by simp; omega
 refine ⟨?_, fun s hs => h.wf s (List.mem_of_mem_take hs)⟩
 rw [e]; exact h1
theorem nodup_take_succ {l : List BA} {j : Nat} {x : BA} (hx : l[j]? = some x) (hn : (l.take j).Nodup) (h : x ∉ l.take j) : (l.take (j + 1)).Nodup := by
 have hj := (List.getElem?_eq_some_iff.1 hx).1
 rw [List.take_succ_eq_append_getElem hj, (List.getElem?_eq_some_iff.1 hx).2, List.nodup_append]
 refine ⟨hn, by simp, fun a ha b hb => ?_⟩
 simp at hb
 subst hb
 exact fun e => h (e ▸ ha)
theorem not_nodup {l : List BA} {j : Nat} {x : BA} (hx : l[j]? = some x) (h : x ∈ l.take j) : ¬ l.Nodup := fun hn => by
 have hj := (List.getElem?_eq_some_iff.1 hx).1
 have h2 : (l.take (j + 1)).Nodup := hn.sublist (List.take_sublist _ _)
 rw [List.take_succ_eq_append_getElem hj, (List.getElem?_eq_some_iff.1 hx).2, List.nodup_append] at h2
 exact h2.2.2 x h x (by simp) rfl
theorem runlike80 {w : World} {v : Value} {l : List BA} (h : RdStr w v l) (hl : l.length <= 8000000000000000000) :
  Calls Tryz.prog 126 #[v] w fun e w' => e = .returned (.bool (decide l.Nodup)) /\ w.Fr w' [] := by
 obtain ⟨a1, c1, rfl, hc1, _⟩ := h.rd.shape
 have H := Hz h; have Hl := Hz hl; clear h hl
 generalize hR : decide l.Nodup = R
 have HR := Hz hR; clear hR
 go_enter Tryz.func126, Tryz.ntmps126
 go_wp2
 go_loopw [3] (fun i wr => ∃ j : Nat, i = .int .i64 j /\ j <= l.length /\ Hid (l.take j).Nodup /\ Hid (w.Fr wr [])) (fun i _ => (l.length - intOf i).toNat)
 case atStart => exact ⟨0, rfl, Nat.zero_le _, Hz (by simp), Hz (World.Fr.refl w [])⟩
 case round =>
  obtain ⟨j, rfl, hj, HA, HF⟩ := hrel
  by_cases hlt : j < l.length
  ·obtain ⟨y, hy⟩ : ∃ y, l[j]? = some y := ⟨l[j], List.getElem?_eq_getElem (by omega)⟩
   obtain ⟨g, off, c, hv, hg, kx⟩ := (H.out.fr HF.out (by simp)).at hy
   cases hv
   have hrI : (j : Int) < (l.length : Int) := by omega
   have hw1 : IntKind.i64.wrap ((j : Int) + 1) = (j : Int) + 1 := IntWalk.i64_in _ (by have := Hl.out; omega)
   have hlen : (l.take j).length = j := by simp; omega
   have hc := fun w' (hf : wr.Fr w' []) => rfind81 (w := w') y ((str_take (H.out.fr HF.out (by simp)) hj).fr hf (by simp)) (by rw [hlen]; have := Hl.out; omega)
   rw [hlen] at hc
   have him := idx_mem (l := l.take j) (x := y)
   generalize hix : idx (l.take j) y = ix at *
   have Hc := Hz hc; have Hy := Hz hy; have Him := Hz him; clear hc hy him hix
   have hq : ∀ n, Calls Tryz.prog 171 #[.slice (some ⟨g, off, none⟩) j c1, .string y] (wr.drewN n) fun e w' => e = .returned (.int .i64 ix) /\ w' = wr.drewN n := fun n => (Hc.out (wr.drewN n) ((World.Fr.refl wr []).of_drewN n)).mono fun e w' ⟨h1, h2⟩ => ⟨h1, h2.symm⟩
   have hcap : j <= c1 := by omega
   have hcI : (j : Int) <= (c1 : Int) := by omega
   have hnn : (0 : Int) <= (j : Int) := by omega
   by_cases h0 : 0 <= ix
   ·have hd : decide ((0 : Int) <= ix) = true := decide_eq_true h0
    have hr : R = false := by rw [<- HR.out]; exact decide_eq_false (not_nodup Hy.out (Him.out.1 h0))
    subst hr
    clear h0
    go_wp2
    go_quiet (first | (go_at_call 171; with_reducible exact Calls.quiet_of_same (hq _)))
    go_wp2
    go_ret
    exact ⟨rfl, HF.out.of_drewN _⟩
   ·have hd : decide ((0 : Int) <= ix) = false := decide_eq_false h0
    have hn := nodup_take_succ Hy.out HA.out (fun h => h0 (Him.out.2 h))
    have Hn := Hz hn
    clear h0 hn
    go_wp2
    go_quiet (first | (go_at_call 171; with_reducible exact Calls.quiet_of_same (hq _)))
    go_wp2
    go_roundw
    case rel => exact ⟨j + 1, by go_num, by omega, Hn, Hz (HF.out.of_drewN _)⟩
    case measure => simp [intOf]; omega
  ·have hd : decide ((j : Int) < (l.length : Int)) = false := decide_eq_false (by omega)
   have hd2 : decide (j < l.length) = false := decide_eq_false hlt
   obtain rfl : j = l.length := by omega
   have hn := HA.out
   rw [List.take_of_length_le (Nat.le_refl _)] at hn
   have hr : R = true := by rw [<- HR.out]; exact decide_eq_true hn
   subst hr
   clear hn HA
   go_wp2
   go_ret
   exact ⟨rfl, HF.out⟩
end
section
open Go.RowKit
theorem rpicked76 {w : World} {v1 v2 v3 : Value} {l want : List BA} {r : Row} (h1 : RdStr w v1 l) (h2 : RdRow w v2 r) (h3 : RdStr w v3 want) (hl : l.length <= 8000000000000000000) (hrl : r.length = l.length) (hin : ∀ x, x ∈ want -> x ∈ l) (hwl : want.length <= 3518437208780) :
  Calls Tryz.prog 134 #[v1, v2, v3] w fun e w' => ∃ u, e = .returned u /\ OwnRow w w' u (pick l r want) := by
 obtain ⟨a1, c1, rfl, _, _⟩ := h1.rd.shape
 obtain ⟨a2, c2, rfl, _, _⟩ := h2.rd.shape
 obtain ⟨a3, c3, rfl, _, _⟩ := h3.rd.shape
 have H1 := Hz h1; have H2 := Hz h2; have H3 := Hz h3; have Hl := Hz hl; have Hrl := Hz hrl; have Hin := Hz hin; have Hwl := Hz hwl; clear h1 h2 h3 hl hrl hin hwl
 have HO0 : Hid (OwnRow w w (.slice none 0 0) (pick l r (want.take 0))) := Hz ⟨World.Sl.nil _ _ _, by simp [Value.blk], World.Fr.refl _ _⟩
 go_enter Tryz.func134, Tryz.ntmps134
 go_wp2
 go_loopw [8, 7] (fun i v wr => ∃ (k : Nat), i = .int .i64 k /\ k <= want.length /\ Hid (OwnRow w wr v (pick l r (want.take k)))) (fun i _ _ => (want.length - intOf i).toNat)
 case atStart => exact ⟨0, rfl, Nat.zero_le _, HO0⟩
 case round =>
  obtain ⟨k, rfl, hk, HO⟩ := hrel
  have hkl : (pick l r (want.take k)).length = k := by rw [pick_len]; simp; omega
  obtain ⟨ya, yc, hyv, _, _⟩ := HO.out.sl.shape
  subst hyv
  have hO := HO.out
  rw [hkl] at hO ⊢
  clear HO HO0
  by_cases hkt : k < want.length
  ·obtain ⟨x, hx⟩ : ∃ x, want[k]? = some x := ⟨want[k], List.getElem?_eq_getElem hkt⟩
   have hkI : (k : Int) < (want.length : Int) := by omega
   have hw2 : IntKind.i64.wrap ((k : Int) + 1) = (k : Int) + 1 := IntWalk.i64_in _ (by have := Hwl.out; omega)
   obtain ⟨p, hp⟩ : ∃ p : Nat, idx l x = p := ⟨(idx l x).toNat, by have := idx_mem.2 (Hin.out x (List.mem_of_getElem? hx)); omega⟩
   have hpr := idx_range l x
   rw [hp] at hpr
   have hsn : pick l r (want.take (k + 1)) = pick l r (want.take k) ++ [r.getD p default] := by
    rw [List.take_succ_eq_append_getElem hkt, (List.getElem?_eq_some_iff.1 hx).2]
    simp [pick, hp]
   have hry : r[p]? = some (r.getD p default) := by
    have : p < r.length := by have := Hrl.out; omega
    rw [List.getD_eq_getElem?_getD, List.getElem?_eq_getElem this]; rfl
   have hrow3 := H2.out.fr hO.fr (by simp)
   obtain ⟨g2, off2, c2', hv2, hg2, ky0, ky1, ky2, ky3⟩ := hrow3.at hry
   cases hv2
   obtain ⟨g4, off4, c4, hv4, hg4, kx⟩ := (H3.out.fr hO.fr (by simp)).at hx
   cases hv4
   have hf := rfind81 x (H1.out.fr hO.fr (by simp)) Hl.out
   rw [hp] at hf
   have Hf := Hz hf; have Hsn := Hz hsn; have Hkl := Hz hkl; have HO2 := Hz hO
   have hrlI : (p : Int) < (r.length : Int) := by rw [Hrl.out]; exact hpr.2
   clear hf hsn hkl hO hry hrow3 hx hp hpr
   generalize r.getD p default = y at *
   generalize pick l r (want.take k) = ys at *
   have hroom : k < 3518437208780 := by have := Hwl.out; omega
   have hsly := HO2.out.sl
   rw [Hkl.out] at hsly
   have hgl : g2 < wr.heap.size + 1 := by omega
   have Hsly := Hz hsly; clear hsly
   go_wp2_with fail
   (with_reducible refine Hf.out.mono ?_)
   rintro e w9 ⟨rfl, rfl⟩
   obtain ⟨iv, hiv, hv0, hv1, hv2⟩ := info_parts infoV
   go_wp2_with (at_builtin; refine wpList_append_one _ rfl (.tmp 22) (.tmp 27) 81 rfl 83 iv (.agg #[.int .i64 0, .int .i64 0, .int .i64 0, .string .empty]) 4 40 Tryz.underlying81 hiv hv0 hv1 hv2 rfl (.slice ya k yc) k (ys.flatMap V.enc) rfl (Hsly.out.alloc _) wr.heap.size 1 (V.enc y) 83 rfl (heap_alloc_at _ _ _ rfl) rfl rfl ⟨by omega, by omega⟩ ?_)
   intro g3 off3 c3 w5 hsl hfr3 hat hlt3
   have hown := (HO2.out.still ((World.Fr.refl wr []).alloc (.cells (V.enc y).toArray 83))).appended (y := y) (g := g3) (off := off3) (c := c3) (by rw [Hkl.out]; exact hsl) hfr3 (by simpa using hat)
   rw [Hkl.out, <- Hsn.out] at hown
   have Hown := Hz hown; clear hown hsl hfr3 hat ky0 ky1 ky2 ky3 kx hlt3
   go_wp2
   go_roundw
   case rel => exact ⟨k + 1, by go_num, by omega, Hown⟩
   case measure => simp [intOf]; omega
  ·have hd : decide ((k : Int) < (want.length : Int)) = false := decide_eq_false (by omega)
   have hd2 : decide (k < want.length) = false := decide_eq_false hkt
   obtain rfl : k = want.length := by omega
   rw [List.take_of_length_le (Nat.le_refl _)] at hO hkl
   have HRn := Hz hO
   clear hO hkt hk hkl
   go_wp2
   go_ret
   exact ⟨_, rfl, HRn.out⟩
end
section
open Go.RowKit
def mergeP (cf : V -> V -> Int) : List HR -> List HR -> List HR
 | [], q => q
 | p, [] => p
 | a :: p, b :: q => if rcmp cf a.2 b.2 < 0 then a :: mergeP cf p (b :: q) else if 0 < rcmp cf a.2 b.2 then b :: mergeP cf (a :: p) q else a :: mergeP cf p q
termination_by p q => p.length + q.length
theorem mergeP_nil (cf : V -> V -> Int) (q : List HR) : mergeP cf [] q = q := by unfold mergeP; cases q <;> rfl
theorem mergeP_nil2 (cf : V -> V -> Int) (p : List HR) : mergeP cf p [] = p := by unfold mergeP; cases p <;> rfl
theorem mergeP_cons (cf : V -> V -> Int) (a b : HR) (p q : List HR) : mergeP cf (a :: p) (b :: q) = if rcmp cf a.2 b.2 < 0 then a :: mergeP cf p (b :: q) else if 0 < rcmp cf a.2 b.2 then b :: mergeP cf (a :: p) q else a :: mergeP cf p q := by
 conv => lhs; unfold mergeP
theorem rdrows_pair {w : World} {v : Value} {p : List HR} (h : RdRows w v (p.map (·.2)) (p.map (·.1))) {i : Nat} {x : HR} (hx : p[i]? = some x) : ∃ g off c ax mx, v = .slice (some ⟨g, off, none⟩) p.length c /\ g < w.heap.size /\ w.cell? ⟨g, off + i, none⟩ = some (.slice ax x.2.length mx) /\ x.1 = .slice ax x.2.length mx /\ RdRow w (.slice ax x.2.length mx) x.2 := by
 have e1 : (p.map (·.1))[i]? = some x.1 := by rw [List.getElem?_map, hx]; rfl
 have e2 : (p.map (·.2))[i]? = some x.2 := by rw [List.getElem?_map, hx]; rfl
 have hrow := h.row i x.1 x.2 e1 e2
 obtain ⟨ax, mx, hv, _, _⟩ := hrow.rd.shape
 have hi := (List.getElem?_eq_some_iff.1 hx).1
 obtain ⟨g, off, c, hve, _, _, hg, hcell⟩ := h.rd.form (by rw [List.length_map]; omega)
 rw [List.length_map] at hve
 refine ⟨g, off, c, ax, mx, hve, hg, ?_, hv, hv ▸ hrow⟩
 rw [hcell i (by rw [List.length_map, Nat.mul_one]; exact hi), e1, hv]
theorem rmerged122 {okv : V -> Prop} {cf : V -> V -> Int} (hC : RCmpOk okv cf) {w : World} {v1 v2 : Value} {p q : List HR} (h1 : RdRows w v1 (p.map (·.2)) (p.map (·.1))) (h2 : RdRows w v2 (q.map (·.2)) (q.map (·.1)))
  (ho1 : ∀ x, x ∈ p -> (∀ y, y ∈ x.2 -> okv y) /\ x.2.length <= 8000000000000000000) (ho2 : ∀ x, x ∈ q -> ∀ y, y ∈ x.2 -> okv y) (hl : p.length + q.length <= 5864062014634) :
  Calls Tryz.prog 176 #[v1, v2] w fun e w' => ∃ u, e = .returned u /\ w'.Sl 81 1 u (mergeP cf p q).length ((mergeP cf p q).map (·.1)) /\ (∀ k, k ∈ u.blk -> w.heap.size <= k) /\ w.Fr w' [] := by
 obtain ⟨a1, c1, rfl, _, _⟩ := h1.rd.shape
 obtain ⟨a2, c2, rfl, _, _⟩ := h2.rd.shape
 rw [List.length_map] at h1 h2
 rw [List.length_map, List.length_map]
 have H1 := Hz h1; have H2 := Hz h2; have Ho1 := Hz ho1; have Ho2 := Hz ho2; have HC := Hz hC; clear h1 h2 ho1 ho2 hC
 generalize hM : mergeP cf p q = M
 have HM := Hz hM
 have HS0 : Hid (w.Sl 81 1 (.slice none 0 0) 0 (([] : List HR).map (·.1)) /\ (∀ k, k ∈ (Value.slice none 0 0).blk -> w.heap.size <= k) /\ w.Fr w [] /\ M = [] ++ mergeP cf (p.drop 0) (q.drop 0)) := Hz ⟨World.Sl.nil _ _ _, by simp [Value.blk], World.Fr.refl _ _, hM.symm⟩
 clear hM
 go_enter Tryz.func176, Tryz.ntmps176
 go_wp2
 go_loopw [5, 6, 7] (fun v i k wr => ∃ (m n : Nat) (P : List HR), i = .int .i64 m /\ k = .int .i64 n /\ m <= p.length /\ n <= q.length /\ P.length <= m + n /\ Hid (wr.Sl 81 1 v P.length (P.map (·.1)) /\ (∀ k, k ∈ v.blk -> w.heap.size <= k) /\ w.Fr wr [] /\ M = P ++ mergeP cf (p.drop m) (q.drop n))) (fun _ i k _ => (p.length - intOf i).toNat + (q.length - intOf k).toNat)
 case atStart => exact ⟨0, 0, [], rfl, rfl, Nat.zero_le _, Nat.zero_le _, Nat.zero_le _, HS0⟩
 case round =>
  obtain ⟨m, n, P, rfl, rfl, hm, hn, hP, HS⟩ := hrel
  clear HS0
  obtain ⟨xa, xc, hv, _, _⟩ := HS.out.1.shape
  subst hv
  by_cases hi : m < p.length
  ·obtain ⟨x, hx⟩ : ∃ x, p[m]? = some x := ⟨p[m], List.getElem?_eq_getElem hi⟩
   have hxd : p.drop m = x :: p.drop (m + 1) := by rw [List.drop_eq_getElem_cons hi, (List.getElem?_eq_some_iff.1 hx).2]
   obtain ⟨g1, f1, d1, ax, mx, hv1, hg1, kx, ex, hrx⟩ := rdrows_pair (by have := H1.out.still HS.out.2.2.1; exact this) hx
   cases hv1
   have miI : (m : Int) < (p.length : Int) := by omega
   have mib : decide ((m : Int) < (p.length : Int)) = true := decide_eq_true miI
   have meb : ((m : Int) == (p.length : Int)) = false := beq_eq_false_iff_ne.2 (by omega)
   have mw : IntKind.i64.wrap ((m : Int) + 1) = (m : Int) + 1 := IntWalk.i64_in _ (by omega)
   by_cases hk : n < q.length
   ·obtain ⟨y, hy⟩ : ∃ y, q[n]? = some y := ⟨q[n], List.getElem?_eq_getElem hk⟩
    have hyd : q.drop n = y :: q.drop (n + 1) := by rw [List.drop_eq_getElem_cons hk, (List.getElem?_eq_some_iff.1 hy).2]
    obtain ⟨g2, f2, d2, ay, my, hv2, hg2, ky, ey, hry⟩ := rdrows_pair (by have := H2.out.still HS.out.2.2.1; exact this) hy
    cases hv2
    have nkI : (n : Int) < (q.length : Int) := by omega
    have nkb : decide ((n : Int) < (q.length : Int)) = true := decide_eq_true nkI
    have nw : IntKind.i64.wrap ((n : Int) + 1) = (n : Int) + 1 := IntWalk.i64_in _ (by omega)
    have hc := fun w' (hd : wr.Fr w' []) => rrow51 HC.out (hrx.fr hd (by simp)) (hry.fr hd (by simp)) (Ho1.out x (List.mem_of_getElem? hx)).1 (Ho2.out y (List.mem_of_getElem? hy)) (Ho1.out x (List.mem_of_getElem? hx)).2
    have hst := mergeP_cons cf x y (p.drop (m + 1)) (q.drop (n + 1))
    rw [<- hxd, <- hyd] at hst
    have Hc := Hz hc; have Hst := Hz hst; have Hx := Hz hx; have Hy := Hz hy; have Hex := Hz ex; have Hey := Hz ey
    clear hc hst hx hy hxd hyd ex ey hrx hry
    go_wp2
    go_still_tail 8, (by kernel_rfl)
    change wpList _ _ _ _ _ wr.drew
    go_wp2_with fail
    refine (Hc.out _ ((World.Fr.refl wr []).drew)).mono ?_
    rintro e w2 ⟨rfl, hg⟩
    have hfx : wr.Fr w2 [] := ((World.Fr.refl wr []).drew).trans hg.fr (by simp)
    have kx2 := cellFrA hfx kx
    have ky2 := cellFrA hfx ky
    have hsl2 := HS.out.1.fr hfx (by simp)
    have hfr2 := HS.out.2.2.1.trans hfx (by simp)
    have hg12 : g1 < w2.heap.size := by have := hfx.size; omega
    have hg22 : g2 < w2.heap.size := by have := hfx.size; omega
    have Hsl2 := Hz hsl2; have Hfr2 := Hz hfr2; have Hfx := Hz hfx
    clear hg hfx kx ky hsl2 hfr2 Hc hg1 hg2
    obtain ⟨ih, hih, hh0, hh1, hh2⟩ := info_parts infoH
    generalize rcmp cf x.2 y.2 = z at *
    rcases Int.lt_trichotomy z 0 with hz | hz | hz
    ·have z1 : decide (z <= 0) = true := decide_eq_true (by omega)
     have z2 : decide (0 <= z) = false := decide_eq_false (by omega)
     go_wp2_with (at_builtin; refine wpList_append_one _ rfl (.tmp 38) (.tmp 43) 32 rfl 81 ih (.slice none 0 0) 1 24 Tryz.underlying32 hih hh0 hh1 hh2 rfl (.slice xa P.length xc) P.length (P.map (·.1)) rfl (Hsl2.out.alloc _) w2.heap.size 1 [.slice ax x.2.length mx] 81 rfl (heap_alloc_at _ _ _ rfl) rfl rfl ⟨by omega, by omega⟩ ?_)
     intro g3 off3 c3 w5 hsl3 hfr3 hat hlt3
     have hfin : w5.Sl 81 1 (.slice (some ⟨g3, off3, none⟩) (P.length + 1) c3) (P ++ [x]).length ((P ++ [x]).map (·.1)) /\ (∀ k, k ∈ (Value.slice (some ⟨g3, off3, none⟩) (P.length + 1) c3).blk -> w.heap.size <= k) /\ w.Fr w5 [] /\ M = (P ++ [x]) ++ mergeP cf (p.drop (m + 1)) (q.drop (n)) := by
      refine ⟨?_, fun k hk => ?_, (Hfr2.out.alloc _).trans hfr3 (fun k hk => .inr (HS.out.2.1 k hk)), ?_⟩
      ·rw [List.map_append, List.length_append, List.map_cons, List.map_nil, Hex.out]; exact hsl3
      ·simp [Value.blk] at hk
       subst hk
       rcases hat with h | h
       ·exact HS.out.2.1 _ h
       ·have h0 := Hfr2.out.size; (try simp at h); omega
      ·rw [HS.out.2.2.2, Hst.out, if_pos hz]
       simp
     have Hfin := Hz hfin
     clear hfin hsl3 hfr3 hat hlt3 kx2 ky2
     go_wp2
     go_roundw
     case rel => exact ⟨m + 1, n, P ++ [x], by go_num, by go_num, by omega, by omega, by simp; omega, Hfin⟩
     case measure => simp [intOf]; omega
    ·have z1 : decide (z <= 0) = true := decide_eq_true (by omega)
     have z2 : decide (0 <= z) = true := decide_eq_true (by omega)
     go_wp2_with (at_builtin; refine wpList_append_one _ rfl (.tmp 38) (.tmp 43) 32 rfl 81 ih (.slice none 0 0) 1 24 Tryz.underlying32 hih hh0 hh1 hh2 rfl (.slice xa P.length xc) P.length (P.map (·.1)) rfl (Hsl2.out.alloc _) w2.heap.size 1 [.slice ax x.2.length mx] 81 rfl (heap_alloc_at _ _ _ rfl) rfl rfl ⟨by omega, by omega⟩ ?_)
     intro g3 off3 c3 w5 hsl3 hfr3 hat hlt3
     have hfin : w5.Sl 81 1 (.slice (some ⟨g3, off3, none⟩) (P.length + 1) c3) (P ++ [x]).length ((P ++ [x]).map (·.1)) /\ (∀ k, k ∈ (Value.slice (some ⟨g3, off3, none⟩) (P.length + 1) c3).blk -> w.heap.size <= k) /\ w.Fr w5 [] /\ M = (P ++ [x]) ++ mergeP cf (p.drop (m + 1)) (q.drop (n + 1)) := by
      refine ⟨?_, fun k hk => ?_, (Hfr2.out.alloc _).trans hfr3 (fun k hk => .inr (HS.out.2.1 k hk)), ?_⟩
      ·rw [List.map_append, List.length_append, List.map_cons, List.map_nil, Hex.out]; exact hsl3
      ·simp [Value.blk] at hk
       subst hk
       rcases hat with h | h
       ·exact HS.out.2.1 _ h
       ·have h0 := Hfr2.out.size; (try simp at h); omega
      ·rw [HS.out.2.2.2, Hst.out, if_neg (by omega), if_neg (by omega)]
       simp
     have Hfin := Hz hfin
     clear hfin hsl3 hfr3 hat hlt3 kx2 ky2
     go_wp2
     go_roundw
     case rel => exact ⟨m + 1, n + 1, P ++ [x], by go_num, by go_num, by omega, by omega, by simp; omega, Hfin⟩
     case measure => simp [intOf]; omega
    ·have z1 : decide (z <= 0) = false := decide_eq_false (by omega)
     have z2 : decide (0 <= z) = true := decide_eq_true (by omega)
     go_wp2_with (at_builtin; refine wpList_append_one _ rfl (.tmp 47) (.tmp 52) 32 rfl 81 ih (.slice none 0 0) 1 24 Tryz.underlying32 hih hh0 hh1 hh2 rfl (.slice xa P.length xc) P.length (P.map (·.1)) rfl (Hsl2.out.alloc _) w2.heap.size 1 [.slice ay y.2.length my] 81 rfl (heap_alloc_at _ _ _ rfl) rfl rfl ⟨by omega, by omega⟩ ?_)
     intro g3 off3 c3 w5 hsl3 hfr3 hat hlt3
     have hfin : w5.Sl 81 1 (.slice (some ⟨g3, off3, none⟩) (P.length + 1) c3) (P ++ [y]).length ((P ++ [y]).map (·.1)) /\ (∀ k, k ∈ (Value.slice (some ⟨g3, off3, none⟩) (P.length + 1) c3).blk -> w.heap.size <= k) /\ w.Fr w5 [] /\ M = (P ++ [y]) ++ mergeP cf (p.drop (m)) (q.drop (n + 1)) := by
      refine ⟨?_, fun k hk => ?_, (Hfr2.out.alloc _).trans hfr3 (fun k hk => .inr (HS.out.2.1 k hk)), ?_⟩
      ·rw [List.map_append, List.length_append, List.map_cons, List.map_nil, Hey.out]; exact hsl3
      ·simp [Value.blk] at hk
       subst hk
       rcases hat with h | h
       ·exact HS.out.2.1 _ h
       ·have h0 := Hfr2.out.size; (try simp at h); omega
      ·rw [HS.out.2.2.2, Hst.out, if_neg (by omega), if_pos hz]
       simp
     have Hfin := Hz hfin
     clear hfin hsl3 hfr3 hat hlt3 kx2 ky2
     go_wp2
     go_roundw
     case rel => exact ⟨m, n + 1, P ++ [y], by go_num, by go_num, by omega, by omega, by simp; omega, Hfin⟩
     case measure => simp [intOf]; omega
   ·have nkb : decide ((n : Int) < (q.length : Int)) = false := decide_eq_false (by omega)
    have nkb2 : decide (n < q.length) = false := decide_eq_false hk
    have hqd : q.drop n = [] := List.drop_of_length_le (by omega)
    have hst : mergeP cf (p.drop m) (q.drop n) = x :: mergeP cf (p.drop (m + 1)) (q.drop n) := by rw [hqd, mergeP_nil2, mergeP_nil2, hxd]
    have Hst := Hz hst; have Hex := Hz ex
    have Hsl2 := Hz HS.out.1; have Hfr2 := Hz HS.out.2.2.1; have Hfx := Hz (World.Fr.refl wr [])
    have hg12 : g1 < wr.heap.size := hg1
    have kx2 := kx
    clear hst hx hxd ex hrx hqd kx hg1
    obtain ⟨ih, hih, hh0, hh1, hh2⟩ := info_parts infoH
    go_wp2_with (at_builtin; refine wpList_append_one _ rfl (.tmp 38) (.tmp 43) 32 rfl 81 ih (.slice none 0 0) 1 24 Tryz.underlying32 hih hh0 hh1 hh2 rfl (.slice xa P.length xc) P.length (P.map (·.1)) rfl (Hsl2.out.alloc _) wr.heap.size 1 [.slice ax x.2.length mx] 81 rfl (heap_alloc_at _ _ _ rfl) rfl rfl ⟨by omega, by omega⟩ ?_)
    intro g3 off3 c3 w5 hsl3 hfr3 hat hlt3
    have hfin : w5.Sl 81 1 (.slice (some ⟨g3, off3, none⟩) (P.length + 1) c3) (P ++ [x]).length ((P ++ [x]).map (·.1)) /\ (∀ k, k ∈ (Value.slice (some ⟨g3, off3, none⟩) (P.length + 1) c3).blk -> w.heap.size <= k) /\ w.Fr w5 [] /\ M = (P ++ [x]) ++ mergeP cf (p.drop (m + 1)) (q.drop (n)) := by
     refine ⟨?_, fun k hk => ?_, (Hfr2.out.alloc _).trans hfr3 (fun k hk => .inr (HS.out.2.1 k hk)), ?_⟩
     ·rw [List.map_append, List.length_append, List.map_cons, List.map_nil, Hex.out]; exact hsl3
     ·simp [Value.blk] at hk
      subst hk
      rcases hat with h | h
      ·exact HS.out.2.1 _ h
      ·have h0 := Hfr2.out.size; (try simp at h); omega
     ·rw [HS.out.2.2.2, Hst.out]
      simp
    have Hfin := Hz hfin
    clear hfin hsl3 hfr3 hat hlt3 kx2
    go_wp2
    go_roundw
    case rel => exact ⟨m + 1, n, P ++ [x], by go_num, by go_num, by omega, by omega, by simp; omega, Hfin⟩
    case measure => simp [intOf]; omega
  ·by_cases hk : n < q.length
   ·obtain ⟨y, hy⟩ : ∃ y, q[n]? = some y := ⟨q[n], List.getElem?_eq_getElem hk⟩
    have hyd : q.drop n = y :: q.drop (n + 1) := by rw [List.drop_eq_getElem_cons hk, (List.getElem?_eq_some_iff.1 hy).2]
    obtain ⟨g2, f2, d2, ay, my, hv2, hg2, ky, ey, hry⟩ := rdrows_pair (by have := H2.out.still HS.out.2.2.1; exact this) hy
    cases hv2
    have nkI : (n : Int) < (q.length : Int) := by omega
    have nkb : decide ((n : Int) < (q.length : Int)) = true := decide_eq_true nkI
    have nw : IntKind.i64.wrap ((n : Int) + 1) = (n : Int) + 1 := IntWalk.i64_in _ (by omega)
    have mib : decide ((m : Int) < (p.length : Int)) = false := decide_eq_false (by omega)
    have mib2 : decide (m < p.length) = false := decide_eq_false hi
    have meb : ((m : Int) == (p.length : Int)) = true := by rw [beq_iff_eq]; omega
    have hpd : p.drop m = [] := List.drop_of_length_le (by omega)
    have hst : mergeP cf (p.drop m) (q.drop n) = y :: mergeP cf (p.drop m) (q.drop (n + 1)) := by rw [hpd, mergeP_nil, mergeP_nil, hyd]
    have Hst := Hz hst; have Hey := Hz ey
    have Hsl2 := Hz HS.out.1; have Hfr2 := Hz HS.out.2.2.1; have Hfx := Hz (World.Fr.refl wr [])
    have hg22 : g2 < wr.heap.size := hg2
    have ky2 := ky
    clear hst hy hyd ey hry hpd ky hg2
    obtain ⟨ih, hih, hh0, hh1, hh2⟩ := info_parts infoH
    go_wp2_with (at_builtin; refine wpList_append_one _ rfl (.tmp 47) (.tmp 52) 32 rfl 81 ih (.slice none 0 0) 1 24 Tryz.underlying32 hih hh0 hh1 hh2 rfl (.slice xa P.length xc) P.length (P.map (·.1)) rfl (Hsl2.out.alloc _) wr.heap.size 1 [.slice ay y.2.length my] 81 rfl (heap_alloc_at _ _ _ rfl) rfl rfl ⟨by omega, by omega⟩ ?_)
    intro g3 off3 c3 w5 hsl3 hfr3 hat hlt3
    have hfin : w5.Sl 81 1 (.slice (some ⟨g3, off3, none⟩) (P.length + 1) c3) (P ++ [y]).length ((P ++ [y]).map (·.1)) /\ (∀ k, k ∈ (Value.slice (some ⟨g3, off3, none⟩) (P.length + 1) c3).blk -> w.heap.size <= k) /\ w.Fr w5 [] /\ M = (P ++ [y]) ++ mergeP cf (p.drop (m)) (q.drop (n + 1)) := by
     refine ⟨?_, fun k hk => ?_, (Hfr2.out.alloc _).trans hfr3 (fun k hk => .inr (HS.out.2.1 k hk)), ?_⟩
     ·rw [List.map_append, List.length_append, List.map_cons, List.map_nil, Hey.out]; exact hsl3
     ·simp [Value.blk] at hk
      subst hk
      rcases hat with h | h
      ·exact HS.out.2.1 _ h
      ·have h0 := Hfr2.out.size; (try simp at h); omega
     ·rw [HS.out.2.2.2, Hst.out]
      simp
    have Hfin := Hz hfin
    clear hfin hsl3 hfr3 hat hlt3 ky2
    go_wp2
    go_roundw
    case rel => exact ⟨m, n + 1, P ++ [y], by go_num, by go_num, by omega, by omega, by simp; omega, Hfin⟩
    case measure => simp [intOf]; omega
   ·have mib : decide ((m : Int) < (p.length : Int)) = false := decide_eq_false (by omega)
    have mib2 : decide (m < p.length) = false := decide_eq_false hi
    have nkb : decide ((n : Int) < (q.length : Int)) = false := decide_eq_false (by omega)
    have nkb2 : decide (n < q.length) = false := decide_eq_false hk
    have hend : M = P := by
     have := HS.out.2.2.2
     rw [List.drop_of_length_le (show p.length <= m by omega), List.drop_of_length_le (show q.length <= n by omega), mergeP_nil, List.append_nil] at this
     exact this
    have hs1 := HS.out.1; have hs2 := HS.out.2.1; have hs3 := HS.out.2.2.1
    rw [<- hend] at hs1 hs2 ⊢
    have Hs1 := Hz hs1; have Hs2 := Hz hs2; have Hs3 := Hz hs3
    clear hs1 hs2 hs3 HS hend
    go_wp2
    go_ret
    exact ⟨_, rfl, Hs1.out, Hs2.out, Hs3.out⟩
end
section
open Go.RowKit
def sortP (cf : V -> V -> Int) (p : List HR) : List HR :=
 if _h : p.length < 2 then p else mergeP cf (sortP cf (p.take (p.length / 2))) (sortP cf (p.drop (p.length / 2)))
termination_by p.length
decreasing_by
 ·rw [List.length_take]; omega
 ·rw [List.length_drop]; omega
theorem sortP_short {cf : V -> V -> Int} {p : List HR} (h : p.length < 2) : sortP cf p = p := by unfold sortP; rw [dif_pos h]
theorem sortP_long {cf : V -> V -> Int} {p : List HR} (h : ¬ p.length < 2) : sortP cf p = mergeP cf (sortP cf (p.take (p.length / 2))) (sortP cf (p.drop (p.length / 2))) := by
 conv => lhs; unfold sortP
 rw [dif_neg h]
theorem mergeP_mem {cf : V -> V -> Int} : ∀ (n : Nat) (p q : List HR) (x : HR), p.length + q.length <= n -> x ∈ mergeP cf p q -> x ∈ p ∨ x ∈ q := by
 intro n
 induction n with
 | zero =>
  intro p q x h hx
  have : p = [] := List.eq_nil_of_length_eq_zero (by omega)
  subst this
  rw [mergeP_nil] at hx
  exact .inr hx
 | succ n ih =>
  intro p q x h hx
  cases p with
  | nil => rw [mergeP_nil] at hx; exact .inr hx
  | cons a p =>
   cases q with
   | nil => rw [mergeP_nil2] at hx; exact .inl hx
   | cons b q =>
    rw [mergeP_cons] at hx
    simp only [List.length_cons] at h
    split at hx
    ·rcases List.mem_cons.1 hx with rfl | hx
     ·exact .inl (by simp)
     ·rcases ih p (b :: q) x (by simp only [List.length_cons]; omega) hx with h1 | h1
      ·exact .inl (List.mem_cons_of_mem _ h1)
      ·exact .inr h1
    ·split at hx
     ·rcases List.mem_cons.1 hx with rfl | hx
      ·exact .inr (by simp)
      ·rcases ih (a :: p) q x (by simp only [List.length_cons]; omega) hx with h1 | h1
       ·exact .inl h1
       ·exact .inr (List.mem_cons_of_mem _ h1)
     ·rcases List.mem_cons.1 hx with rfl | hx
      ·exact .inl (by simp)
      ·rcases ih p q x (by omega) hx with h1 | h1
       ·exact .inl (List.mem_cons_of_mem _ h1)
       ·exact .inr (List.mem_cons_of_mem _ h1)
theorem mergeP_len {cf : V -> V -> Int} : ∀ (n : Nat) (p q : List HR), p.length + q.length <= n -> (mergeP cf p q).length <= p.length + q.length := by
 intro n
 induction n with
 | zero =>
  intro p q h
  have : p = [] := List.eq_nil_of_length_eq_zero (by omega)
  subst this
  rw [mergeP_nil]; simp
 | succ n ih =>
  intro p q h
  cases p with
  | nil => rw [mergeP_nil]; simp
  | cons a p =>
   cases q with
   | nil => rw [mergeP_nil2]; simp
   | cons b q =>
    rw [mergeP_cons]
    simp only [List.length_cons] at h
    split
    ·have := ih p (b :: q) (by simp only [List.length_cons]; omega)
     simp only [List.length_cons] at this ⊢; omega
    ·split
     ·have := ih (a :: p) q (by simp only [List.length_cons]; omega)
      simp only [List.length_cons] at this ⊢; omega
     ·have := ih p q (by omega)
      simp only [List.length_cons] at this ⊢; omega
theorem sortP_sub {cf : V -> V -> Int} : ∀ (n : Nat) (p : List HR), p.length <= n -> (∀ x, x ∈ sortP cf p -> x ∈ p) /\ (sortP cf p).length <= p.length := by
 intro n
 induction n with
 | zero => intro p h; rw [sortP_short (by omega)]; exact ⟨fun x h => h, Nat.le_refl _⟩
 | succ n ih =>
  intro p h
  by_cases h2 : p.length < 2
  ·rw [sortP_short h2]; exact ⟨fun x h => h, Nat.le_refl _⟩
  ·rw [sortP_long h2]
   obtain ⟨i1, i2⟩ := ih (p.take (p.length / 2)) (by rw [List.length_take]; omega)
   obtain ⟨j1, j2⟩ := ih (p.drop (p.length / 2)) (by rw [List.length_drop]; omega)
   refine ⟨fun x hx => ?_, ?_⟩
   ·rcases mergeP_mem _ _ _ x (Nat.le_refl _) hx with h1 | h1
    ·exact List.mem_of_mem_take (i1 x h1)
    ·exact List.mem_of_mem_drop (j1 x h1)
   ·have h3 := mergeP_len (cf := cf) _ (sortP cf (p.take (p.length / 2))) (sortP cf (p.drop (p.length / 2))) (Nat.le_refl _)
    rw [List.length_take] at i2
    rw [List.length_drop] at j2
    omega
theorem rd_drop {w : World} {size g off n cap j : Nat} {xs : List Value} (h : w.Rd size (.slice (some ⟨g, off, none⟩) n cap) n xs) (hj : j <= n) : w.Rd size (.slice (some ⟨g, off + j * size, none⟩) (n - j) (cap - j)) (n - j) (xs.drop (j * size)) := by
 have e : (n - j) * size = n * size - j * size := Nat.sub_mul _ _ _
 have hle := Nat.mul_le_mul_right size hj
 refine ⟨by rw [List.length_drop, h.1, e], ?_⟩
 rcases h.2 with ⟨h0, a, c, he, hm⟩ | ⟨g', off', cap', he, hc, hm, hg, hcell⟩
 ·cases he
  exact .inl ⟨by omega, _, _, by rw [Nat.zero_sub], by omega⟩
 ·cases he
  refine .inr ⟨_, _, _, rfl, by omega, by omega, hg, fun k hk => ?_⟩
  rw [Nat.add_assoc, hcell (j * size + k) (by omega), List.getElem?_drop]
theorem rsorted105 {okv : V -> Prop} {cf : V -> V -> Int} (hC : RCmpOk okv cf) : ∀ (N : Nat) (w : World) (v : Value) (p : List HR), p.length <= N -> w.Rd 1 v p.length (p.map (·.1)) -> (∀ x, x ∈ p -> RdRow w x.1 x.2) ->
  (∀ x, x ∈ p -> (∀ y, y ∈ x.2 -> okv y) /\ x.2.length <= 8000000000000000000) -> p.length <= 5864062014634 ->
  Calls Tryz.prog 135 #[v] w fun e w' => ∃ u, e = .returned u /\ w'.Rd 1 u (sortP cf p).length ((sortP cf p).map (·.1)) /\ (u = v /\ sortP cf p = p ∨ w'.Sl 81 1 u (sortP cf p).length ((sortP cf p).map (·.1)) /\ ∀ k, k ∈ u.blk -> w.heap.size <= k) /\ w.Fr w' [] := by
 intro N
 induction N with
 | zero =>
  intro w v p hN hrd hrow hok hl
  have hp : p = [] := List.eq_nil_of_length_eq_zero (by omega)
  subst hp
  have hsp : sortP cf [] = [] := sortP_short (by simp)
  rw [hsp]
  obtain ⟨a, c, rfl, _, _⟩ := hrd.shape
  simp only [List.length_nil] at hrd ⊢
  have Hrd := Hz hrd
  clear hrd hrow hok hl hN hsp
  go_enter Tryz.func135, Tryz.ntmps135
  go_wp2
  go_ret
  exact ⟨_, rfl, Hrd.out, .inl (by simp), World.Fr.refl w []⟩
 | succ N ih =>
  intro w v p hN hrd hrow hok hl
  obtain ⟨a, c, rfl, hc, hcm⟩ := hrd.shape
  by_cases h2 : p.length < 2
  ·have hsp := sortP_short (cf := cf) h2
   rw [hsp]
   have d2 : decide ((p.length : Int) < 2) = true := decide_eq_true (by omega)
   have d2' : decide (p.length < 2) = true := decide_eq_true h2
   have Hrd := Hz hrd
   clear hrd hrow hok hl hN hsp h2 hc hcm
   go_enter Tryz.func135, Tryz.ntmps135
   go_wp2
   go_ret
   exact ⟨_, rfl, Hrd.out, .inl (by simp), World.Fr.refl w []⟩
  ·have hsp := sortP_long (cf := cf) h2
   have d2 : decide ((p.length : Int) < 2) = false := decide_eq_false (by omega)
   have d2' : decide (p.length < 2) = false := decide_eq_false h2
   obtain ⟨g, off, c', hve, _, _, hg, _⟩ := hrd.form (by omega)
   cases hve
   obtain ⟨k, hk⟩ : ∃ k, k = p.length / 2 := ⟨_, rfl⟩
   rw [<- hk] at hsp
   have hk1 : k <= p.length := by omega
   have hk2 : 1 <= k := by omega
   have hk3 : k < p.length := by omega
   have r1 := rd_take hrd hk1
   have r2 := rd_drop hrd hk1
   rw [Nat.mul_one, <- List.map_take] at r1
   rw [Nat.mul_one, <- List.map_drop] at r2
   have e1 : (p.take k).length = k := by rw [List.length_take]; omega
   have e2 : (p.drop k).length = p.length - k := List.length_drop ..
   have s1 := sortP_sub (cf := cf) _ (p.take k) (Nat.le_refl _)
   have s2 := sortP_sub (cf := cf) _ (p.drop k) (Nat.le_refl _)
   have hsub1 : ∀ x, x ∈ sortP cf (p.take k) -> x ∈ p := fun x hx => List.mem_of_mem_take (s1.1 x hx)
   have hsub2 : ∀ x, x ∈ sortP cf (p.drop k) -> x ∈ p := fun x hx => List.mem_of_mem_drop (s2.1 x hx)
   have c1 := ih w (.slice (some ⟨g, off, none⟩) k c) (p.take k) (by omega) (by rw [e1]; exact r1) (fun x hx => hrow x (List.mem_of_mem_take hx)) (fun x hx => hok x (List.mem_of_mem_take hx)) (by omega)
   have c2 := fun w' (hf : w.Fr w' []) => ih w' (.slice (some ⟨g, off + k, none⟩) (p.length - k) (c - k)) (p.drop k) (by omega) (by rw [e2]; exact r2.fr hf (by simp)) (fun x hx => (hrow x (List.mem_of_mem_drop hx)).fr hf (by simp)) (fun x hx => hok x (List.mem_of_mem_drop hx)) (by omega)
   have hlen : (sortP cf (p.take k)).length + (sortP cf (p.drop k)).length <= 5864062014634 := by
    have := s1.2; have := s2.2; omega
   rw [hsp]
   have hi1 : (p.length : Int) / 2 = (k : Int) := by omega
   have hi2 : IntKind.i64.wrap (k : Int) = (k : Int) := IntWalk.i64_in _ (by omega)
   have hi3 : (k : Int) <= (p.length : Int) := by omega
   have hi4 : (p.length : Int) <= (c : Int) := by omega
   have hi5 : (k : Int) <= (c : Int) := by omega
   have C1 := Hz c1; have C2 := Hz c2; have Hrow := Hz hrow; have Hok := Hz hok; have Hl := Hz hl; have Hlen := Hz hlen; have Hs1 := Hz hsub1; have Hs2 := Hz hsub2; have HC := Hz hC; have HK := Hz hk
   clear c1 c2 hrd hrow hok hl hN hsp r1 r2 e1 e2 s1 s2 hsub1 hsub2 hlen hk ih hC
   go_enter Tryz.func135, Tryz.ntmps135
   go_wp2_with fail
   (with_reducible refine C1.out.mono ?_)
   rintro e w1 ⟨u1, rfl, hr1, ho1, hf1⟩
   obtain ⟨b1, d1, rfl, _, _⟩ := hr1.shape
   have c2 := C2.out w1 hf1
   have C2' := Hz c2; have Hr1 := Hz hr1; have Hf1 := Hz hf1
   clear c2 hr1 hf1 ho1 C1 C2
   go_wp2_with fail
   (with_reducible refine C2'.out.mono ?_)
   rintro e w2 ⟨u2, rfl, hr2, ho2, hf2⟩
   obtain ⟨b2, d2, rfl, _, _⟩ := hr2.shape
   have hr1 := Hr1.out.fr hf2 (by simp)
   have hf := Hf1.out.trans hf2 (by simp)
   have hm := rmerged122 HC.out (p := sortP cf (p.take k)) (q := sortP cf (p.drop k)) (v1 := .slice b1 (sortP cf (p.take k)).length d1) (v2 := .slice b2 (sortP cf (p.drop k)).length d2) (w := w2)
    ⟨by rw [List.length_map]; exact hr1, by rw [List.length_map, List.length_map], fun i hv r h1 h2 => by
     rw [List.getElem?_map, Option.map_eq_some_iff] at h1 h2
     obtain ⟨x, hx, rfl⟩ := h1
     obtain ⟨y, hy, rfl⟩ := h2
     rw [hx] at hy
     cases hy
     exact (Hrow.out x (Hs1.out x (List.mem_of_getElem? hx))).fr hf (by simp)⟩
    ⟨by rw [List.length_map]; exact hr2, by rw [List.length_map, List.length_map], fun i hv r h1 h2 => by
     rw [List.getElem?_map, Option.map_eq_some_iff] at h1 h2
     obtain ⟨x, hx, rfl⟩ := h1
     obtain ⟨y, hy, rfl⟩ := h2
     rw [hx] at hy
     cases hy
     exact (Hrow.out x (Hs2.out x (List.mem_of_getElem? hx))).fr hf (by simp)⟩
    (fun x hx => Hok.out x (Hs1.out x hx)) (fun x hx => (Hok.out x (Hs2.out x hx)).1) Hlen.out
   have Hm := Hz hm; have Hf := Hz hf
   clear hm hf hr1 hr2 ho2 hf2 C2' Hr1 Hf1
   go_wp2_with fail
   (with_reducible refine Hm.out.mono ?_)
   rintro e w3 ⟨u3, rfl, hs3, hn3, hf3⟩
   have hfin := Hf.out.trans hf3 (by simp)
   have hnew : ∀ k, k ∈ u3.blk -> w.heap.size <= k := fun k hk => by have := hn3 k hk; have := Hf.out.size; omega
   have Hs3 := Hz hs3; have Hfin := Hz hfin; have Hnew := Hz hnew
   clear hs3 hn3 hf3 hfin hnew Hm Hf
   go_wp2
   go_ret
   exact ⟨_, rfl, Hs3.out.rd, .inr ⟨Hs3.out, Hnew.out⟩, Hfin.out⟩
end
section
open Go.RowKit
def insS (x : BA) (L : List BA) : List BA := L.takeWhile (fun y => ltS y x) ++ x :: L.dropWhile (fun y => ltS y x)
def risL (l : List BA) : List BA := l.foldl (fun L x => insS x L) []
theorem risL_succ {l : List BA} {j : Nat} {x : BA} (hx : l[j]? = some x) : risL (l.take (j + 1)) = insS x (risL (l.take j)) := by
 have hj := (List.getElem?_eq_some_iff.1 hx).1
 rw [List.take_succ_eq_append_getElem hj, (List.getElem?_eq_some_iff.1 hx).2]
 unfold risL
 rw [List.foldl_append]
 rfl
theorem insS_at {x : BA} : ∀ (k : Nat) (L : List BA), k <= L.length -> (∀ i y, i < k -> L[i]? = some y -> ltS y x = true) -> (k = L.length ∨ ∃ y, L[k]? = some y /\ ltS y x = false) -> insS x L = L.take k ++ x :: L.drop k := by
 intro k
 induction k with
 | zero =>
  intro L _ _ h
  unfold insS
  cases L with
  | nil => rfl
  | cons a L =>
   rcases h with h | ⟨y, hy, hl⟩
   ·simp at h
   ·simp at hy
    subst hy
    simp [hl]
 | succ k ih =>
  intro L hk hlt h
  cases L with
  | nil => simp at hk
  | cons a L =>
   have h0 := hlt 0 a (by omega) rfl
   have := ih L (by simpa using hk) (fun i y hi hy => hlt (i + 1) y (by omega) (by simpa using hy)) (by
    rcases h with h | ⟨y, hy, hl⟩
    ·exact .inl (by simpa using h)
    ·exact .inr ⟨y, by simpa using hy, hl⟩)
   unfold insS at this ⊢
   simp only [List.takeWhile_cons, List.dropWhile_cons, h0, if_true, List.cons_append, this, List.take_succ_cons, List.drop_succ_cons]
theorem insS_len (x : BA) (L : List BA) : (insS x L).length = L.length + 1 := by
 unfold insS
 rw [List.length_append, List.length_cons]
 have := congrArg List.length (List.takeWhile_append_dropWhile (p := fun y => ltS y x) (l := L))
 rw [List.length_append] at this
 omega
theorem risL_len (l : List BA) : (risL l).length = l.length := by
 suffices ∀ (l L : List BA), (l.foldl (fun L x => insS x L) L).length = L.length + l.length by
  have := this l []
  simpa [risL] using this
 intro l
 induction l with
 | nil => intro L; rfl
 | cons a l ih => intro L; rw [List.foldl_cons, ih, insS_len, List.length_cons]; omega
theorem risL_mem {l : List BA} {s : BA} (h : s ∈ risL l) : s ∈ l := by
 suffices ∀ (l L : List BA), s ∈ l.foldl (fun L x => insS x L) L -> s ∈ L ∨ s ∈ l by
  rcases this l [] h with h | h
  ·simp at h
  ·exact h
 intro l
 induction l with
 | nil => intro L h; exact .inl h
 | cons a l ih =>
  intro L h
  rw [List.foldl_cons] at h
  rcases ih _ h with h | h
  ·unfold insS at h
   rcases List.mem_append.1 h with h | h
   ·exact .inl (List.takeWhile_subset _ h)
   ·rcases List.mem_cons.1 h with rfl | h
    ·exact .inr (by simp)
    ·exact .inl (List.dropWhile_subset _ h)
  ·exact .inr (List.mem_cons_of_mem _ h)
theorem rrising104 {w : World} {v : Value} {l : List BA} (h : RdStr w v l) (hl : l.length <= 8796093021952) :
  Calls Tryz.prog 133 #[v] w fun e w' => ∃ u, e = .returned u /\ w'.Sl 9 1 u (risL l).length ((risL l).map Value.string) /\ (∀ k, k ∈ u.blk -> w.heap.size <= k) /\ w.Fr w' [] := by
 obtain ⟨a1, c1, rfl, _, _⟩ := h.rd.shape
 have H := Hz h; have Hl := Hz hl; clear h hl
 have HS0 : Hid (w.Sl 9 1 (.slice none 0 0) (risL (l.take 0)).length ((risL (l.take 0)).map Value.string) /\ (∀ k, k ∈ (Value.slice none 0 0).blk -> w.heap.size <= k) /\ w.Fr w []) := Hz ⟨World.Sl.nil _ _ _, by simp [Value.blk], World.Fr.refl _ _⟩
 go_enter Tryz.func133, Tryz.ntmps133
 go_wp2
 go_loopw [3, 4] (fun v i wr => ∃ j : Nat, i = .int .i64 j /\ j <= l.length /\ Hid (wr.Sl 9 1 v (risL (l.take j)).length ((risL (l.take j)).map Value.string) /\ (∀ k, k ∈ v.blk -> w.heap.size <= k) /\ w.Fr wr [])) (fun _ i _ => (l.length - intOf i).toNat)
 case atStart => exact ⟨0, rfl, Nat.zero_le _, HS0⟩
 case round =>
  obtain ⟨j, rfl, hj, HS⟩ := hrel
  clear HS0
  have hLl : (risL (l.take j)).length = j := by rw [risL_len, List.length_take]; omega
  by_cases hlt : j < l.length
  ·obtain ⟨x, hx⟩ : ∃ x, l[j]? = some x := ⟨l[j], List.getElem?_eq_getElem hlt⟩
   have hsu := risL_succ hx
   generalize risL (l.take j) = L at *
   obtain ⟨xa, xc, hv, hxc, _⟩ := HS.out.1.shape
   subst hv
   obtain ⟨g, off, c, hv1, hg, kx⟩ := (H.out.fr HS.out.2.2 (by simp)).at hx
   cases hv1
   have hjI : (j : Int) < (l.length : Int) := by omega
   have hw1 : IntKind.i64.wrap ((j : Int) + 1) = (j : Int) + 1 := IntWalk.i64_in _ (by have := Hl.out; omega)
   have Hsu := Hz hsu; have Hx := Hz hx; have HLl := Hz hLl; have Hkx := Hz kx
   clear hsu hx hLl
   obtain ⟨wQ, rfl⟩ : ∃ wQ : World, wQ = wr := ⟨_, rfl⟩
   cases xa with
   | none =>
    have hL0 : L = [] := by
     rcases HS.out.1.2 with ⟨_, h0⟩ | ⟨g', off', cap', cur', he, _⟩
     ·exact List.eq_nil_of_length_eq_zero h0
     ·cases he
    subst hL0
    have hxc0 : xc = 0 := by
     rcases HS.out.1.2 with ⟨h0, _⟩ | ⟨g', off', cap', cur', he, _⟩
     ·cases h0; rfl
     ·cases he
    subst hxc0
    have hins : insS x [] = [] ++ x :: [] := rfl
    simp only [List.length_nil]
    go_wp2
    go_loopw [5] (fun a wr' => a = .int .i64 0 /\ Hid (wQ.Fr wr' [])) (fun _ _ => 0)
    case atStart => exact ⟨rfl, Hz (World.Fr.refl wQ [])⟩
    case round =>
     obtain ⟨rfl, HF⟩ := hrel
     have kx2 := cellFrA HF.out Hkx.out
     clear kx
     go_wp2
     go_quiet (fail)
     generalize hW : World.drewN wr nq = W1 at *
     have hf0 : wQ.Fr W1 [] := by rw [<- hW]; exact HF.out.of_drewN _
     have kx := cellFrA hf0 Hkx.out
     have HF0 := Hz hf0
     clear kx2 hW hf0
     have Hins := Hz hins
     clear hins
     have Hs1 : Hid (W1.Sl 9 1 (.slice none 0 0) 0 (([] : List BA).map Value.string)) := Hz (World.Sl.nil _ _ _)
     have Hf1 : Hid (W1.Fr W1 []) := Hz (World.Fr.refl _ _)
     have Hn1 : Hid (∀ q, q ∈ (Value.slice none 0 0).blk -> W1.heap.size <= q) := Hz (by simp [Value.blk])
     have hgl : g < W1.heap.size + 1 := by have := HF0.out.size; omega
     obtain ⟨i0, hi0, hz0, hz1, hz2⟩ := info_parts infoS
     go_wp2_with (at_builtin; refine wpList_append_one _ rfl (.tmp 35) (.tmp 40) 24 rfl 9 i0 (.string .empty) 1 16 Tryz.underlying24 hi0 hz0 hz1 hz2 rfl (.slice none 0 0) (0) (([] : List BA).map Value.string) rfl (Hs1.out.alloc _) W1.heap.size 1 [.string x] 9 rfl (heap_alloc_at _ _ _ rfl) rfl rfl ⟨by have := Hl.out; have := HLl.out; omega, by have := Hl.out; have := HLl.out; omega⟩ ?_)
     intro g3 off3 c3 w2 hs2 hf2 hat hlt3
     try rw [<- List.map_take] at hs2
     have hf12 : W1.Fr w2 [] := (Hf1.out.alloc (.cells #[.string x] 9)).trans hf2 (fun q hq => .inr (Hn1.out q hq))
     have hn2 : W1.heap.size <= g3 := by
      rcases hat with h | h
      ·exact Hn1.out _ h
      ·have := Hf1.out.size; (try simp at h); omega
     have Hs2 := Hz hs2; have Hf2 := Hz hf12; have Hn2 := Hz hn2
     clear hs2 hf2 hat hlt3 hf12 hn2 kx i0 hi0 hz0 hz1 hz2
     have hc3 : 0 + 1 <= c3 := by
      obtain ⟨_, _, he, hcc, _⟩ := Hs2.out.shape
      cases he
      exact hcc
     try simp only [Nat.zero_add] at hc3
     have hlen3 : (([] : List BA) ++ x :: ([] : List BA)).length = 0 + 1 := by simp
     have hnew3 : w2.Sl 9 1 (.slice (some ⟨g3, off3, none⟩) (0 + 1) c3) (risL (l.take (j + 1))).length ((risL (l.take (j + 1))).map Value.string) /\ (∀ q, q ∈ (Value.slice (some ⟨g3, off3, none⟩) (0 + 1) c3).blk -> w.heap.size <= q) /\ w.Fr w2 [] := by
      rw [Hsu.out, Hins.out, hlen3]
      refine ⟨?_, fun q hq => ?_, ?_⟩
      ·have e : (([] : List BA) ++ x :: ([] : List BA)).map Value.string = ([] : List BA).map Value.string ++ [.string x] := by simp
       rw [e]; exact Hs2.out
      ·have hz := HS.out.2.2.size
       have hz2 := HF0.out.size
       have hz4 := Hn2.out
       simp [Value.blk] at hq
       omega
      ·exact HS.out.2.2.trans (HF0.out.trans Hf2.out (by simp)) (by simp)
     have Hnew3 := Hz hnew3
     clear hnew3 hlen3
     go_wp2
     go_roundw
     case rel => exact ⟨j + 1, by go_num, by omega, Hnew3⟩
     case measure => simp [intOf]; omega
   | some a =>
    obtain ⟨g2, off2, c2, cur2, hv2, _⟩ : ∃ g off cap cur, Value.slice (some a) L.length xc = .slice (some ⟨g, off, none⟩) L.length cap /\ cur = (#[] : Array Value) := by
     rcases HS.out.1.2 with ⟨h0, _⟩ | ⟨g', off', cap', cur', he, _⟩
     ·cases h0
     ·exact ⟨g', off', cap', #[], he, rfl⟩
    cases hv2
    go_wp2
    go_loopw [5] (fun a wr' => ∃ k : Nat, a = .int .i64 k /\ k <= L.length /\ Hid (∀ i y, i < k -> L[i]? = some y -> ltS y x = true) /\ Hid (wQ.Fr wr' [])) (fun a _ => (L.length - intOf a).toNat)
    case atStart => exact ⟨0, rfl, Nat.zero_le _, Hz (fun i y hi => absurd hi (Nat.not_lt_zero _)), Hz (World.Fr.refl wQ [])⟩
    case round =>
     obtain ⟨k, rfl, hk, HE, HF⟩ := hrel
     have kx2 := cellFrA HF.out Hkx.out
     clear kx
     have hnn : (0 : Int) <= (k : Int) := by omega
     have hkw : IntKind.i64.wrap ((k : Int) + 1) = (k : Int) + 1 := IntWalk.i64_in _ (by have := Hl.out; have := HLl.out; omega)
     by_cases hkl : k < L.length
     ·obtain ⟨y, hy⟩ : ∃ y, L[k]? = some y := ⟨L[k], List.getElem?_eq_getElem hkl⟩
      have kI : (k : Int) < (L.length : Int) := by omega
      have kb : decide ((k : Int) < (L.length : Int)) = true := decide_eq_true kI
      have ky := ((HS.out.1.fr HF.out (by simp)).cells rfl k (by omega))
      rw [List.getElem?_map, hy] at ky
      simp only [Option.map_some] at ky
      cases hyx : ltS y x with
      | true =>
       have hb : Op.bytesLess y.toList x.toList = true := hyx
       have Hy := Hz hy; have Hyx := Hz hyx
       clear hy hyx
       go_wp2
       go_quiet (fail)
       go_wp2
       go_roundw
       case rel => exact ⟨k + 1, by go_num, by omega, Hz (fun i z hi hz => by
        rcases Nat.lt_or_ge i k with h | h
        ·exact HE.out i z h hz
        ·obtain rfl : i = k := by omega
         rw [Hy.out] at hz
         cases hz; exact Hyx.out), Hz (HF.out.of_drewN _)⟩
       case measure => simp [intOf]; omega
      | false =>
       have hb : Op.bytesLess y.toList x.toList = false := hyx
       have hins := insS_at k L hk HE.out (.inr ⟨y, hy, hyx⟩)
       clear hy hyx
       go_wp2
       go_quiet (fail)
       generalize hW : World.drewN wr nq = W1 at *
       have hf0 : wQ.Fr W1 [] := by rw [<- hW]; exact HF.out.of_drewN _
       have kx := cellFrA hf0 Hkx.out
       have HF0 := Hz hf0
       clear kx2 ky hW hf0
       have hk1 : (k : Int) <= (L.length : Int) := by omega
       have hk2 : (L.length : Int) <= (xc : Int) := by omega
       have hk3 : (k : Int) <= (xc : Int) := by omega
       have hrd0 := (HS.out.1.fr HF0.out (by simp)).rd
       have hrdA : W1.Rd 1 (.slice (some ⟨g2, off2, none⟩) k xc) k ((L.take k).map Value.string) := by have := rd_take hrd0 hk; rwa [Nat.mul_one, <- List.map_take] at this
       have hrdB : W1.Rd 1 (.slice (some ⟨g2, off2 + k, none⟩) (L.length - k) (xc - k)) (L.length - k) ((L.drop k).map Value.string) := by have := rd_drop hrd0 hk; rwa [Nat.mul_one, <- List.map_drop] at this
       have HrA := Hz hrdA; have HrB := Hz hrdB
       clear hrd0 hrdA hrdB
       have Hins := Hz hins
       clear hins
       obtain ⟨i0, hi0, hz0, hz1, hz2⟩ := info_parts infoS
       go_wp2_with (at_builtin; refine wpList_append_src _ rfl (.tmp 30) (.tmp 33) 24 rfl 9 i0 (.string .empty) 1 16 Tryz.underlying24 hi0 hz0 hz1 hz2 rfl (.slice none 0 0) 0 [] rfl (World.Sl.nil _ _ _) (.slice (some ⟨g2, off2, none⟩) k xc) (k) ((L.take k).map Value.string) rfl HrA.out (one_strings _) ⟨by have := Hl.out; have := HLl.out; omega, by have := Hl.out; have := HLl.out; omega⟩ ?_)
       intro v' w1 hs1 hf1 hb1
       obtain ⟨ya, yc, rfl, _, _⟩ := hs1.shape
       try simp only [Nat.zero_add, List.nil_append] at hs1
       try rw [<- List.map_take] at hs1
       try simp only [Nat.zero_add]
       have hf1' : W1.Fr w1 [] := by simpa [Value.blk] using hf1
       have hn1 : ∀ q, q ∈ (Value.slice ya (k) yc).blk -> W1.heap.size <= q := fun q hq => by
        rcases hb1 q hq with h | h
        ·simp [Value.blk] at h
        ·omega
       have kx3 := cellFrA hf1' kx
       have hgl : g < w1.heap.size + 1 := by have := HF0.out.size; have := hf1'.size; omega
       have Hs1 := Hz hs1; have Hf1 := Hz hf1'; have Hn1 := Hz hn1
       clear hs1 hf1 hb1 hf1' hn1 kx i0 hi0 hz0 hz1 hz2
       obtain ⟨i0, hi0, hz0, hz1, hz2⟩ := info_parts infoS
       go_wp2_with (at_builtin; refine wpList_append_one _ rfl (.tmp 35) (.tmp 40) 24 rfl 9 i0 (.string .empty) 1 16 Tryz.underlying24 hi0 hz0 hz1 hz2 rfl (.slice ya (k) yc) (k) ((L.take k).map Value.string) rfl (Hs1.out.alloc _) w1.heap.size 1 [.string x] 9 rfl (heap_alloc_at _ _ _ rfl) rfl rfl ⟨by have := Hl.out; have := HLl.out; omega, by have := Hl.out; have := HLl.out; omega⟩ ?_)
       intro g3 off3 c3 w2 hs2 hf2 hat hlt3
       try rw [<- List.map_take] at hs2
       have hf12 : W1.Fr w2 [] := (Hf1.out.alloc (.cells #[.string x] 9)).trans hf2 (fun q hq => .inr (Hn1.out q hq))
       have hn2 : W1.heap.size <= g3 := by
        rcases hat with h | h
        ·exact Hn1.out _ h
        ·have := Hf1.out.size; (try simp at h); omega
       have Hs2 := Hz hs2; have Hf2 := Hz hf12; have Hn2 := Hz hn2
       clear hs2 hf2 hat hlt3 hf12 hn2 kx3 i0 hi0 hz0 hz1 hz2
       by_cases hxk : xc = k
       ·have hlk : L.length - k = 0 := by omega
        have hdk : L.drop k = [] := List.drop_of_length_le (by omega)
        subst hxk
        have hc3 : xc + 1 <= c3 := by
         obtain ⟨_, _, he, hcc, _⟩ := Hs2.out.shape
         cases he
         exact hcc
        try simp only [Nat.zero_add] at hc3
        have hlen3 : ((L.take xc) ++ x :: (L.drop xc)).length = xc + 1 := by rw [hdk]; simp; omega
        have hnew3 : w2.Sl 9 1 (.slice (some ⟨g3, off3, none⟩) (xc + 1) c3) (risL (l.take (j + 1))).length ((risL (l.take (j + 1))).map Value.string) /\ (∀ q, q ∈ (Value.slice (some ⟨g3, off3, none⟩) (xc + 1) c3).blk -> w.heap.size <= q) /\ w.Fr w2 [] := by
         rw [Hsu.out, Hins.out, hlen3]
         refine ⟨?_, fun q hq => ?_, ?_⟩
         ·have e : ((L.take xc) ++ x :: (L.drop xc)).map Value.string = (L.take xc).map Value.string ++ [.string x] := by rw [hdk]; simp
          rw [e]; exact Hs2.out
         ·have hz := HS.out.2.2.size
          have hz2 := HF0.out.size
          have hz4 := Hn2.out
          simp [Value.blk] at hq
          omega
         ·exact HS.out.2.2.trans (HF0.out.trans Hf2.out (by simp)) (by simp)
        have Hnew3 := Hz hnew3
        clear hnew3 hlen3
        go_wp2
        go_roundw
        case rel => exact ⟨j + 1, by go_num, by omega, Hnew3⟩
        case measure => simp [intOf]; omega
       ·obtain ⟨i0, hi0, hz0, hz1, hz2⟩ := info_parts infoS
        go_wp2_with (at_builtin; refine wpList_append_src _ rfl (.tmp 42) (.tmp 45) 24 rfl 9 i0 (.string .empty) 1 16 Tryz.underlying24 hi0 hz0 hz1 hz2 rfl (.slice (some ⟨g3, off3, none⟩) (k + 1) c3) (k + 1) ((L.take k).map Value.string ++ [.string x]) rfl Hs2.out (.slice (some ⟨g2, off2 + k, none⟩) (L.length - k) (xc - k)) (L.length - k) ((L.drop k).map Value.string) rfl (HrB.out.fr Hf2.out (by simp)) (one_strings _) ⟨by have := Hl.out; have := HLl.out; omega, by have := Hl.out; have := HLl.out; omega⟩ ?_)
        intro v3 w3 hs3 hf3 hb3
        obtain ⟨za, zc, rfl, _, _⟩ := hs3.shape
        try rw [<- List.map_take] at hs3
        try rw [<- List.map_drop] at hs3
        have hlen3 : ((L.take k) ++ x :: (L.drop k)).length = k + 1 + (L.length - k) := by simp; omega
        have hnew3 : w3.Sl 9 1 (.slice za (k + 1 + (L.length - k)) zc) (risL (l.take (j + 1))).length ((risL (l.take (j + 1))).map Value.string) /\ (∀ q, q ∈ (Value.slice za (k + 1 + (L.length - k)) zc).blk -> w.heap.size <= q) /\ w.Fr w3 [] := by
         rw [Hsu.out, Hins.out, hlen3]
         refine ⟨?_, fun q hq => ?_, ?_⟩
         ·have e : ((L.take k) ++ x :: (L.drop k)).map Value.string = (L.take k).map Value.string ++ .string x :: (L.drop k).map Value.string := by simp only [List.map_append, List.map_cons]
          rw [e]; exact hs3
         ·have hh := hb3 q hq
          have hz := HS.out.2.2.size
          have hz2 := HF0.out.size
          have hz3 := Hf2.out.size
          have hz4 := Hn2.out
          rcases hh with h | h
          ·simp [Value.blk] at h; omega
          ·omega
         ·exact (HS.out.2.2.trans (HF0.out.trans Hf2.out (by simp)) (by simp)).trans hf3 (fun q hq => .inr (by simp [Value.blk] at hq; have hz := HS.out.2.2.size; have hz2 := HF0.out.size; have hz4 := Hn2.out; omega))
        have Hnew3 := Hz hnew3
        clear hs3 hf3 hb3 hnew3 hlen3
        go_wp2
        go_roundw
        case rel => exact ⟨j + 1, by go_num, by omega, Hnew3⟩
        case measure => simp [intOf]; omega
     ·have kb : decide ((k : Int) < (L.length : Int)) = false := decide_eq_false (by omega)
      have kb2 : decide (k < L.length) = false := decide_eq_false hkl
      have hins := insS_at k L hk HE.out (.inl (by omega))
      go_wp2
      go_quiet (fail)
      generalize hW : World.drewN wr nq = W1 at *
      have hf0 : wQ.Fr W1 [] := by rw [<- hW]; exact HF.out.of_drewN _
      have kx := cellFrA hf0 Hkx.out
      have HF0 := Hz hf0
      clear kx2 hW hf0
      have hk1 : (k : Int) <= (L.length : Int) := by omega
      have hk2 : (L.length : Int) <= (xc : Int) := by omega
      have hk3 : (k : Int) <= (xc : Int) := by omega
      have hrd0 := (HS.out.1.fr HF0.out (by simp)).rd
      have hrdA : W1.Rd 1 (.slice (some ⟨g2, off2, none⟩) k xc) k ((L.take k).map Value.string) := by have := rd_take hrd0 hk; rwa [Nat.mul_one, <- List.map_take] at this
      have hrdB : W1.Rd 1 (.slice (some ⟨g2, off2 + k, none⟩) (L.length - k) (xc - k)) (L.length - k) ((L.drop k).map Value.string) := by have := rd_drop hrd0 hk; rwa [Nat.mul_one, <- List.map_drop] at this
      have HrA := Hz hrdA; have HrB := Hz hrdB
      clear hrd0 hrdA hrdB
      have Hins := Hz hins
      clear hins
      obtain ⟨i0, hi0, hz0, hz1, hz2⟩ := info_parts infoS
      go_wp2_with (at_builtin; refine wpList_append_src _ rfl (.tmp 30) (.tmp 33) 24 rfl 9 i0 (.string .empty) 1 16 Tryz.underlying24 hi0 hz0 hz1 hz2 rfl (.slice none 0 0) 0 [] rfl (World.Sl.nil _ _ _) (.slice (some ⟨g2, off2, none⟩) k xc) (k) ((L.take k).map Value.string) rfl HrA.out (one_strings _) ⟨by have := Hl.out; have := HLl.out; omega, by have := Hl.out; have := HLl.out; omega⟩ ?_)
      intro v' w1 hs1 hf1 hb1
      obtain ⟨ya, yc, rfl, _, _⟩ := hs1.shape
      try simp only [Nat.zero_add, List.nil_append] at hs1
      try rw [<- List.map_take] at hs1
      try simp only [Nat.zero_add]
      have hf1' : W1.Fr w1 [] := by simpa [Value.blk] using hf1
      have hn1 : ∀ q, q ∈ (Value.slice ya (k) yc).blk -> W1.heap.size <= q := fun q hq => by
       rcases hb1 q hq with h | h
       ·simp [Value.blk] at h
       ·omega
      have kx3 := cellFrA hf1' kx
      have hgl : g < w1.heap.size + 1 := by have := HF0.out.size; have := hf1'.size; omega
      have Hs1 := Hz hs1; have Hf1 := Hz hf1'; have Hn1 := Hz hn1
      clear hs1 hf1 hb1 hf1' hn1 kx i0 hi0 hz0 hz1 hz2
      obtain ⟨i0, hi0, hz0, hz1, hz2⟩ := info_parts infoS
      go_wp2_with (at_builtin; refine wpList_append_one _ rfl (.tmp 35) (.tmp 40) 24 rfl 9 i0 (.string .empty) 1 16 Tryz.underlying24 hi0 hz0 hz1 hz2 rfl (.slice ya (k) yc) (k) ((L.take k).map Value.string) rfl (Hs1.out.alloc _) w1.heap.size 1 [.string x] 9 rfl (heap_alloc_at _ _ _ rfl) rfl rfl ⟨by have := Hl.out; have := HLl.out; omega, by have := Hl.out; have := HLl.out; omega⟩ ?_)
      intro g3 off3 c3 w2 hs2 hf2 hat hlt3
      try rw [<- List.map_take] at hs2
      have hf12 : W1.Fr w2 [] := (Hf1.out.alloc (.cells #[.string x] 9)).trans hf2 (fun q hq => .inr (Hn1.out q hq))
      have hn2 : W1.heap.size <= g3 := by
       rcases hat with h | h
       ·exact Hn1.out _ h
       ·have := Hf1.out.size; (try simp at h); omega
      have Hs2 := Hz hs2; have Hf2 := Hz hf12; have Hn2 := Hz hn2
      clear hs2 hf2 hat hlt3 hf12 hn2 kx3 i0 hi0 hz0 hz1 hz2
      by_cases hxk : xc = k
      ·have hlk : L.length - k = 0 := by omega
       have hdk : L.drop k = [] := List.drop_of_length_le (by omega)
       subst hxk
       have hc3 : xc + 1 <= c3 := by
        obtain ⟨_, _, he, hcc, _⟩ := Hs2.out.shape
        cases he
        exact hcc
       try simp only [Nat.zero_add] at hc3
       have hlen3 : ((L.take xc) ++ x :: (L.drop xc)).length = xc + 1 := by rw [hdk]; simp; omega
       have hnew3 : w2.Sl 9 1 (.slice (some ⟨g3, off3, none⟩) (xc + 1) c3) (risL (l.take (j + 1))).length ((risL (l.take (j + 1))).map Value.string) /\ (∀ q, q ∈ (Value.slice (some ⟨g3, off3, none⟩) (xc + 1) c3).blk -> w.heap.size <= q) /\ w.Fr w2 [] := by
        rw [Hsu.out, Hins.out, hlen3]
        refine ⟨?_, fun q hq => ?_, ?_⟩
        ·have e : ((L.take xc) ++ x :: (L.drop xc)).map Value.string = (L.take xc).map Value.string ++ [.string x] := by rw [hdk]; simp
         rw [e]; exact Hs2.out
        ·have hz := HS.out.2.2.size
         have hz2 := HF0.out.size
         have hz4 := Hn2.out
         simp [Value.blk] at hq
         omega
        ·exact HS.out.2.2.trans (HF0.out.trans Hf2.out (by simp)) (by simp)
       have Hnew3 := Hz hnew3
       clear hnew3 hlen3
       go_wp2
       go_roundw
       case rel => exact ⟨j + 1, by go_num, by omega, Hnew3⟩
       case measure => simp [intOf]; omega
      ·obtain ⟨i0, hi0, hz0, hz1, hz2⟩ := info_parts infoS
       go_wp2_with (at_builtin; refine wpList_append_src _ rfl (.tmp 42) (.tmp 45) 24 rfl 9 i0 (.string .empty) 1 16 Tryz.underlying24 hi0 hz0 hz1 hz2 rfl (.slice (some ⟨g3, off3, none⟩) (k + 1) c3) (k + 1) ((L.take k).map Value.string ++ [.string x]) rfl Hs2.out (.slice (some ⟨g2, off2 + k, none⟩) (L.length - k) (xc - k)) (L.length - k) ((L.drop k).map Value.string) rfl (HrB.out.fr Hf2.out (by simp)) (one_strings _) ⟨by have := Hl.out; have := HLl.out; omega, by have := Hl.out; have := HLl.out; omega⟩ ?_)
       intro v3 w3 hs3 hf3 hb3
       obtain ⟨za, zc, rfl, _, _⟩ := hs3.shape
       try rw [<- List.map_take] at hs3
       try rw [<- List.map_drop] at hs3
       have hlen3 : ((L.take k) ++ x :: (L.drop k)).length = k + 1 + (L.length - k) := by simp; omega
       have hnew3 : w3.Sl 9 1 (.slice za (k + 1 + (L.length - k)) zc) (risL (l.take (j + 1))).length ((risL (l.take (j + 1))).map Value.string) /\ (∀ q, q ∈ (Value.slice za (k + 1 + (L.length - k)) zc).blk -> w.heap.size <= q) /\ w.Fr w3 [] := by
        rw [Hsu.out, Hins.out, hlen3]
        refine ⟨?_, fun q hq => ?_, ?_⟩
        ·have e : ((L.take k) ++ x :: (L.drop k)).map Value.string = (L.take k).map Value.string ++ .string x :: (L.drop k).map Value.string := by simp only [List.map_append, List.map_cons]
         rw [e]; exact hs3
        ·have hh := hb3 q hq
         have hz := HS.out.2.2.size
         have hz2 := HF0.out.size
         have hz3 := Hf2.out.size
         have hz4 := Hn2.out
         rcases hh with h | h
         ·simp [Value.blk] at h; omega
         ·omega
        ·exact (HS.out.2.2.trans (HF0.out.trans Hf2.out (by simp)) (by simp)).trans hf3 (fun q hq => .inr (by simp [Value.blk] at hq; have hz := HS.out.2.2.size; have hz2 := HF0.out.size; have hz4 := Hn2.out; omega))
       have Hnew3 := Hz hnew3
       clear hs3 hf3 hb3 hnew3 hlen3
       go_wp2
       go_roundw
       case rel => exact ⟨j + 1, by go_num, by omega, Hnew3⟩
       case measure => simp [intOf]; omega
  ·have hd : decide ((j : Int) < (l.length : Int)) = false := decide_eq_false (by omega)
   have hd2 : decide (j < l.length) = false := decide_eq_false hlt
   obtain rfl : j = l.length := by omega
   have h := HS.out
   rw [List.take_of_length_le (Nat.le_refl _)] at h
   have Hh := Hz h
   clear h HS hLl hlt
   go_wp2
   go_ret
   exact ⟨_, rfl, Hh.out.1, Hh.out.2.1, Hh.out.2.2⟩
end
end Go.Proofs.YtbejmdlncnkaaaaGreat
