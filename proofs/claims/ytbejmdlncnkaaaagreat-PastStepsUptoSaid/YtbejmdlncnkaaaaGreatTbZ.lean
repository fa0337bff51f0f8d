/-
  Keys tell values apart: plainly. The walk of table.Anti. The walks of slices.Grow, Concat of names and of rows. The walk of table.Join.
-/
import Derived.Test.YtbejmdlncnkaaaaGreatKys
import Derived.Test.YtbejmdlncnkaaaaGreatTbs
import Derived.Lib.AppendZeros
set_option maxRecDepth 100000
set_option maxHeartbeats 16000000
set_option linter.unusedSimpArgs false
namespace Go.Proofs.YtbejmdlncnkaaaaGreat
section
open Go.RowKit
theorem byt_inj {x y : Int} (h : byt x = byt y) : x % 256 = y % 256 := by
 have h1 := congrArg UInt8.toNat h
 unfold byt at h1
 rw [UInt8.toNat_ofNat', UInt8.toNat_ofNat'] at h1
 have a1 := Int.emod_nonneg x (show (256 : Int) ≠ 0 by decide)
 have a2 := Int.emod_lt_of_pos x (show (0 : Int) < 256 by decide)
 have b1 := Int.emod_nonneg y (show (256 : Int) ≠ 0 by decide)
 have b2 := Int.emod_lt_of_pos y (show (0 : Int) < 256 by decide)
 omega
theorem bytes_mod : ∀ (t : Nat) (n m : Int), (∀ j, j < t -> (n / 2 ^ (8 * j)) % 256 = (m / 2 ^ (8 * j)) % 256) -> n % (256 ^ t) = m % (256 ^ t)
 | 0, n, m, _ => by simp [Int.emod_one]
 | t + 1, n, m, h => by
  have h0 := h 0 (by omega)
  simp at h0
  have ih := bytes_mod t (n / 256) (m / 256) (fun j hj => by
   have := h (j + 1) (by omega)
   have e : (2 : Int) ^ (8 * (j + 1)) = 256 * 2 ^ (8 * j) := by rw [show 8 * (j + 1) = 8 + 8 * j by omega, Int.pow_add]; rfl
   rw [e, <- Int.ediv_ediv_of_nonneg (by decide), <- Int.ediv_ediv_of_nonneg (by decide)] at this
   exact this)
  have key : ∀ x : Int, x % 256 ^ (t + 1) = x % 256 + 256 * ((x / 256) % 256 ^ t) := fun x => by
   have hp : (0 : Int) < 256 ^ t := Int.pow_pos (by decide)
   have e : (256 : Int) ^ (t + 1) = 256 * 256 ^ t := by rw [Int.pow_succ, Int.mul_comm]
   have h1 := Int.emod_nonneg x (show (256 : Int) ≠ 0 by decide)
   have h2 := Int.emod_lt_of_pos x (show (0 : Int) < 256 by decide)
   have h3 := Int.emod_nonneg (x / 256) (show (256 : Int) ^ t ≠ 0 by omega)
   have h4 := Int.emod_lt_of_pos (x / 256) hp
   have h5 := Int.emod_add_mul_ediv x 256
   have h6 := Int.emod_add_mul_ediv (x / 256) (256 ^ t)
   have h7 : x = (x % 256 + 256 * ((x / 256) % 256 ^ t)) + (256 * 256 ^ t) * (x / 256 / 256 ^ t) := by
    have : 256 * (x / 256) = 256 * ((x / 256) % 256 ^ t) + 256 * (256 ^ t * (x / 256 / 256 ^ t)) := by rw [<- Int.mul_add, h6]
    rw [<- Int.mul_assoc] at this
    omega
   rw [e]
   conv => lhs; rw [h7]
   rw [Int.add_mul_emod_self_left]
   exact Int.emod_eq_of_lt (by omega) (by
    have : 256 * ((x / 256) % 256 ^ t) + 256 <= 256 * 256 ^ t := by
     have := Int.mul_le_mul_of_nonneg_left (show (x / 256) % 256 ^ t + 1 <= 256 ^ t by omega) (show (0 : Int) <= 256 by decide)
     rw [Int.mul_add] at this
     omega
    omega)
  rw [key, key, h0, ih]
theorem bytes_inj {n m : Int} (hn : inI64 n) (hm : inI64 m) (h : ∀ j, j < 8 -> byt (n / 2 ^ (8 * j)) = byt (m / 2 ^ (8 * j))) : n = m := by
 have h1 := bytes_mod 8 n m (fun j hj => byt_inj (h j hj))
 have e : (256 : Int) ^ 8 = 18446744073709551616 := by decide
 rw [e] at h1
 unfold inI64 at hn hm
 omega
theorem keyN_inj {n d m e : Int} : ∀ t : Nat, (List.range t).flatMap (keyN n d) = (List.range t).flatMap (keyN m e) -> ∀ j, j < t -> byt (n / 2 ^ (8 * j)) = byt (m / 2 ^ (8 * j)) /\ byt (d / 2 ^ (8 * j)) = byt (e / 2 ^ (8 * j))
 | 0, _, _, hj => by omega
 | t + 1, h, j, hj => by
  rw [List.range_succ, List.flatMap_append, List.flatMap_append] at h
  obtain ⟨h1, h2⟩ := List.append_inj h (by rw [keyN_len, keyN_len])
  simp [keyN] at h2
  rcases Nat.lt_or_ge j t with hlt | hge
  ·exact keyN_inj t h1 j hlt
  ·obtain rfl : j = t := by omega
   exact h2
structure VOk (v : V) : Prop where
 ok : vcheck v = 0
 wf : v.wf
theorem VOk.small {v : V} (h : VOk v) : v.s.size <= 64 := by
 rcases ok_kind h.ok with k | k | k
 ·have := ok_int h.ok k; omega
 ·have := ok_rat h.ok k; omega
 ·have := ok_str h.ok k; omega
theorem keyV_inj {x y : V} {A B : List UInt8} (hx : VOk x) (hy : VOk y) (h : keyV x ++ A = keyV y ++ B) : x = y /\ A = B := by
 unfold keyV at h
 simp only [List.cons_append, List.append_assoc] at h
 injection h with h1 h2
 obtain ⟨h3, h4⟩ := List.append_inj h2 (by rw [keyN_len, keyN_len])
 injection h4 with h5 h6
 have hk := byt_inj h1
 have hs := byt_inj h5
 have s1 := hx.small
 have s2 := hy.small
 have hsz : x.s.size = y.s.size := by omega
 have hkk : x.k = y.k := by
  have := ok_kind hx.ok
  have := ok_kind hy.ok
  omega
 obtain ⟨h7, h8⟩ := List.append_inj h6 (by
  have e1 : x.s.data.toList.length = x.s.size := by rw [Array.length_toList]; rfl
  have e2 : y.s.data.toList.length = y.s.size := by rw [Array.length_toList]; rfl
  rw [e1, e2, hsz])
 have hb := keyN_inj 8 h3
 exact ⟨V.eq_of hkk (bytes_inj hx.wf.n hy.wf.n fun j hj => (hb j hj).1) (bytes_inj hx.wf.d hy.wf.d fun j hj => (hb j hj).2) (BA_ext h7), h8⟩
theorem keyL_inj : ∀ (xs ys : List V), xs.length = ys.length -> (∀ v, v ∈ xs -> VOk v) -> (∀ v, v ∈ ys -> VOk v) -> xs.flatMap keyV = ys.flatMap keyV -> xs = ys
 | [], [], _, _, _, _ => rfl
 | x :: xs, y :: ys, hl, h1, h2, h => by
  simp only [List.flatMap_cons] at h
  obtain ⟨e1, e2⟩ := keyV_inj (h1 x (by simp)) (h2 y (by simp)) h
  rw [e1, keyL_inj xs ys (by simpa using hl) (fun v hv => h1 v (by simp [hv])) (fun v hv => h2 v (by simp [hv])) e2]
 | [], _ :: _, hl, _, _, _ => by simp at hl
 | _ :: _, [], hl, _, _, _ => by simp at hl
theorem kyOf_pick (l want : List BA) (r : Row) : kyOf l want r = ⟨((pick l r want).flatMap keyV).toArray⟩ := by
 unfold kyOf keyS keyL plc pick
 rw [List.flatMap_map, List.flatMap_map]
theorem kyOf_eq {l m want : List BA} {r s : Row} (hr : r.length = l.length) (hs : s.length = m.length) (hl : ∀ x, x ∈ want -> x ∈ l) (hm : ∀ x, x ∈ want -> x ∈ m) (ho1 : ∀ v, v ∈ r -> VOk v) (ho2 : ∀ v, v ∈ s -> VOk v) :
  kyOf l want r = kyOf m want s ↔ pick l r want = pick m s want := by
 rw [kyOf_pick, kyOf_pick]
 constructor
 ·intro h
  have h1 := congrArg (fun b : BA => b.data.toList) h
  simp only at h1
  exact keyL_inj _ _ (by rw [pick_len, pick_len]) (fun v hv => ho1 v (pick_mem hl hr hv)) (fun v hv => ho2 v (pick_mem hm hs hv)) h1
 ·intro h; rw [h]
end
section
open Go.RowKit
theorem RdRows.at2 {w w' : World} {h : Value} {rs : List Row} {hs : List Value} (hr : RdRows w h rs hs) (hf : w.Fr w' []) {j : Nat} {r : Row} (hj : rs[j]? = some r) : ∃ g off c a m, h = .slice (some ⟨g, off, none⟩) rs.length c /\ g < w'.heap.size /\
  w'.cell? ⟨g, off + j, none⟩ = some (.slice a r.length m) /\ RdRow w (.slice a r.length m) r := by
 obtain ⟨g, off, c, a, m, h1, h2, h3, h4⟩ := hr.at hj
 refine ⟨g, off, c, a, m, h1, Nat.lt_of_lt_of_le h2 hf.size, ?_, h4⟩
 rw [<- h3]
 exact World.cell?_of_block (a := ⟨g, off + j, none⟩) (hf.block g h2 (by simp))
open Classical in
noncomputable def antiRows (a b : Tb) : List Row := a.rows.filter fun x => decide (∀ y, y ∈ b.rows -> pick b.vars y (sharedL a.vars b.vars) ≠ pick a.vars x (sharedL a.vars b.vars))
noncomputable def antiT (cf : V -> V -> Int) (a b : Tb) : Int × Tb := if bothE cf a b ≠ 0 then (bothE cf a b, tNone) else (0, madeT cf a.vars (antiRows a b))
theorem bothE_zero {cf : V -> V -> Int} {a b : Tb} (h : bothE cf a b = 0) : tcheck cf a = 0 /\ tcheck cf b = 0 := by
 unfold bothE at h
 split at h
 ·exact ⟨by assumption, h⟩
 ·rename_i hn; exact absurd h hn
theorem sharedL_mem {a b : List BA} {x : BA} : x ∈ sharedL a b ↔ x ∈ a /\ x ∈ b := by unfold sharedL hasS; simp
theorem sharedL_len (a b : List BA) : (sharedL a b).length <= a.length := List.length_filter_le _ _
theorem RdTab.wf {w : World} {v : Value} {t : Tb} (h : RdTab w v t) : ∀ r, r ∈ t.rows -> ∀ x, x ∈ r -> x.wf := fun r hr => by
 obtain ⟨a, b, hs, _, _, h2⟩ := h.ex
 obtain ⟨i, hi⟩ := List.getElem?_of_mem hr
 obtain ⟨_, _, _, _, _, _, _, _, h3⟩ := h2.at hi
 exact h3.wf
open Classical in
theorem grp_none {a b : Tb} {ps : List HR} (hp : ps.map (·.2) = b.rows) {want : List BA} {x : Row} (hxl : x.length = a.vars.length) (hbl : ∀ r, r ∈ b.rows -> r.length = b.vars.length) (h1 : ∀ s, s ∈ want -> s ∈ a.vars) (h2 : ∀ s, s ∈ want -> s ∈ b.vars) (ho1 : ∀ v, v ∈ x -> VOk v) (ho2 : ∀ r, r ∈ b.rows -> ∀ v, v ∈ r -> VOk v) :
  (grp (kyOf b.vars want) ps (kyOf a.vars want x)).length = 0 ↔ ∀ y, y ∈ b.rows -> pick b.vars y want ≠ pick a.vars x want := by
 rw [List.length_eq_zero_iff]
 unfold grp
 rw [List.filter_eq_nil_iff]
 constructor
 ·intro h y hy he
  rw [<- hp] at hy
  obtain ⟨p, hpm, rfl⟩ := List.mem_map.1 hy
  have hy2 : p.2 ∈ b.rows := by rw [<- hp]; exact List.mem_map_of_mem hpm
  have := h p hpm
  rw [decide_eq_true_iff] at this
  exact this ((kyOf_eq (hbl _ hy2) hxl h2 h1 (ho2 _ hy2) ho1).2 he)
 ·intro h p hpm
  have hy2 : p.2 ∈ b.rows := by rw [<- hp]; exact List.mem_map_of_mem hpm
  rw [decide_eq_true_iff]
  intro he
  exact h p.2 hy2 ((kyOf_eq (hbl _ hy2) hxl h2 h1 (ho2 _ hy2) ho1).1 he)
open Classical in
theorem anti26 {okc : V -> Prop} {cf : V -> V -> Int} (hK : Ctx okc cf) {w : World} {v1 v2 : Value} {a b : Tb} (h1 : RdTab w v1 a) (h2 : RdTab w v2 b) (ha : Fits okc a) (hb : Fits okc b) :
  Calls Tryz.prog 55 #[v1, v2] w fun e w' => ∃ v, e = .returned (.tuple #[v, .int .i64 (antiT cf a b).1]) /\ OwnTab w w' v (antiT cf a b).2 := by
 have hboth := fun w' (hf : w.Fr w' []) => both62 hK.known (h1.still hf) (h2.still hf) ha.ok hb.ok ha.small hb.small
 have hlook := fun w' (hf : w.Fr w' []) v (hv : RdStr w' v (sharedL a.vars b.vars)) => lookup69 (h2.still hf) hv
 have hwf1 := h1.wf
 have hwf2 := h2.wf
 obtain ⟨x1, y1, hs1, rfl, hv1, hr1⟩ := h1.ex
 obtain ⟨x2, y2, hs2, rfl, hv2, hr2⟩ := h2.ex
 obtain ⟨a1, c1, rfl, _, _⟩ := hv1.rd.shape
 obtain ⟨a2, c2, rfl, _, _⟩ := hr1.rd.shape
 obtain ⟨a3, c3, rfl, _, _⟩ := hv2.rd.shape
 obtain ⟨a4, c4, rfl, _, _⟩ := hr2.rd.shape
 have hlen := hr1.len
 have hlen2 := hr2.len
 generalize hR : antiT cf a b = R
 rw [hlen] at hr1 hboth ⊢
 rw [hlen2] at hr2 hboth hlook ⊢
 clear hlen hlen2 h1 h2
 have Hv1 := Hz hv1; have Hv2 := Hz hv2; have Hr1 := Hz hr1; have Ha := Hz ha; have Hb := Hz hb; have HK := Hz hK; have Hboth := Hz hboth; have Hlook := Hz hlook; have HR := Hz hR; have Hwf1 := Hz hwf1; have Hwf2 := Hz hwf2; clear hv1 hv2 hr1 hr2 ha hb hK hboth hlook hR hwf1 hwf2
 go_enter Tryz.func55, Tryz.ntmps55
 go_upto_region 1 with (fail)
 generalize hW : World.alloc (World.alloc (World.alloc w _) _) _ = W
 have q1 : W.heap[w.heap.size]? = some (.cells #[.slice a1 a.vars.length c1, .slice a2 a.rows.length c2] 34 (0, 0)) := by rw [<- hW]; exact heap_alloc_some (heap_alloc_some (heap_alloc_at _ _ _ rfl) _) _
 have q2 : W.heap[w.heap.size + 1]? = some (.cells #[.slice a3 b.vars.length c3, .slice a4 b.rows.length c4] 34 (0, 0)) := by rw [<- hW]; exact heap_alloc_some (heap_alloc_at _ _ _ (by simp)) _
 have q4 : W.heap[w.heap.size + 1 + 1]? = some (.cells #[.slice none 0 0, .slice none 0 0] 34 (0, 0)) := by rw [<- hW]; exact heap_alloc_at _ _ _ (by simp)
 have q3 : w.Fr W [] := by rw [<- hW]; exact (((World.Fr.refl w []).alloc _).alloc _).alloc _
 clear hW
 generalize hb1 : w.heap.size = b1 at *
 have Hb1 := Hz hb1; clear hb1
 obtain ⟨p0, p1, pf⟩ := two q1
 obtain ⟨s0, s1, sf⟩ := two q2
 have Q1 := Hz q1; have Q2 := Hz q2; have Q3 := Hz q3; have Q4 := Hz q4; clear q1 q2 q3 q4
 go_wp2_with fail
 refine (Hboth.out _ Q3.out).mono ?_
 rintro e w1 ⟨rfl, hf1⟩
 have q1 := hf1.heap Q1.out (by simp)
 have q2 := hf1.heap Q2.out (by simp)
 have q4 := hf1.heap Q4.out (by simp)
 have q3 := Q3.out.trans hf1 (by simp)
 clear p0 p1 pf s0 s1 sf Q1 Q2 Q3 Q4 hf1 Hboth
 obtain ⟨p0, p1, pf⟩ := two q1
 obtain ⟨s0, s1, sf⟩ := two q2
 obtain ⟨r0, r1, rf⟩ := two q4
 have hlb := lt_of_heap q1
 have hlb2 := lt_of_heap q2
 have hlb4 := lt_of_heap q4
 have Q1 := Hz q1; have Q2 := Hz q2; have Q3 := Hz q3; have Q4 := Hz q4; clear q1 q2 q3 q4
 by_cases h0 : bothE cf a b = 0
 ·rw [h0]
  have hres : R = (0, madeT cf a.vars (antiRows a b)) := by rw [<- HR.out]; unfold antiT; rw [if_neg (by simp [h0])]
  subst hres
  obtain ⟨ha0, hb0⟩ := bothE_zero h0
  obtain ⟨k1, k2, k3, k4⟩ := tcheck_zero ha0
  obtain ⟨l1, l2, l3, l4⟩ := tcheck_zero hb0
  have hsh := shared63 (Hv1.out.fr Q3.out (by simp)) (Hv2.out.fr Q3.out (by simp)) (by omega) (by omega)
  have Hsh := Hz hsh; have K1 := Hz k1; have K2 := Hz k2; have K3 := Hz k3; have L1 := Hz l1; have L3 := Hz l3
  clear hsh h0 HR ha0 hb0 k1 k2 k3 k4 l1 l2 l3 l4
  go_wp2_with fail
  refine Hsh.out.mono ?_
  rintro e w2 ⟨vw, rfl, how⟩
  obtain ⟨wa, wc, rfl⟩ := how.shape
  rw [List.length_map] at how ⊢
  have hwrd := how.rd (fun s hs => Hv1.out.wf s (sharedL_mem.1 hs).1)
  have q1 := how.fr.heap Q1.out (by simp)
  have q2 := how.fr.heap Q2.out (by simp)
  have q4 := how.fr.heap Q4.out (by simp)
  have q3 := Q3.out.trans how.fr (by simp)
  clear p0 p1 pf s0 s1 sf r0 r1 rf hlb hlb2 hlb4 Q1 Q2 Q3 Q4 Hsh how
  obtain ⟨p0, p1, pf⟩ := two q1
  obtain ⟨s0, s1, sf⟩ := two q2
  have hlb := lt_of_heap q1
  have hlb2 := lt_of_heap q2
  have Q1 := Hz q1; have Q2 := Hz q2; have Q3 := Hz q3; have Q4 := Hz q4; have Hwrd := Hz hwrd; clear q1 q2 q3 q4 hwrd
  have hlk := Hlook.out _ Q3.out _ Hwrd.out L1.out (by have := sharedL_len a.vars b.vars; have := K1.out; omega) Hb.out.rows (fun r hr => (L3.out r hr).1) (fun r hr x hx => VOk.small ⟨(L3.out r hr).2 x hx, Hwf2.out r hr x hx⟩) (fun x hx => (sharedL_mem.1 hx).2)
  have Hlk := Hz hlk; clear hlk
  go_wp2_with fail
  refine Hlk.out.mono ?_
  rintro e w3 ⟨mb, ps, rfl, hgg, hp2, hpr⟩
  have q1 := hgg.fr.heap Q1.out (by simp)
  have q2 := hgg.fr.heap Q2.out (by simp)
  have q4 := hgg.fr.heap Q4.out (by simp)
  have q3 := Q3.out.trans hgg.fr (by simp)
  have hwrd := Hwrd.out.fr hgg.fr (by simp)
  have Hgg := Hz hgg; have Hp2 := Hz hp2
  clear p0 p1 pf s0 s1 sf hlb hlb2 Q1 Q2 Q3 Q4 Hlk hgg hp2 hpr Hwrd Hlook
  obtain ⟨p0, p1, pf⟩ := two q1
  have hlb := lt_of_heap q1
  have Q1 := Hz q1; have Q3 := Hz q3; have Q4 := Hz q4; have Hwrd := Hz hwrd; clear q1 q2 q3 q4 hwrd
  have hpl := places70 (Hv1.out.fr Q3.out (by simp)) Hwrd.out (by have := K1.out; omega) (by have := sharedL_len a.vars b.vars; have := K1.out; omega)
  have Hpl := Hz hpl; clear hpl
  go_wp2_with fail
  refine Hpl.out.mono ?_
  rintro e w4 ⟨vp, rfl, hop⟩
  obtain ⟨pa, pc, rfl⟩ := hop.shape
  have hpw : (pcells a.vars (sharedL a.vars b.vars)).length = (sharedL a.vars b.vars).length := by simp
  rw [hpw] at hop ⊢
  have hin1 : ∀ s, s ∈ sharedL a.vars b.vars -> s ∈ a.vars := fun s hs => (sharedL_mem.1 hs).1
  have hin2 : ∀ s, s ∈ sharedL a.vars b.vars -> s ∈ b.vars := fun s hs => (sharedL_mem.1 hs).2
  have q1 := hop.fr.heap Q1.out (by simp)
  have q4 := hop.fr.heap Q4.out (by simp)
  have q3 := Q3.out.trans hop.fr (by simp)
  have hgg := Hgg.out.still hop.fr
  have hps := hop.sl
  rw [hpw, plc_cells hin1] at hps
  have hwl : (sharedL a.vars b.vars).length <= 8 := Nat.le_trans (sharedL_len _ _) K1.out
  clear p0 p1 pf hlb Q1 Q3 Q4 Hpl hop hpw Hgg Hwrd
  obtain ⟨p0, p1, pf⟩ := two q1
  have hlb := lt_of_heap q1
  have Q1 := Hz q1; have Q3 := Hz q3; have Q4 := Hz q4; have Hgg := Hz hgg; have Hps := Hz hps; have Hin1 := Hz hin1; have Hin2 := Hz hin2; have Hwl := Hz hwl; clear q1 q3 q4 hgg hps hin1 hin2 hwl
  have HR0 : Hid (RowsR w4 w4 (.slice none 0 0) [] []) := Hz (RowsR.nil w4)
  go_wp2
  clear p0 p1 pf hlb
  go_loopw [35, 10] (fun i vb wr => ∃ (j : Nat) (hsn : List Value), i = .int .i64 j /\ j <= a.rows.length /\ Hid (RowsR w4 wr vb hsn ((a.rows.take j).filter fun x => decide (∀ y, y ∈ b.rows -> pick b.vars y (sharedL a.vars b.vars) ≠ pick a.vars x (sharedL a.vars b.vars)))) /\ Hid (hsn.length <= j)) (fun i _ _ => (a.rows.length - intOf i).toNat)
  case atStart => exact ⟨0, [], rfl, Nat.zero_le _, HR0, Hz (Nat.le_refl _)⟩
  case round =>
   obtain ⟨j, hsn, rfl, hj, HRr, Hhl⟩ := hrel
   obtain ⟨xa, xc, hxv, _, _⟩ := HRr.out.sl.shape
   subst hxv
   by_cases hlt : j < a.rows.length
   ·obtain ⟨r, hr⟩ : ∃ r, a.rows[j]? = some r := ⟨a.rows[j], List.getElem?_eq_getElem hlt⟩
    have hrm := List.mem_of_getElem? hr
    have hrl := (K3.out r hrm).1
    have hfr := Q3.out.trans HRr.out.fr (by simp)
    obtain ⟨g, off, c, ax, mx, hv, hg, kx, hrow0⟩ := Hr1.out.at2 hfr hr
    cases hv
    have hrow := hrow0.fr hfr (by simp)
    have hjI : (j : Int) < (a.rows.length : Int) := by omega
    have hw1 : IntKind.i64.wrap ((j : Int) + 1) = (j : Int) + 1 := IntWalk.i64_in _ (by have := Ha.out.rows; omega)
    have hvok : ∀ v, v ∈ r -> VOk v := fun v hv => ⟨(K3.out r hrm).2 v hv, Hwf1.out r hrm v hv⟩
    have hkey := key71 (plc a.vars (sharedL a.vars b.vars)) hrow (v2 := .slice pa (sharedL a.vars b.vars).length pc) (by rw [plc_len]; exact Hps.out.fr HRr.out.fr (by simp)) (fun q hq => by rw [hrl]; exact plc_lt Hin1.out q hq) (by rw [plc_len]; exact Hwl.out) (by rw [hrl]; exact K1.out) (fun x hx => (hvok x hx).small)
    have hks := kyOf_size (fun x hx => (hvok x hx).small) hrl Hin1.out Hwl.out
    have hno := grp_none Hp2.out hrl (fun r hr => (L3.out r hr).1) Hin1.out Hin2.out hvok (fun r hr v hv => ⟨(L3.out r hr).2 v hv, Hwf2.out r hr v hv⟩)
    have htk : a.rows.take (j + 1) = a.rows.take j ++ [r] := by
     rw [List.take_succ_eq_append_getElem hlt, (List.getElem?_eq_some_iff.1 hr).2]
    have hxlt := hrow0.rd.lt
    have Hkey := Hz hkey; have Hks := Hz hks; have Hno := Hz hno; have Htk := Hz htk; have Hrow := Hz hrow; have Hfr := Hz hfr; have Hxlt := Hz hxlt
    clear hkey hks hno htk hrow hfr hvok hr hrm hrl hxlt hrow0
    change Hid (Calls Tryz.prog 120 _ _ fun e w' => e = .returned (.string (kyOf a.vars (sharedL a.vars b.vars) r)) /\ _) at Hkey
    generalize kyOf a.vars (sharedL a.vars b.vars) r = key at *
    go_wp2_with fail
    refine Hkey.out.mono ?_
    rintro e w5 ⟨rfl, hf5⟩
    have hgg := (Hgg.out.still HRr.out.fr).still hf5
    obtain ⟨n, f, hn, hgm, hsl, hbl, hdj⟩ := hgg.ex
    have hlk := hgm.look (x := key) (by have := Hks.out; unfold maxLen; omega)
    obtain ⟨va, vc, hva, _, _⟩ := (hsl key).shape
    rw [hva] at hlk
    have HRs := Hz (HRr.out.still hf5)
    have Hrow5 := Hz (Hrow.out.fr hf5 (by simp))
    clear hgg hn hgm hsl hbl hdj hva kx Hkey
    by_cases hz : (grp (kyOf b.vars (sharedL a.vars b.vars)) ps key).length = 0
    ·have hP := Hno.out.1 hz
     rw [hz] at hlk
     have hsnr : ((a.rows.take (j + 1)).filter fun x => decide (∀ y, y ∈ b.rows -> pick b.vars y (sharedL a.vars b.vars) ≠ pick a.vars x (sharedL a.vars b.vars))) = ((a.rows.take j).filter fun x => decide (∀ y, y ∈ b.rows -> pick b.vars y (sharedL a.vars b.vars) ≠ pick a.vars x (sharedL a.vars b.vars))) ++ [r] := by
      rw [Htk.out, List.filter_append, List.filter_cons, if_pos (decide_eq_true hP)]; rfl
     obtain ⟨ih, hih, hh0, hh1, hh2⟩ := info_parts infoH
     have hsl0 := HRs.out.sl
     have Hsnr := Hz hsnr; have Hsl0 := Hz hsl0
     clear hsnr hsl0 hP hz
     generalize hhn : hsn.length = hn at *
     have Hhn := Hz hhn; clear hhn
     have hroom : hn < 5864062014634 := by have := Hhl.out; have := Ha.out.rows; omega
     go_wp2_with (at_builtin; refine wpList_append_one _ rfl (.tmp 46) (.tmp 48) 32 rfl 81 ih (.slice none 0 0) 1 24 Tryz.underlying32 hih hh0 hh1 hh2 rfl (.slice xa hn xc) hn hsn rfl (Hsl0.out.alloc _) w5.heap.size 1 [.slice ax r.length mx] 81 rfl (heap_alloc_at _ _ _ rfl) rfl rfl ⟨by omega, by omega⟩ ?_)
     intro g3 off3 c3 w6 hsl3 hfr3 hat hlt3
     have hpush := HRs.out.push ((World.Fr.refl w5 []).alloc (.cells #[.slice ax r.length mx] 81)) (Hrow5.out.fr ((World.Fr.refl w5 []).alloc _) (by simp)) (fun k hk hk2 => by
      have e1 := Hxlt.out k hk
      have e2 := HRs.out.new k hk2
      have := Q3.out.size; omega) (g := g3) (off := off3) (c := c3) (by rw [Hhn.out]; exact hsl3) hfr3 (by rcases hat with h | h; exact .inl h; exact .inr (by simp at h ⊢; omega))
     rw [<- Hsnr.out, Hhn.out] at hpush
     have Hpush := Hz hpush
     clear hpush hsl3 hfr3 hat hlt3 hlk hroom
     go_wp2
     go_roundw
     case rel => exact ⟨j + 1, _, by go_num, by omega, Hpush, Hz (by have := Hhl.out; have := Hhn.out; simp; omega)⟩
     case measure => simp [intOf]; omega
    ·have hP := fun h => hz (Hno.out.2 h)
     have hzI : (((grp (kyOf b.vars (sharedL a.vars b.vars)) ps key).length : Int) == 0) = false := beq_eq_false_iff_ne.2 (by omega)
     have hsnr : ((a.rows.take (j + 1)).filter fun x => decide (∀ y, y ∈ b.rows -> pick b.vars y (sharedL a.vars b.vars) ≠ pick a.vars x (sharedL a.vars b.vars))) = ((a.rows.take j).filter fun x => decide (∀ y, y ∈ b.rows -> pick b.vars y (sharedL a.vars b.vars) ≠ pick a.vars x (sharedL a.vars b.vars))) := by
      rw [Htk.out, List.filter_append, List.filter_cons, if_neg (by rw [decide_eq_true_iff]; exact hP)]; simp
     have hrs := HRs.out
     rw [<- hsnr] at hrs
     have Hpush := Hz hrs
     clear hrs hsnr hP hz
     generalize (grp (kyOf b.vars (sharedL a.vars b.vars)) ps key).length = gl at *
     go_wp2
     go_roundw
     case rel => exact ⟨j + 1, _, by go_num, by omega, Hpush, Hz (by have := Hhl.out; omega)⟩
     case measure => simp [intOf]; omega
   ·have hd : decide ((j : Int) < (a.rows.length : Int)) = false := decide_eq_false (by omega)
    have hd2 : decide (j < a.rows.length) = false := decide_eq_false hlt
    obtain rfl : j = a.rows.length := by omega
    rw [List.take_of_length_le (Nat.le_refl _)] at HRr
    change Hid (RowsR w4 wr _ hsn (antiRows a b)) at HRr
    have hfr := Q3.out.trans HRr.out.fr (by simp)
    have hbx := HRr.out.fr.heap Q4.out (by simp)
    have hq1 := HRr.out.fr.heap Q1.out (by simp)
    have hsub : ∀ r, r ∈ antiRows a b -> r ∈ a.rows := fun r hr => (List.mem_filter.1 hr).1
    have hlen : (antiRows a b).length <= a.rows.length := List.length_filter_le _ _
    have hc := made73 HK.out.cmp HK.out.ord (Hv1.out.fr hfr (by simp)) HRr.out.rd K1.out (by have := Ha.out.rows; omega) (fun r hr => (K3.out r (hsub r hr)).1) (fun r hr x hx => ⟨Ha.out.ok r (hsub r hr) x hx, (K3.out r (hsub r hr)).2 x hx⟩) (nodup_of_pair K2.out)
    have Hc := Hz hc; have Hbx := Hz hbx; have Hfr := Hz hfr; clear hc hbx hfr hlt hj hsub hlen
    obtain ⟨p0, p1, pf⟩ := two hq1
    clear hq1
    go_wp2_with fail
    refine Hc.out.mono ?_
    rintro e w6 ⟨v, rfl, ho⟩
    obtain ⟨x1, y1, x2, y2, rfl⟩ := ho.shape
    have hbx := ho.fr.heap Hbx.out (by simp)
    have ho2 := (ho.since Hfr.out).put hbx (by have := Hb1.out; omega)
    clear p0 p1 pf
    obtain ⟨p0, p1, pf⟩ := two hbx
    have hbW := lt_of_heap hbx
    obtain ⟨f0, f1, _⟩ := two ho2.2
    have Hfin := Hz ho2.1
    clear ho2 ho hbx
    go_wp2
    refine bodyPost_ret (v := .tuple #[.agg #[.slice x1 _ y1, .slice x2 _ y2], .int .i64 0]) (by simp [results, Tryz.results55, go_sem, f0, f1]) rfl ⟨_, rfl, Hfin.out⟩
 ·have hres : R = (bothE cf a b, tNone) := by rw [<- HR.out]; unfold antiT; rw [if_pos h0]
  have h0b : (bothE cf a b == 0) = false := beq_eq_false_iff_ne.2 h0
  have h0c : (bothE cf a b != 0) = true := by simp [h0]
  clear h0 HR
  generalize bothE cf a b = z at *
  subst hres
  go_wp2
  have hfin := (OwnTab.empty (w := w) Q3.out).put Q4.out (by have := Hb1.out; omega)
  obtain ⟨f0, f1, _⟩ := two hfin.2
  have Hfin := Hz hfin.1
  clear hfin p0 p1 pf
  refine bodyPost_ret (v := .tuple #[.agg #[.slice none 0 0, .slice none 0 0], .int .i64 z]) (by simp [results, Tryz.results55, go_sem, f0, f1]) rfl ⟨_, rfl, Hfin.out⟩
end
section
open Go.RowKit
theorem grow98 {w : World} (n : Nat) (hn : n <= 8796093021952) : Calls Tryz.prog 170 #[.slice none 0 0, .int .i64 n] w fun e w' => ∃ v, e = .returned v /\ Own w w' 9 v [] := by
 obtain ⟨ie, hie, hi0, hi1, hi2⟩ := info_parts infoS
 have hpos : ¬ ((n : Int) < 0) := by omega
 have hw0 : IntKind.i64.wrap (n : Int) = (n : Int) := IntWalk.i64_in _ (by omega)
 by_cases h0 : n = 0
 ·subst h0
  go_enter Tryz.func170, Tryz.ntmps170
  go_wp2
  go_ret
  exact ⟨_, rfl, Own.nil w 9⟩
 ·have hp : (0 : Int) < (n : Int) := by omega
  have hr := fun ty => Lib.run_append_nil_zeros (P := Tryz.prog) w 24 3 ty 9 ie (.string .empty) .i64 .i64 Tryz.underlying24 Tryz.underlying3 hie hi0 n (by omega) (by rw [hi1]; decide) (by omega) (by rw [hi2]; omega)
  have hge := grownCap_ge w n 0 9
  have hcm := grownCap_le_maxLen w n 0 9 (by unfold maxLen; omega)
  have hown : Own w (w.drew.alloc (.cells (Builtin.zeroCells ((.string .empty) : Value).cells n ++ Builtin.zeroCells ((.string .empty) : Value).cells (grownCap w n 0 9 - n)) 9)) 9 (.slice (some ⟨w.heap.size, 0, none⟩) 0 (grownCap w n 0 9)) [] := by
   refine ⟨⟨rfl, .inr ⟨_, 0, _, _, rfl, heap_alloc_new w.drew _, Nat.zero_le _, hcm, ?_, rfl⟩⟩, by simp [Value.blk], ((World.Fr.refl w []).drew).alloc _⟩
   have hz : ((.string .empty) : Value).cells.size = 1 := rfl
   simp only [Array.size_append, size_zeroCells, hz]
   omega
  have Hown := Hz hown
  clear hown h0
  generalize (w.drew.alloc (.cells (Builtin.zeroCells ((.string .empty) : Value).cells n ++ Builtin.zeroCells ((.string .empty) : Value).cells (grownCap w n 0 9 - n)) 9)) = W at *
  have hcm2 : grownCap w n 0 9 <= 9223372036854775807 := by unfold maxLen at hcm; exact hcm
  generalize grownCap w n 0 9 = C at *
  have hnC : n <= C := hge
  clear hcm hge
  go_enter Tryz.func170, Tryz.ntmps170
  go_wp2_with (at_builtin; refine Lib.wpList_append_run _ rfl (.tmp 20) (.tmp 21) 24 3 rfl (.slice none 0 0) (.int .i64 n) rfl rfl _ _ (hr _) ?_)
  go_wp2
  go_ret
  exact ⟨_, rfl, Hown.out⟩
def sumLen (xss : List (List Value)) : Nat := (xss.map List.length).sum
theorem sumLen_take (xss : List (List Value)) (j : Nat) : sumLen (xss.take j) <= sumLen xss := by
 induction xss generalizing j with
 | nil => simp [sumLen]
 | cons x t ih =>
  cases j with
  | zero => simp [sumLen]
  | succ j => have := ih j; simp [sumLen] at this ⊢; omega
theorem sumLen_succ (xss : List (List Value)) (j : Nat) {xs : List Value} (h : xss[j]? = some xs) : sumLen (xss.take (j + 1)) = sumLen (xss.take j) + xs.length := by
 obtain ⟨h1, rfl⟩ := List.getElem?_eq_some_iff.1 h
 unfold sumLen
 rw [List.take_succ_eq_append_getElem h1, List.map_append, List.sum_append]
 simp
theorem flatten_len (xss : List (List Value)) (j : Nat) : (xss.take j).flatten.length = sumLen (xss.take j) := by simp [sumLen, List.length_flatten]
theorem concat68 {w : World} {v : Value} {hs : List Value} (xss : List (List Value)) (h : w.Rd 1 v hs.length hs) (hlen : hs.length = xss.length) (hrow : ∀ (i : Nat) (hv : Value) (xs : List Value), hs[i]? = some hv -> xss[i]? = some xs -> w.Rd 1 hv xs.length xs /\ xs.all Value.oneCell' = true) (hl : hs.length <= 100) (hsum : sumLen xss <= 8796093021952) :
  Calls Tryz.prog 117 #[v] w fun e w' => ∃ v', e = .returned v' /\ Own w w' 9 v' xss.flatten := by
 obtain ⟨a1, c1, rfl, _, _⟩ := h.shape
 obtain ⟨ie, hie, hi0, hi1, hi2⟩ := info_parts infoS
 have H := Hz h; have Hlen := Hz hlen; have Hrow := Hz hrow; have Hl := Hz hl; have Hsum := Hz hsum; clear h hlen hrow hl hsum
 go_enter Tryz.func117, Tryz.ntmps117
 go_wp2
 go_loopw [11, 3] (fun i s wr => ∃ j : Nat, i = .int .i64 j /\ j <= hs.length /\ s = .int .i64 (sumLen (xss.take j) : Nat) /\ wr = w) (fun i _ _ => (hs.length - intOf i).toNat)
 case atStart => exact ⟨0, rfl, Nat.zero_le _, rfl, rfl⟩
 case round =>
  obtain ⟨j, rfl, hj, rfl, rfl⟩ := hrel
  have hle := sumLen_take xss j
  by_cases hlt : j < hs.length
  ·obtain ⟨hv, hhv⟩ : ∃ hv, hs[j]? = some hv := ⟨hs[j], List.getElem?_eq_getElem hlt⟩
   obtain ⟨xs, hxs⟩ : ∃ xs, xss[j]? = some xs := ⟨xss[j]'(by have := Hlen.out; omega), List.getElem?_eq_getElem _⟩
   obtain ⟨hr1, hr2⟩ := Hrow.out j hv xs hhv hxs
   obtain ⟨ax, mx, rfl, _, _⟩ := hr1.shape
   obtain ⟨g, off, c, hve, _, _, hg, kcs⟩ := H.out.form (by omega)
   have kx := kcs j (by omega)
   clear kcs
   rw [hhv] at kx
   cases hve
   have hjI : (j : Int) < (hs.length : Int) := by omega
   have hw1 : IntKind.i64.wrap ((j : Int) + 1) = (j : Int) + 1 := IntWalk.i64_in _ (by have := Hl.out; omega)
   have hsn := sumLen_succ xss j hxs
   have hle2 := sumLen_take xss (j + 1)
   have hw2 : IntKind.i64.wrap ((sumLen (xss.take j) : Nat) + (xs.length : Int) : Int) = ((sumLen (xss.take (j + 1)) : Nat) : Int) := by
    rw [IntWalk.i64_in _ (by have := Hsum.out; omega), hsn]; omega
   have hnn : ¬ (((sumLen (xss.take (j + 1)) : Nat) : Int) < 0) := by omega
   have hnb : decide (((sumLen (xss.take (j + 1)) : Nat) : Int) < 0) = false := decide_eq_false hnn
   clear hsn hle hle2 hr1 hr2 hxs hhv
   generalize hS : sumLen (xss.take j) = S at *
   generalize hS2 : sumLen (xss.take (j + 1)) = S2 at *
   have HS2 := Hz hS2; clear hS hS2
   go_wp2
   go_roundw
   case rel => exact ⟨j + 1, by go_num, by omega, by rw [HS2.out], trivial⟩
   case measure => simp [intOf]; omega
  ·have hd : decide ((j : Int) < (hs.length : Int)) = false := decide_eq_false (by omega)
   have hd2 : decide (j < hs.length) = false := decide_eq_false hlt
   obtain rfl : j = hs.length := by omega
   rw [List.take_of_length_le (by rw [Hlen.out]; exact Nat.le_refl _)] at hle ⊢
   have hgr := grow98 (w := wr) (sumLen xss) Hsum.out
   have Hgr := Hz hgr; clear hgr hle hlt hj
   generalize hS : sumLen xss = S at *
   have HS := Hz hS; clear hS
   go_wp2_with fail
   refine Hgr.out.mono ?_
   rintro e w1 ⟨v1, rfl, ho⟩
   obtain ⟨b1, d1, rfl⟩ := ho.shape
   have HO0 := Hz ho; clear ho
   go_wp2
   obtain ⟨wQ, rfl⟩ : ∃ wQ : World, wQ = wr := ⟨_, rfl⟩
   go_loopw [27, 6] (fun i vo wr => ∃ j : Nat, i = .int .i64 j /\ j <= hs.length /\ Hid (Own wQ wr 9 vo (xss.take j).flatten)) (fun i _ _ => (hs.length - intOf i).toNat)
   case atStart => exact ⟨0, rfl, Nat.zero_le _, HO0⟩
   case round =>
    obtain ⟨j, rfl, hj, HO⟩ := hrel
    obtain ⟨oa, oc, hov⟩ := HO.out.shape
    subst hov
    by_cases hlt : j < hs.length
    ·obtain ⟨hv, hhv⟩ : ∃ hv, hs[j]? = some hv := ⟨hs[j], List.getElem?_eq_getElem hlt⟩
     obtain ⟨xs, hxs⟩ : ∃ xs, xss[j]? = some xs := ⟨xss[j]'(by have := Hlen.out; omega), List.getElem?_eq_getElem _⟩
     obtain ⟨hr1, hr2⟩ := Hrow.out j hv xs hhv hxs
     obtain ⟨ax, mx, rfl, _, _⟩ := hr1.shape
     obtain ⟨g, off, c, hve, _, _, hg, kcs⟩ := (H.out.fr HO.out.fr (by simp)).form (by omega)
     have kx := kcs j (by omega)
     clear kcs
     rw [hhv] at kx
     cases hve
     have hjI : (j : Int) < (hs.length : Int) := by omega
     have hw1 : IntKind.i64.wrap ((j : Int) + 1) = (j : Int) + 1 := IntWalk.i64_in _ (by have := Hl.out; omega)
     have hsn := sumLen_succ xss j hxs
     have hle2 := sumLen_take xss (j + 1)
     have hfl := flatten_len xss j
     have hfs : (xss.take (j + 1)).flatten = (xss.take j).flatten ++ xs := by
      rw [List.take_succ_eq_append_getElem (List.getElem?_eq_some_iff.1 hxs).1, (List.getElem?_eq_some_iff.1 hxs).2]; simp
     have hsrc := hr1.fr HO.out.fr (by simp)
     have hroom : (xss.take j).flatten.length + xs.length <= 8796093021952 := by have := Hsum.out; have := HS.out; omega
     have hsl := HO.out.sl
     have Hfs := Hz hfs; have Hsrc := Hz hsrc; have Hsl := Hz hsl; have Hr2 := Hz hr2
     clear hsn hle2 hfl hfs hsrc hsl hr1 hr2 hxs hhv
     generalize (xss.take j).flatten = zs at *
     generalize hzl : zs.length = zl at *
     have Hzl := Hz hzl; clear hzl
     go_wp2_with (at_builtin; refine wpList_append_src _ rfl (.tmp 31) (.tmp 32) 24 rfl 9 ie (.string .empty) 1 16 Tryz.underlying24 hie hi0 hi1 hi2 rfl (.slice oa zl oc) zl zs rfl Hsl.out (.slice ax xs.length mx) xs.length xs rfl Hsrc.out Hr2.out ⟨by omega, by omega⟩ ?_)
     intro v' w5 hs5 hf5 hb5
     have hown : Own wQ w5 9 v' (zs ++ xs) := by
      refine ⟨by rw [List.length_append, Hzl.out]; exact hs5, fun k hk => ?_, HO.out.fr.trans hf5 (fun k hk => .inr (HO.out.new k hk))⟩
      rcases hb5 k hk with h | h
      ·exact HO.out.new k h
      ·have := HO.out.fr.size; omega
     rw [<- Hfs.out] at hown
     have Hown := Hz hown
     clear hown hs5 hf5 hb5
     go_wp2
     go_roundw
     case rel => exact ⟨j + 1, by go_num, by omega, Hown⟩
     case measure => simp [intOf]; omega
    ·have hd : decide ((j : Int) < (hs.length : Int)) = false := decide_eq_false (by omega)
     have hd2 : decide (j < hs.length) = false := decide_eq_false hlt
     obtain rfl : j = hs.length := by omega
     rw [List.take_of_length_le (by rw [Hlen.out]; exact Nat.le_refl _)] at HO ⊢
     clear hlt hj
     go_wp2
     go_ret
     exact ⟨_, rfl, HO.out⟩
theorem grow108 {w : World} (n : Nat) (hn : n <= 5864062014634) : Calls Tryz.prog 167 #[.slice none 0 0, .int .i64 n] w fun e w' => ∃ v, e = .returned v /\ Own w w' 81 v [] := by
 obtain ⟨ie, hie, hi0, hi1, hi2⟩ := info_parts infoH
 have hpos : ¬ ((n : Int) < 0) := by omega
 have hw0 : IntKind.i64.wrap (n : Int) = (n : Int) := IntWalk.i64_in _ (by omega)
 by_cases h0 : n = 0
 ·subst h0
  go_enter Tryz.func167, Tryz.ntmps167
  go_wp2
  go_ret
  exact ⟨_, rfl, Own.nil w 81⟩
 ·have hp : (0 : Int) < (n : Int) := by omega
  have hr := fun ty => Lib.run_append_nil_zeros (P := Tryz.prog) w 32 3 ty 81 ie (.slice none 0 0) .i64 .i64 Tryz.underlying32 Tryz.underlying3 hie hi0 n (by omega) (by rw [hi1]; decide) (by omega) (by rw [hi2]; omega)
  have hge := grownCap_ge w n 0 81
  have hcm := grownCap_le_maxLen w n 0 81 (by unfold maxLen; omega)
  have hown : Own w (w.drew.alloc (.cells (Builtin.zeroCells ((.slice none 0 0) : Value).cells n ++ Builtin.zeroCells ((.slice none 0 0) : Value).cells (grownCap w n 0 81 - n)) 81)) 81 (.slice (some ⟨w.heap.size, 0, none⟩) 0 (grownCap w n 0 81)) [] := by
   refine ⟨⟨rfl, .inr ⟨_, 0, _, _, rfl, heap_alloc_new w.drew _, Nat.zero_le _, hcm, ?_, rfl⟩⟩, by simp [Value.blk], ((World.Fr.refl w []).drew).alloc _⟩
   have hz : ((.slice none 0 0) : Value).cells.size = 1 := rfl
   simp only [Array.size_append, size_zeroCells, hz]
   omega
  have Hown := Hz hown
  clear hown h0
  generalize (w.drew.alloc (.cells (Builtin.zeroCells ((.slice none 0 0) : Value).cells n ++ Builtin.zeroCells ((.slice none 0 0) : Value).cells (grownCap w n 0 81 - n)) 81)) = W at *
  have hcm2 : grownCap w n 0 81 <= 9223372036854775807 := by unfold maxLen at hcm; exact hcm
  generalize grownCap w n 0 81 = C at *
  have hnC : n <= C := hge
  clear hcm hge
  go_enter Tryz.func167, Tryz.ntmps167
  go_wp2_with (at_builtin; refine Lib.wpList_append_run _ rfl (.tmp 20) (.tmp 21) 32 3 rfl (.slice none 0 0) (.int .i64 n) rfl rfl _ _ (hr _) ?_)
  go_wp2
  go_ret
  exact ⟨_, rfl, Hown.out⟩
theorem concat86 {w : World} {v : Value} {hs : List Value} (xss : List (List Value)) (h : w.Rd 1 v hs.length hs) (hlen : hs.length = xss.length) (hrow : ∀ (i : Nat) (hv : Value) (xs : List Value), hs[i]? = some hv -> xss[i]? = some xs -> w.Rd 1 hv xs.length xs /\ xs.all Value.oneCell' = true) (hl : hs.length <= 100) (hsum : sumLen xss <= 5864062014634) :
  Calls Tryz.prog 108 #[v] w fun e w' => ∃ v', e = .returned v' /\ Own w w' 81 v' xss.flatten := by
 obtain ⟨a1, c1, rfl, _, _⟩ := h.shape
 obtain ⟨ie, hie, hi0, hi1, hi2⟩ := info_parts infoH
 have H := Hz h; have Hlen := Hz hlen; have Hrow := Hz hrow; have Hl := Hz hl; have Hsum := Hz hsum; clear h hlen hrow hl hsum
 go_enter Tryz.func108, Tryz.ntmps108
 go_wp2
 go_loopw [11, 3] (fun i s wr => ∃ j : Nat, i = .int .i64 j /\ j <= hs.length /\ s = .int .i64 (sumLen (xss.take j) : Nat) /\ wr = w) (fun i _ _ => (hs.length - intOf i).toNat)
 case atStart => exact ⟨0, rfl, Nat.zero_le _, rfl, rfl⟩
 case round =>
  obtain ⟨j, rfl, hj, rfl, rfl⟩ := hrel
  have hle := sumLen_take xss j
  by_cases hlt : j < hs.length
  ·obtain ⟨hv, hhv⟩ : ∃ hv, hs[j]? = some hv := ⟨hs[j], List.getElem?_eq_getElem hlt⟩
   obtain ⟨xs, hxs⟩ : ∃ xs, xss[j]? = some xs := ⟨xss[j]'(by have := Hlen.out; omega), List.getElem?_eq_getElem _⟩
   obtain ⟨hr1, hr2⟩ := Hrow.out j hv xs hhv hxs
   obtain ⟨ax, mx, rfl, _, _⟩ := hr1.shape
   obtain ⟨g, off, c, hve, _, _, hg, kcs⟩ := H.out.form (by omega)
   have kx := kcs j (by omega)
   clear kcs
   rw [hhv] at kx
   cases hve
   have hjI : (j : Int) < (hs.length : Int) := by omega
   have hw1 : IntKind.i64.wrap ((j : Int) + 1) = (j : Int) + 1 := IntWalk.i64_in _ (by have := Hl.out; omega)
   have hsn := sumLen_succ xss j hxs
   have hle2 := sumLen_take xss (j + 1)
   have hw2 : IntKind.i64.wrap ((sumLen (xss.take j) : Nat) + (xs.length : Int) : Int) = ((sumLen (xss.take (j + 1)) : Nat) : Int) := by
    rw [IntWalk.i64_in _ (by have := Hsum.out; omega), hsn]; omega
   have hnn : ¬ (((sumLen (xss.take (j + 1)) : Nat) : Int) < 0) := by omega
   have hnb : decide (((sumLen (xss.take (j + 1)) : Nat) : Int) < 0) = false := decide_eq_false hnn
   clear hsn hle hle2 hr1 hr2 hxs hhv
   generalize hS : sumLen (xss.take j) = S at *
   generalize hS2 : sumLen (xss.take (j + 1)) = S2 at *
   have HS2 := Hz hS2; clear hS hS2
   go_wp2
   go_roundw
   case rel => exact ⟨j + 1, by go_num, by omega, by rw [HS2.out], trivial⟩
   case measure => simp [intOf]; omega
  ·have hd : decide ((j : Int) < (hs.length : Int)) = false := decide_eq_false (by omega)
   have hd2 : decide (j < hs.length) = false := decide_eq_false hlt
   obtain rfl : j = hs.length := by omega
   rw [List.take_of_length_le (by rw [Hlen.out]; exact Nat.le_refl _)] at hle ⊢
   have hgr := grow108 (w := wr) (sumLen xss) Hsum.out
   have Hgr := Hz hgr; clear hgr hle hlt hj
   generalize hS : sumLen xss = S at *
   have HS := Hz hS; clear hS
   go_wp2_with fail
   refine Hgr.out.mono ?_
   rintro e w1 ⟨v1, rfl, ho⟩
   obtain ⟨b1, d1, rfl⟩ := ho.shape
   have HO0 := Hz ho; clear ho
   go_wp2
   obtain ⟨wQ, rfl⟩ : ∃ wQ : World, wQ = wr := ⟨_, rfl⟩
   go_loopw [27, 6] (fun i vo wr => ∃ j : Nat, i = .int .i64 j /\ j <= hs.length /\ Hid (Own wQ wr 81 vo (xss.take j).flatten)) (fun i _ _ => (hs.length - intOf i).toNat)
   case atStart => exact ⟨0, rfl, Nat.zero_le _, HO0⟩
   case round =>
    obtain ⟨j, rfl, hj, HO⟩ := hrel
    obtain ⟨oa, oc, hov⟩ := HO.out.shape
    subst hov
    by_cases hlt : j < hs.length
    ·obtain ⟨hv, hhv⟩ : ∃ hv, hs[j]? = some hv := ⟨hs[j], List.getElem?_eq_getElem hlt⟩
     obtain ⟨xs, hxs⟩ : ∃ xs, xss[j]? = some xs := ⟨xss[j]'(by have := Hlen.out; omega), List.getElem?_eq_getElem _⟩
     obtain ⟨hr1, hr2⟩ := Hrow.out j hv xs hhv hxs
     obtain ⟨ax, mx, rfl, _, _⟩ := hr1.shape
     obtain ⟨g, off, c, hve, _, _, hg, kcs⟩ := (H.out.fr HO.out.fr (by simp)).form (by omega)
     have kx := kcs j (by omega)
     clear kcs
     rw [hhv] at kx
     cases hve
     have hjI : (j : Int) < (hs.length : Int) := by omega
     have hw1 : IntKind.i64.wrap ((j : Int) + 1) = (j : Int) + 1 := IntWalk.i64_in _ (by have := Hl.out; omega)
     have hsn := sumLen_succ xss j hxs
     have hle2 := sumLen_take xss (j + 1)
     have hfl := flatten_len xss j
     have hfs : (xss.take (j + 1)).flatten = (xss.take j).flatten ++ xs := by
      rw [List.take_succ_eq_append_getElem (List.getElem?_eq_some_iff.1 hxs).1, (List.getElem?_eq_some_iff.1 hxs).2]; simp
     have hsrc := hr1.fr HO.out.fr (by simp)
     have hroom : (xss.take j).flatten.length + xs.length <= 5864062014634 := by have := Hsum.out; have := HS.out; omega
     have hsl := HO.out.sl
     have Hfs := Hz hfs; have Hsrc := Hz hsrc; have Hsl := Hz hsl; have Hr2 := Hz hr2
     clear hsn hle2 hfl hfs hsrc hsl hr1 hr2 hxs hhv
     generalize (xss.take j).flatten = zs at *
     generalize hzl : zs.length = zl at *
     have Hzl := Hz hzl; clear hzl
     go_wp2_with (at_builtin; refine wpList_append_src _ rfl (.tmp 31) (.tmp 32) 32 rfl 81 ie (.slice none 0 0) 1 24 Tryz.underlying32 hie hi0 hi1 hi2 rfl (.slice oa zl oc) zl zs rfl Hsl.out (.slice ax xs.length mx) xs.length xs rfl Hsrc.out Hr2.out ⟨by omega, by omega⟩ ?_)
     intro v' w5 hs5 hf5 hb5
     have hown : Own wQ w5 81 v' (zs ++ xs) := by
      refine ⟨by rw [List.length_append, Hzl.out]; exact hs5, fun k hk => ?_, HO.out.fr.trans hf5 (fun k hk => .inr (HO.out.new k hk))⟩
      rcases hb5 k hk with h | h
      ·exact HO.out.new k h
      ·have := HO.out.fr.size; omega
     rw [<- Hfs.out] at hown
     have Hown := Hz hown
     clear hown hs5 hf5 hb5
     go_wp2
     go_roundw
     case rel => exact ⟨j + 1, by go_num, by omega, Hown⟩
     case measure => simp [intOf]; omega
    ·have hd : decide ((j : Int) < (hs.length : Int)) = false := decide_eq_false (by omega)
     have hd2 : decide (j < hs.length) = false := decide_eq_false hlt
     obtain rfl : j = hs.length := by omega
     rw [List.take_of_length_le (by rw [Hlen.out]; exact Nat.le_refl _)] at HO ⊢
     clear hlt hj
     go_wp2
     go_ret
     exact ⟨_, rfl, HO.out⟩
end
section
open Go.RowKit
open Classical in
noncomputable def fitRows (a b : Tb) (x : Row) : List Row := b.rows.filter fun y => decide (pick b.vars y (sharedL a.vars b.vars) = pick a.vars x (sharedL a.vars b.vars))
noncomputable def joinRows (a b : Tb) : List Row := a.rows.flatMap fun x => (fitRows a b x).map fun y => x ++ pick b.vars y (leftL b.vars a.vars)
noncomputable def joinT (cf : V -> V -> Int) (a b : Tb) : Int × Tb :=
 if bothE cf a b ≠ 0 then (bothE cf a b, tNone) else if 8 < (a.vars ++ leftL b.vars a.vars).length then (30, tNone) else (0, madeT cf (a.vars ++ leftL b.vars a.vars) (joinRows a b))
open Classical in
theorem grp_fit {a b : Tb} {ps : List HR} (hp : ps.map (·.2) = b.rows) {x : Row} (hxl : x.length = a.vars.length) (hbl : ∀ r, r ∈ b.rows -> r.length = b.vars.length) (ho1 : ∀ v, v ∈ x -> VOk v) (ho2 : ∀ r, r ∈ b.rows -> ∀ v, v ∈ r -> VOk v) :
  (grp (kyOf b.vars (sharedL a.vars b.vars)) ps (kyOf a.vars (sharedL a.vars b.vars) x)).map (·.2) = fitRows a b x := by
 unfold grp fitRows
 rw [<- hp, List.filter_map]
 congr 1
 refine List.filter_congr fun p hpm => ?_
 have hy2 : p.2 ∈ b.rows := by rw [<- hp]; exact List.mem_map_of_mem hpm
 have := kyOf_eq (hbl _ hy2) hxl (fun s hs => (sharedL_mem.1 hs).2) (fun s hs => (sharedL_mem.1 hs).1) (ho2 _ hy2) ho1
 simp only [Function.comp]
 exact decide_eq_decide.2 this
open Classical in
theorem join24 {okc : V -> Prop} {cf : V -> V -> Int} (hK : Ctx okc cf) {w : World} {v1 v2 : Value} {a b : Tb} (h1 : RdTab w v1 a) (h2 : RdTab w v2 b) (ha : Fits okc a) (hb : Fits okc b) (hlight : a.rows.length * b.rows.length <= 1000000000) :
  Calls Tryz.prog 54 #[v1, v2] w fun e w' => ∃ v, e = .returned (.tuple #[v, .int .i64 (joinT cf a b).1]) /\ OwnTab w w' v (joinT cf a b).2 := by
 have hboth := fun w' (hf : w.Fr w' []) => both62 hK.known (h1.still hf) (h2.still hf) ha.ok hb.ok ha.small hb.small
 have hlook := fun w' (hf : w.Fr w' []) v (hv : RdStr w' v (sharedL a.vars b.vars)) => lookup69 (h2.still hf) hv
 have hwf1 := h1.wf
 have hwf2 := h2.wf
 obtain ⟨x1, y1, hs1, rfl, hv1, hr1⟩ := h1.ex
 obtain ⟨x2, y2, hs2, rfl, hv2, hr2⟩ := h2.ex
 obtain ⟨a1, c1, rfl, _, _⟩ := hv1.rd.shape
 obtain ⟨a2, c2, rfl, _, _⟩ := hr1.rd.shape
 obtain ⟨a3, c3, rfl, _, _⟩ := hv2.rd.shape
 obtain ⟨a4, c4, rfl, _, _⟩ := hr2.rd.shape
 have hlen := hr1.len
 have hlen2 := hr2.len
 generalize hR : joinT cf a b = R
 rw [hlen] at hr1 hboth ⊢
 rw [hlen2] at hr2 hboth hlook ⊢
 clear hlen hlen2 h1 h2
 have Hv1 := Hz hv1; have Hv2 := Hz hv2; have Hr1 := Hz hr1; have Ha := Hz ha; have Hb := Hz hb; have HK := Hz hK; have Hboth := Hz hboth; have Hlook := Hz hlook; have HR := Hz hR; have Hwf1 := Hz hwf1; have Hwf2 := Hz hwf2; clear hv1 hv2 hr1 hr2 ha hb hK hboth hlook hR hwf1 hwf2
 go_enter Tryz.func54, Tryz.ntmps54
 go_upto_region 1 with (fail)
 generalize hW : World.alloc (World.alloc (World.alloc w _) _) _ = W
 have q1 : W.heap[w.heap.size]? = some (.cells #[.slice a1 a.vars.length c1, .slice a2 a.rows.length c2] 34 (0, 0)) := by rw [<- hW]; exact heap_alloc_some (heap_alloc_some (heap_alloc_at _ _ _ rfl) _) _
 have q2 : W.heap[w.heap.size + 1]? = some (.cells #[.slice a3 b.vars.length c3, .slice a4 b.rows.length c4] 34 (0, 0)) := by rw [<- hW]; exact heap_alloc_some (heap_alloc_at _ _ _ (by simp)) _
 have q4 : W.heap[w.heap.size + 1 + 1]? = some (.cells #[.slice none 0 0, .slice none 0 0] 34 (0, 0)) := by rw [<- hW]; exact heap_alloc_at _ _ _ (by simp)
 have q3 : w.Fr W [] := by rw [<- hW]; exact (((World.Fr.refl w []).alloc _).alloc _).alloc _
 clear hW
 generalize hb1 : w.heap.size = b1 at *
 have Hb1 := Hz hb1; clear hb1
 obtain ⟨p0, p1, pf⟩ := two q1
 obtain ⟨s0, s1, sf⟩ := two q2
 have Q1 := Hz q1; have Q2 := Hz q2; have Q3 := Hz q3; have Q4 := Hz q4; clear q1 q2 q3 q4
 go_wp2_with fail
 refine (Hboth.out _ Q3.out).mono ?_
 rintro e w1 ⟨rfl, hf1⟩
 have q1 := hf1.heap Q1.out (by simp)
 have q2 := hf1.heap Q2.out (by simp)
 have q4 := hf1.heap Q4.out (by simp)
 have q3 := Q3.out.trans hf1 (by simp)
 clear p0 p1 pf s0 s1 sf Q1 Q2 Q3 Q4 hf1 Hboth
 obtain ⟨p0, p1, pf⟩ := two q1
 obtain ⟨s0, s1, sf⟩ := two q2
 obtain ⟨r0, r1, rf⟩ := two q4
 have hlb := lt_of_heap q1
 have hlb2 := lt_of_heap q2
 have hlb4 := lt_of_heap q4
 have Q1 := Hz q1; have Q2 := Hz q2; have Q3 := Hz q3; have Q4 := Hz q4; clear q1 q2 q3 q4
 by_cases h0 : bothE cf a b = 0
 ·rw [h0]
  have hres : R = if 8 < (a.vars ++ leftL b.vars a.vars).length then (30, tNone) else (0, madeT cf (a.vars ++ leftL b.vars a.vars) (joinRows a b)) := by rw [<- HR.out]; unfold joinT; rw [if_neg (by simp [h0])]
  have HR2 := Hz hres; clear hres
  obtain ⟨ha0, hb0⟩ := bothE_zero h0
  obtain ⟨k1, k2, k3, k4⟩ := tcheck_zero ha0
  obtain ⟨l1, l2, l3, l4⟩ := tcheck_zero hb0
  have hsh := shared63 (Hv1.out.fr Q3.out (by simp)) (Hv2.out.fr Q3.out (by simp)) (by omega) (by omega)
  have Hsh := Hz hsh; have K1 := Hz k1; have K2 := Hz k2; have K3 := Hz k3; have L1 := Hz l1; have L2 := Hz l2; have L3 := Hz l3
  clear hsh h0 HR ha0 hb0 k1 k2 k3 k4 l1 l2 l3 l4
  go_wp2_with fail
  refine Hsh.out.mono ?_
  rintro e w2 ⟨vw, rfl, how⟩
  obtain ⟨wa, wc, rfl⟩ := how.shape
  rw [List.length_map] at how ⊢
  have hwrd := how.rd (fun s hs => Hv1.out.wf s (sharedL_mem.1 hs).1)
  have q1 := how.fr.heap Q1.out (by simp)
  have q2 := how.fr.heap Q2.out (by simp)
  have q4 := how.fr.heap Q4.out (by simp)
  have q3 := Q3.out.trans how.fr (by simp)
  clear p0 p1 pf s0 s1 sf r0 r1 rf hlb hlb2 hlb4 Q1 Q2 Q3 Q4 Hsh how
  obtain ⟨p0, p1, pf⟩ := two q1
  obtain ⟨s0, s1, sf⟩ := two q2
  have hlb := lt_of_heap q1
  have hlb2 := lt_of_heap q2
  have Q1 := Hz q1; have Q2 := Hz q2; have Q3 := Hz q3; have Q4 := Hz q4; have Hwrd := Hz hwrd; clear q1 q2 q3 q4 hwrd
  have Hwlt := Hz Hwrd.out.rd.lt
  have hcl := clone65 (Hv2.out.fr Q3.out (by simp)) (by have := L1.out; omega)
  have Hcl := Hz hcl; clear hcl
  go_wp2_with fail
  refine Hcl.out.mono ?_
  rintro e w3 ⟨v3, rfl, ho⟩
  obtain ⟨a5, c5, rfl⟩ := ho.shape
  rw [List.length_map] at ho ⊢
  have q1 := ho.fr.heap Q1.out (by simp)
  have q2 := ho.fr.heap Q2.out (by simp)
  have q4 := ho.fr.heap Q4.out (by simp)
  have q3 := Q3.out.trans ho.fr (by simp)
  have hwrd := Hwrd.out.fr ho.fr (by simp)
  have hnew : ∀ k, k ∈ (Value.slice a5 b.vars.length c5).blk -> b1 + 1 + 1 < k /\ w.heap.size <= k /\ w2.heap.size <= k := fun k hk => by
   have e1 := ho.new k hk
   have e2 := lt_of_heap Q4.out
   have e3 := Q3.out.size
   omega
  have htl := tells66 (M := (Value.slice a5 b.vars.length c5).blk) b1 (Hv1.out.fr q3 (by simp)) (by have := K1.out; omega) q1 (fun hk => by have := hnew _ hk; omega) (fun k hk hk2 => by have := hnew _ hk2; have := Hv1.out.rd.lt k hk; omega)
  have hd64 := del64 (l := b.vars) (by have := ho.sl; rw [List.length_map] at this; exact this) (by have := L1.out; omega) htl
  change Calls Tryz.prog 113 _ _ fun e w' => ∃ v', e = .returned v' /\ w'.Sl 9 1 v' (leftL b.vars a.vars).length ((leftL b.vars a.vars).map Value.string) /\ (∀ k, k ∈ v'.blk -> k ∈ _) /\ _ at hd64
  have Hd64 := Hz hd64; have Hnew := Hz hnew
  clear p0 p1 pf s0 s1 sf hlb hlb2 Q1 Q2 Q3 Q4 Hcl ho Hwrd hd64 htl hnew
  have Q1 := Hz q1; have Q2 := Hz q2; have Q3 := Hz q3; have Q4 := Hz q4; have Hwrd := Hz hwrd; clear q1 q2 q3 q4 hwrd
  go_wp2_with fail
  refine Hd64.out.mono ?_
  rintro e w4 ⟨v4, rfl, hms, hmb, hf4⟩
  obtain ⟨ma, mc, rfl, _, _⟩ := hms.shape
  have hwb : ∀ k, k ∈ (Value.slice wa (sharedL a.vars b.vars).length wc).rblk -> k ∉ (Value.slice a5 b.vars.length c5).blk := fun k hk hk2 => by
   have := Hwlt.out k hk
   have := (Hnew.out k hk2).2.2
   omega
  have q1 := hf4.heap Q1.out (fun hk => by have := Hnew.out _ hk; omega)
  have q2 := hf4.heap Q2.out (fun hk => by have := Hnew.out _ hk; omega)
  have q4 := hf4.heap Q4.out (fun hk => by have := Hnew.out _ hk; omega)
  have q3 := Q3.out.trans hf4 (fun k hk => .inr (Hnew.out k hk).2.1)
  have hwrd := Hwrd.out.fr hf4 hwb
  have hmrd : RdStr w4 (.slice ma (leftL b.vars a.vars).length mc) (leftL b.vars a.vars) := ⟨hms.rd, fun s hs => Hv2.out.wf s (leftL_mem.1 hs).1⟩
  clear Q1 Q2 Q3 Q4 Hd64 Hwrd hwb hmb hf4 Hnew hms
  obtain ⟨p0, p1, pf⟩ := two q1
  obtain ⟨r0, r1, rf⟩ := two q4
  have hlb := lt_of_heap q1
  have hlb4 := lt_of_heap q4
  have Q1 := Hz q1; have Q2 := Hz q2; have Q3 := Hz q3; have Q4 := Hz q4; have Hwrd := Hz hwrd; have Hmrd := Hz hmrd; clear q1 q2 q3 q4 hwrd hmrd
  generalize hmo : leftL b.vars a.vars = more at *
  have Hmo := Hz hmo; clear hmo
  -- all names, in one list
  have hcat : Calls Tryz.prog 117 #[.slice (some ⟨w4.heap.size, 0, none⟩) 2 2] (w4.alloc (.cells #[.slice a1 a.vars.length c1, .slice ma more.length mc] 24)) fun e w' => ∃ v', e = .returned v' /\ Own w4 w' 9 v' ((a.vars ++ more).map Value.string) := by
   have hf5 := (World.Fr.refl w4 []).alloc (.cells #[.slice a1 a.vars.length c1, .slice ma more.length mc] 24)
   have hl := World.Sl.lit w4 24 #[.slice a1 a.vars.length c1, .slice ma more.length mc] 2 1 (by simp [maxLen]) rfl
   have ha8 := K1.out
   have hmb8 : more.length <= 8 := by rw [<- Hmo.out]; exact Nat.le_trans (List.length_filter_le _ _) L1.out
   refine (concat68 (hs := [.slice a1 a.vars.length c1, .slice ma more.length mc]) [a.vars.map Value.string, more.map Value.string] hl.rd rfl (fun i hv xs h1 h2 => ?_) (by simp) (by simp [sumLen]; omega)).mono fun e w' ⟨v', he, ho⟩ => ⟨v', he, ?_⟩
   ·match i with
    | 0 => simp at h1 h2; subst h1 h2; exact ⟨by have := ((Hv1.out.fr Q3.out (by simp)).fr hf5 (by simp)).rd; rw [List.length_map]; exact this, one_strings _⟩
    | 1 => simp at h1 h2; subst h1 h2; exact ⟨by have := (Hmrd.out.fr hf5 (by simp)).rd; rw [List.length_map]; exact this, one_strings _⟩
    | i + 2 => simp at h1
   ·have e1 : [a.vars.map Value.string, more.map Value.string].flatten = (a.vars ++ more).map Value.string := by simp
    rw [e1] at ho
    exact ⟨ho.sl, fun k hk => by have := ho.new k hk; simp at this; omega, hf5.trans ho.fr (by simp)⟩
  have Hcat := Hz hcat; clear hcat
  go_wp2_with fail
  refine Hcat.out.mono ?_
  rintro e w5 ⟨v5, rfl, ho⟩
  obtain ⟨na, nc, rfl⟩ := ho.shape
  rw [List.length_map] at ho ⊢
  have hnrd : RdStr w5 (.slice na (a.vars ++ more).length nc) (a.vars ++ more) := by
   refine ho.rd fun s hs => ?_
   rcases List.mem_append.1 hs with h | h
   ·exact Hv1.out.wf s h
   ·exact Hmrd.out.wf s h
  have q1 := ho.fr.heap Q1.out (by simp)
  have q2 := ho.fr.heap Q2.out (by simp)
  have q4 := ho.fr.heap Q4.out (by simp)
  have q3 := Q3.out.trans ho.fr (by simp)
  have hwrd := Hwrd.out.fr ho.fr (by simp)
  have hmrd := Hmrd.out.fr ho.fr (by simp)
  clear p0 p1 pf r0 r1 rf hlb hlb4 Q1 Q2 Q3 Q4 Hcat Hwrd Hmrd ho
  obtain ⟨p0, p1, pf⟩ := two q1
  obtain ⟨s0, s1, sf⟩ := two q2
  obtain ⟨r0, r1, rf⟩ := two q4
  have hlb := lt_of_heap q1
  have hlb2 := lt_of_heap q2
  have hlb4 := lt_of_heap q4
  have Q1 := Hz q1; have Q2 := Hz q2; have Q3 := Hz q3; have Q4 := Hz q4; have Hwrd := Hz hwrd; have Hmrd := Hz hmrd; have Hnrd := Hz hnrd; clear q1 q2 q3 q4 hwrd hmrd hnrd
  generalize hnl : (a.vars ++ more).length = nl at *
  have Hnl := Hz hnl; clear hnl
  by_cases h8 : 8 < nl
  ·have hd8 : decide ((8 : Int) < (nl : Int)) = true := decide_eq_true (by omega)
   have hres : R = (30, tNone) := by rw [HR2.out, if_pos h8]
   subst hres
   clear HR2 h8
   go_wp2
   have hfin := (OwnTab.empty (w := w) Q3.out).put Q4.out (by have := Hb1.out; omega)
   obtain ⟨f0, f1, _⟩ := two hfin.2
   have Hfin := Hz hfin.1
   clear hfin p0 p1 pf
   refine bodyPost_ret (v := .tuple #[.agg #[.slice none 0 0, .slice none 0 0], .int .i64 30]) (by simp [results, Tryz.results54, go_sem, f0, f1]) rfl ⟨_, rfl, Hfin.out⟩
  ·have hd8 : decide ((8 : Int) < (nl : Int)) = false := decide_eq_false (by omega)
   have hres : R = (0, madeT cf (a.vars ++ more) (joinRows a b)) := by rw [HR2.out, if_neg h8]
   subst hres
   have H8 := Hz h8
   clear HR2 h8
   have hlk := Hlook.out _ Q3.out _ Hwrd.out L1.out (by have := sharedL_len a.vars b.vars; have := K1.out; omega) Hb.out.rows (fun r hr => (L3.out r hr).1) (fun r hr x hx => VOk.small ⟨(L3.out r hr).2 x hx, Hwf2.out r hr x hx⟩) (fun x hx => (sharedL_mem.1 hx).2)
   have Hlk := Hz hlk; clear hlk
   go_wp2_with fail
   refine Hlk.out.mono ?_
   rintro e w6 ⟨mb, ps, rfl, hgg, hp2, hpr⟩
   have q1 := hgg.fr.heap Q1.out (by simp)
   have q2 := hgg.fr.heap Q2.out (by simp)
   have q4 := hgg.fr.heap Q4.out (by simp)
   have q3 := Q3.out.trans hgg.fr (by simp)
   have hwrd := Hwrd.out.fr hgg.fr (by simp)
   have hmrd := Hmrd.out.fr hgg.fr (by simp)
   have hnrd := Hnrd.out.fr hgg.fr (by simp)
   clear p0 p1 pf s0 s1 sf r0 r1 rf hlb hlb2 hlb4 Q1 Q2 Q3 Q4 Hlk Hwrd Hmrd Hnrd Hlook
   have Hgg := Hz hgg; have Hp2 := Hz hp2; have Hpr := Hz hpr
   clear hgg hp2 hpr
   obtain ⟨p0, p1, pf⟩ := two q1
   obtain ⟨s0, s1, sf⟩ := two q2
   have hlb := lt_of_heap q1
   have hlb2 := lt_of_heap q2
   have Q1 := Hz q1; have Q2 := Hz q2; have Q3 := Hz q3; have Q4 := Hz q4; have Hwrd := Hz hwrd; have Hmrd := Hz hmrd; have Hnrd := Hz hnrd; clear q1 q2 q3 q4 hwrd hmrd hnrd
   -- the two lists of places
   have hpA : ∀ W, w6.Fr W [] -> Calls Tryz.prog 119 #[.slice a1 a.vars.length c1, .slice wa (sharedL a.vars b.vars).length wc] W fun e w' => ∃ xa xc, e = .returned (.slice xa (sharedL a.vars b.vars).length xc) /\ w'.Sl 3 1 (.slice xa (sharedL a.vars b.vars).length xc) (sharedL a.vars b.vars).length (pcells a.vars (sharedL a.vars b.vars)) /\ w6.Fr w' [] /\ W.Fr w' [] := fun W hf => by
    refine (places70 ((Hv1.out.fr Q3.out (by simp)).fr hf (by simp)) (Hwrd.out.fr hf (by simp)) (by have := K1.out; omega) (by have := sharedL_len a.vars b.vars; have := K1.out; omega)).mono fun e w' ⟨v, he, ho⟩ => ?_
    obtain ⟨xa, xc, rfl⟩ := ho.shape
    have hl := ho.sl
    rw [show (pcells a.vars (sharedL a.vars b.vars)).length = (sharedL a.vars b.vars).length by simp] at hl he
    exact ⟨xa, xc, he, hl, hf.trans ho.fr (by simp), ho.fr⟩
   have hpB : ∀ W, w6.Fr W [] -> Calls Tryz.prog 119 #[.slice a3 b.vars.length c3, .slice ma more.length mc] W fun e w' => ∃ xa xc, e = .returned (.slice xa more.length xc) /\ w'.Sl 3 1 (.slice xa more.length xc) more.length (pcells b.vars more) /\ w6.Fr w' [] /\ W.Fr w' [] := fun W hf => by
    refine (places70 ((Hv2.out.fr Q3.out (by simp)).fr hf (by simp)) (Hmrd.out.fr hf (by simp)) (by have := L1.out; omega) (by have := List.length_filter_le (fun x => !hasS a.vars x) b.vars; have := L1.out; rw [<- Hmo.out]; unfold leftL; omega)).mono fun e w' ⟨v, he, ho⟩ => ?_
    obtain ⟨xa, xc, rfl⟩ := ho.shape
    have hl := ho.sl
    rw [show (pcells b.vars more).length = more.length by simp] at hl he
    exact ⟨xa, xc, he, hl, hf.trans ho.fr (by simp), ho.fr⟩
   have HpA := Hz hpA; have HpB := Hz hpB; clear hpA hpB
   have hfd : w6.Fr w6.drew [] := (World.Fr.refl w6 []).drew
   go_upto_region 10 with (fail)
   go_cut [11, 12] (fun s11 s12 wx => ∃ xa xc ya yc, s11 = .slice xa (sharedL a.vars b.vars).length xc /\ s12 = .slice ya more.length yc /\ Hid (wx.Sl 3 1 (.slice xa (sharedL a.vars b.vars).length xc) (sharedL a.vars b.vars).length (pcells a.vars (sharedL a.vars b.vars)) /\ wx.Sl 3 1 (.slice ya more.length yc) more.length (pcells b.vars more) /\ w6.Fr wx []))
   case first =>
    go_region_with (first | (go_at_call 119; (with_reducible refine (HpA.out _ (by assumption)).mono ?_); rintro e w7 ⟨xa, xc, rfl, hxs, hf6, hf67⟩; obtain ⟨d0, d1, df⟩ := two (hf6.heap Q1.out (by simp)); obtain ⟨e0, e1, ef⟩ := two (hf6.heap Q2.out (by simp)); have HX := Hz hxs; have HXf := Hz hf67; clear hxs hf67) | (go_at_call 119; (with_reducible refine (HpB.out _ (by assumption)).mono ?_); rintro e w8 ⟨ya, yc, rfl, hys, hf8, hf78⟩; obtain ⟨g0, g1, gf⟩ := two (hf8.heap Q1.out (by simp)); obtain ⟨i0, i1, if_⟩ := two (hf8.heap Q2.out (by simp)); have HY := Hz hys; have HYf := Hz hf78; clear hys hf78))
    all_goals
     go_wp2_with fail
     go_meet
     case rel => first | exact ⟨xa, xc, ya, yc, rfl, rfl, Hz ⟨HX.out.fr HYf.out (by simp), HY.out, hf8⟩⟩ | exact ⟨xa, xc, ya, yc, rfl, rfl, Hz ⟨HX.out, HY.out.fr HXf.out (by simp), hf6⟩⟩
   case rest =>
    obtain ⟨pa, pc, ra, rc, rfl, rfl, hcc⟩ := hcut
    have hfc := hcc.out.2.2
    have q1 := hfc.heap Q1.out (by simp)
    have q4 := hfc.heap Q4.out (by simp)
    have q3 := Q3.out.trans hfc (by simp)
    have hprc := fun p hp => ((Hpr.out p hp).fr Hgg.out.fr (by simp)).fr hfc (by simp)
    have hgg := Hgg.out.still hfc
    obtain ⟨n, f, hn, hgm, hsl, hbl, hdj⟩ := hgg.ex
    have hin1 : ∀ s, s ∈ sharedL a.vars b.vars -> s ∈ a.vars := fun s hs => (sharedL_mem.1 hs).1
    have hin2 : ∀ s, s ∈ sharedL a.vars b.vars -> s ∈ b.vars := fun s hs => (sharedL_mem.1 hs).2
    have hin3 : ∀ s, s ∈ more -> s ∈ b.vars := fun s hs => by rw [<- Hmo.out] at hs; exact (leftL_mem.1 hs).1
    have hps := hcc.out.1
    have hrs := hcc.out.2.1
    rw [plc_cells hin1] at hps
    have hwl : (sharedL a.vars b.vars).length <= 8 := Nat.le_trans (sharedL_len _ _) K1.out
    have hml : more.length <= 8 := by have := List.length_filter_le (fun x => !hasS a.vars x) b.vars; have := L1.out; rw [<- Hmo.out]; unfold leftL; omega
    have hnrd := Hnrd.out.fr hfc (by simp)
    clear p0 p1 pf s0 s1 sf hlb hlb2 Q1 Q2 Q3 Q4 Hgg hgg hcc HpA HpB hfd hn hbl hdj Hwrd Hmrd Hnrd
    obtain ⟨p0, p1, pf⟩ := two q1
    have hlb := lt_of_heap q1
    have Q1 := Hz q1; have Q3 := Hz q3; have Q4 := Hz q4; have Hps := Hz hps; have Hrs := Hz hrs; have Hin1 := Hz hin1; have Hin2 := Hz hin2; have Hin3 := Hz hin3; have Hwl := Hz hwl; have Hml := Hz hml; have Hgm := Hz hgm; have Hsl := Hz hsl; have Hnrd := Hz hnrd; have Hprc := Hz hprc
    clear hprc Hpr q1 q3 q4 hps hrs hin1 hin2 hin3 hwl hml hgm hsl hnrd hfc
    have HR0 : Hid (RowsR wc wc (.slice none 0 0) [] []) := Hz (RowsR.nil wc)
    have Hlight := Hz hlight; clear hlight
    go_wp2
    clear p0 p1 pf hlb
    go_loopw [61, 13] (fun i vb wr => ∃ (j : Nat) (hsn : List Value), i = .int .i64 j /\ j <= a.rows.length /\ Hid (RowsR wc wr vb hsn ((a.rows.take j).flatMap fun x => (fitRows a b x).map fun y => x ++ pick b.vars y more)) /\ Hid (hsn.length <= j * b.rows.length)) (fun i _ _ => (a.rows.length - intOf i).toNat)
    case atStart => exact ⟨0, [], rfl, Nat.zero_le _, HR0, Hz (by simp)⟩
    case round =>
     obtain ⟨j, hsn, rfl, hj, HRr, Hhl⟩ := hrel
     obtain ⟨xa, xc, hxv, _, _⟩ := HRr.out.sl.shape
     subst hxv
     by_cases hlt : j < a.rows.length
     ·obtain ⟨r, hr⟩ : ∃ r, a.rows[j]? = some r := ⟨a.rows[j], List.getElem?_eq_getElem hlt⟩
      have hrm := List.mem_of_getElem? hr
      have hrl := (K3.out r hrm).1
      have hfr := Q3.out.trans HRr.out.fr (by simp)
      obtain ⟨g, off, c, ax, mx, hv, hg, kx, hrow0⟩ := Hr1.out.at2 hfr hr
      cases hv
      have hrow := hrow0.fr hfr (by simp)
      have hjI : (j : Int) < (a.rows.length : Int) := by omega
      have hw1 : IntKind.i64.wrap ((j : Int) + 1) = (j : Int) + 1 := IntWalk.i64_in _ (by have := Ha.out.rows; omega)
      have hvok : ∀ v, v ∈ r -> VOk v := fun v hv => ⟨(K3.out r hrm).2 v hv, Hwf1.out r hrm v hv⟩
      have hkey := key71 (plc a.vars (sharedL a.vars b.vars)) hrow (v2 := .slice pa (sharedL a.vars b.vars).length pc) (by rw [plc_len]; exact Hps.out.fr HRr.out.fr (by simp)) (fun q hq => by rw [hrl]; exact plc_lt Hin1.out q hq) (by rw [plc_len]; exact Hwl.out) (by rw [hrl]; exact K1.out) (fun x hx => (hvok x hx).small)
      have hks := kyOf_size (fun x hx => (hvok x hx).small) hrl Hin1.out Hwl.out
      have hfit := grp_fit Hp2.out hrl (fun r hr => (L3.out r hr).1) hvok (fun r hr v hv => ⟨(L3.out r hr).2 v hv, Hwf2.out r hr v hv⟩)
      have htk : a.rows.take (j + 1) = a.rows.take j ++ [r] := by
       rw [List.take_succ_eq_append_getElem hlt, (List.getElem?_eq_some_iff.1 hr).2]
      have Hkey := Hz hkey; have Hks := Hz hks; have Hfit := Hz hfit; have Htk := Hz htk; have Hrow0 := Hz hrow0; have Hrl := Hz hrl; have Hvok := Hz hvok
      clear hkey hks hfit htk hrow hfr hvok hr hrm hrl hrow0
      change Hid (Calls Tryz.prog 120 _ _ fun e w' => e = .returned (.string (kyOf a.vars (sharedL a.vars b.vars) r)) /\ _) at Hkey
      generalize kyOf a.vars (sharedL a.vars b.vars) r = key at *
      go_wp2_with fail
      refine Hkey.out.mono ?_
      rintro e w7 ⟨rfl, hf7⟩
      have hgm7 := Hgm.out.fr (HRr.out.fr.trans hf7 (by simp)) (by simp)
      have hlk := hgm7.look (x := key) (by have := Hks.out; unfold maxLen; omega)
      have hgs := Hsl.out key
      have hglb : (grp (kyOf b.vars (sharedL a.vars b.vars)) ps key).length <= b.rows.length := by
       have e1 := List.length_filter_le (fun p : HR => decide (kyOf b.vars (sharedL a.vars b.vars) p.2 = key)) ps
       have e2 : ps.length = b.rows.length := by rw [<- Hp2.out, List.length_map]
       unfold grp; omega
      have hgm8 : ∀ p, p ∈ grp (kyOf b.vars (sharedL a.vars b.vars)) ps key -> RdRow wc p.1 p.2 /\ p.2 ∈ b.rows := fun p hp => by
       have hm := (List.mem_filter.1 hp).1
       exact ⟨Hprc.out p hm, by rw [<- Hp2.out]; exact List.mem_map_of_mem hm⟩
      generalize grp (kyOf b.vars (sharedL a.vars b.vars)) ps key = gp at *
      obtain ⟨va, vc, hva, _, _⟩ := hgs.shape
      rw [hva] at hlk hgs
      have HRs := Hz (HRr.out.still hf7)
      have Hgs := Hz hgs; have Hglb := Hz hglb; have Hgm8 := Hz hgm8; have Hf7 := Hz hf7
      clear hgs hglb hgm8 hgm7 kx Hkey hva hf7
      go_wp2
      clear hlk
      obtain ⟨wQ, rfl⟩ : ∃ wQ : World, wQ = wr := ⟨_, rfl⟩
      go_loopw [71, 13] (fun i vb wr => ∃ (k : Nat) (hsn : List Value), i = .int .i64 k /\ k <= gp.length /\ Hid (RowsR wc wr vb hsn (((a.rows.take j).flatMap fun x => (fitRows a b x).map fun y => x ++ pick b.vars y more) ++ ((gp.take k).map (·.2)).map fun y => r ++ pick b.vars y more)) /\ Hid (hsn.length <= j * b.rows.length + k)) (fun i _ _ => (gp.length - intOf i).toNat)
      case atStart => exact ⟨0, hsn, rfl, Nat.zero_le _, by simpa using HRs, Hz (by have := Hhl.out; omega)⟩
      case round =>
       obtain ⟨k, hsn2, rfl, hk, HRk, Hhk⟩ := hrel
       obtain ⟨xa2, xc2, hxv2, _, _⟩ := HRk.out.sl.shape
       subst hxv2
       by_cases hkt : k < gp.length
       ·obtain ⟨p, hp⟩ : ∃ p, gp[k]? = some p := ⟨gp[k], List.getElem?_eq_getElem hkt⟩
        obtain ⟨hpy, hpm⟩ := Hgm8.out p (List.mem_of_getElem? hp)
        have hyl := (L3.out p.2 hpm).1
        obtain ⟨yv, y⟩ := p
        simp only at hpy hpm hyl
        obtain ⟨ay, my, hyv, _, _⟩ := hpy.rd.shape
        subst hyv
        have hfk := HRk.out.fr
        obtain ⟨g8, off8, c8, hv8, _, _, hg8, kcs, kfz⟩ := (Hgs.out.fr hfk (by simp)).form (by omega)
        have ky := kcs k (by omega)
        clear kcs kfz
        cases hv8
        rw [List.getElem?_map, hp] at ky
        simp only [Option.map_some] at ky
        have hkI : (k : Int) < (gp.length : Int) := by omega
        have hw2 : IntKind.i64.wrap ((k : Int) + 1) = (k : Int) + 1 := IntWalk.i64_in _ (by have := Hglb.out; have := Hb.out.rows; omega)
        have hgt : (gp.take (k + 1)).map (·.2) = (gp.take k).map (·.2) ++ [y] := by
         rw [List.take_succ_eq_append_getElem hkt, (List.getElem?_eq_some_iff.1 hp).2]; simp
        have hyrd := hpy.fr hfk (by simp)
        have hxrd := (Hrow0.out.fr Q3.out (by simp)).fr hfk (by simp)
        have hcl := clone72 hxrd (by rw [Hrl.out]; have := K1.out; omega)
        have Hcl := Hz hcl; have Hgt := Hz hgt; have Hyrd := Hz hyrd; have Hyl := Hz hyl; have Hpm := Hz hpm
        clear hcl hgt hyrd hyl hpm hpy hp hxrd hfk
        go_wp2_with fail
        refine Hcl.out.mono ?_
        rintro e w8 ⟨v8, rfl, ho8⟩
        have HO0 := Hz ho8
        clear ho8 Hcl ky
        go_wp2
        obtain ⟨wS, rfl⟩ : ∃ wS : World, wS = wr := ⟨_, rfl⟩
        go_loopw [79, 18] (fun i v wr => ∃ (m : Nat), i = .int .i64 m /\ m <= more.length /\ Hid (OwnRow wS wr v (r ++ pick b.vars y (more.take m)))) (fun i _ _ => (more.length - intOf i).toNat)
        case atStart => exact ⟨0, rfl, Nat.zero_le _, by simpa [pick] using HO0⟩
        case round =>
         obtain ⟨m, rfl, hm, HO⟩ := hrel
         have hkl : (r ++ pick b.vars y (more.take m)).length = a.vars.length + m := by rw [List.length_append, pick_len, Hrl.out]; simp; omega
         obtain ⟨ya, yc, hyv, _, _⟩ := HO.out.sl.shape
         subst hyv
         have hO := HO.out
         rw [hkl] at hO ⊢
         by_cases hmt : m < more.length
         ·obtain ⟨x, hx⟩ : ∃ x, more[m]? = some x := ⟨more[m], List.getElem?_eq_getElem hmt⟩
          have hmI : (m : Int) < (more.length : Int) := by omega
          have hw3 : IntKind.i64.wrap ((m : Int) + 1) = (m : Int) + 1 := IntWalk.i64_in _ (by have := Hml.out; omega)
          obtain ⟨q, hq⟩ : ∃ q : Nat, idx b.vars x = q := ⟨(idx b.vars x).toNat, by have := idx_mem.2 (Hin3.out x (List.mem_of_getElem? hx)); omega⟩
          have hqr := idx_range b.vars x
          rw [hq] at hqr
          have hqI : (q : Int) < (b.vars.length : Int) := hqr.2
          have hsn : r ++ pick b.vars y (more.take (m + 1)) = (r ++ pick b.vars y (more.take m)) ++ [y.getD q default] := by
           rw [List.take_succ_eq_append_getElem hmt, (List.getElem?_eq_some_iff.1 hx).2]
           simp [pick, hq]
          have hry : y[q]? = some (y.getD q default) := by
           have : q < y.length := by have := Hyl.out; omega
           rw [List.getD_eq_getElem?_getD, List.getElem?_eq_getElem this]; rfl
          obtain ⟨g2, off2, c2', hv2, hg2, ky0, ky1, ky2, ky3⟩ := (Hyrd.out.fr hO.fr (by simp)).at hry
          have hfo := HRk.out.fr.trans hO.fr (by simp)
          obtain ⟨g4, off4, c4, hv4, _, _, hg4, kcs, kfz⟩ := (Hrs.out.fr hfo (by simp)).form (by omega)
          have ko := kcs m (by omega)
          clear kcs kfz
          cases hv4
          rw [List.getElem?_map, hx] at ko
          simp only [Option.map_some, hq] at ko
          have Hsn := Hz hsn; have Hkl := Hz hkl; have HO2 := Hz hO
          clear hsn hkl hO HO hry hx hq hqr hfo
          generalize y.getD q default = z at *
          generalize hys : r ++ pick b.vars y (more.take m) = ys at *
          clear hys
          have hylI : (q : Int) < (y.length : Int) := by rw [Hyl.out]; exact hqI
          have hroom : a.vars.length + m < 17 := by have := K1.out; have := Hml.out; omega
          have hsly := HO2.out.sl
          rw [Hkl.out] at hsly
          have hgl : g2 < wr.heap.size + 1 := by omega
          have Hsly := Hz hsly; clear hsly
          cases hv2
          obtain ⟨iv, hiv, hv0, hv1, hv2⟩ := info_parts infoV
          generalize hal : a.vars.length + m = al at *
          have Hal := Hz hal; clear hal
          go_wp2_with (at_builtin; refine wpList_append_one _ rfl (.tmp 83) (.tmp 88) 81 rfl 83 iv (.agg #[.int .i64 0, .int .i64 0, .int .i64 0, .string .empty]) 4 40 Tryz.underlying81 hiv hv0 hv1 hv2 rfl (.slice ya al yc) al (ys.flatMap V.enc) rfl (Hsly.out.alloc _) wr.heap.size 1 (V.enc z) 83 rfl (heap_alloc_at _ _ _ rfl) rfl rfl ⟨by omega, by omega⟩ ?_)
          intro g3 off3 c3 w9 hsl hfr3 hat hlt3
          have hown := (HO2.out.still ((World.Fr.refl wr []).alloc (.cells (V.enc z).toArray 83))).appended (y := z) (g := g3) (off := off3) (c := c3) (by rw [Hkl.out]; exact hsl) hfr3 (by simpa using hat)
          rw [<- Hsn.out, Hkl.out] at hown
          have Hown := Hz hown; clear hown hsl hfr3 hat ky0 ky1 ky2 ky3 ko hlt3
          go_wp2
          go_roundw
          case rel => exact ⟨m + 1, by go_num, by omega, Hown⟩
          case measure => simp [intOf]; omega
         ·have hd : decide ((m : Int) < (more.length : Int)) = false := decide_eq_false (by omega)
          have hd2 : decide (m < more.length) = false := decide_eq_false hmt
          obtain rfl : m = more.length := by omega
          rw [List.take_of_length_le (Nat.le_refl _)] at hO hkl
          have HRn := Hz hO
          clear hO HO hmt hm
          have hxs := HRk.out.still HRn.out.fr
          have hoff := fun k hk => apart HRn.out.sl hxs.sl (by decide) k (Value.rblk_sub hk)
          have hsl0 := hxs.sl
          have hroom0 : j * b.rows.length + k < 1000000000 := by
           have h1 : (j + 1) * b.rows.length <= a.rows.length * b.rows.length := Nat.mul_le_mul_right _ (by omega)
           rw [Nat.add_mul, Nat.one_mul] at h1
           have := Hlight.out
           have := Hglb.out
           omega
          have hroom1 : hsn2.length < 1000000000 := by have := Hhk.out; omega
          have Hoff := Hz hoff; have Hsl0 := Hz hsl0; have Hkl := Hz hkl; clear hxs hoff hsl0 hkl hroom0
          generalize hal : a.vars.length + more.length = al at *
          generalize hhn : hsn2.length = hn at *
          have Hhn := Hz hhn; have Hal := Hz hal; clear hhn hal
          obtain ⟨ih, hih, hh0, hh1, hh2⟩ := info_parts infoH
          go_wp2_with (at_builtin; refine wpList_append_one _ rfl (.tmp 91) (.tmp 93) 32 rfl 81 ih (.slice none 0 0) 1 24 Tryz.underlying32 hih hh0 hh1 hh2 rfl (.slice xa2 hn xc2) hn hsn2 rfl (Hsl0.out.alloc _) wr.heap.size 1 [.slice ya al yc] 81 rfl (heap_alloc_at _ _ _ rfl) rfl rfl ⟨by omega, by omega⟩ ?_)
          intro g3 off3 c3 w9 hsl hfr3 hat hlt3
          have hf1 : wS.Fr (wr.alloc (.cells #[.slice ya al yc] 81)) [] := HRn.out.fr.alloc _
          have hrd : RdRow (wr.alloc (.cells #[.slice ya al yc] 81)) (.slice ya al yc) (r ++ pick b.vars y more) :=
           (HRn.out.rd (fun x hx => by
            rcases List.mem_append.1 hx with h | h
            ·exact (Hvok.out x h).wf
            ·exact Hyrd.out.wf x (pick_mem Hin3.out Hyl.out h))).fr ((World.Fr.refl wr []).alloc _) (by simp)
          have hpush := HRk.out.push hf1 hrd Hoff.out (g := g3) (off := off3) (c := c3) (by rw [Hhn.out]; exact hsl) hfr3 (by rcases hat with h | h; exact .inl h; exact .inr (by simp at h ⊢; omega))
          rw [List.append_assoc] at hpush
          have hsnr : ((gp.take k).map (·.2)).map (fun y => r ++ pick b.vars y more) ++ [r ++ pick b.vars y more] = ((gp.take (k + 1)).map (·.2)).map (fun y => r ++ pick b.vars y more) := by rw [Hgt.out, List.map_append]; rfl
          rw [hsnr, Hhn.out] at hpush
          have Hpush := Hz hpush
          clear hpush hsnr hsl hfr3 hat hlt3 hf1 hrd hroom1
          go_wp2
          go_roundw
          case rel => exact ⟨k + 1, _, by go_num, by omega, Hpush, Hz (by have := Hhk.out; have := Hhn.out; simp; omega)⟩
          case measure => simp [intOf]; omega
       ·have hd : decide ((k : Int) < (gp.length : Int)) = false := decide_eq_false (by omega)
        have hd2 : decide (k < gp.length) = false := decide_eq_false hkt
        obtain rfl : k = gp.length := by omega
        have hrr := HRk.out
        rw [List.take_of_length_le (Nat.le_refl _), Hfit.out] at hrr
        have hsnr : ((a.rows.take j).flatMap fun x => (fitRows a b x).map fun y => x ++ pick b.vars y more) ++ (fitRows a b r).map (fun y => r ++ pick b.vars y more) = ((a.rows.take (j + 1)).flatMap fun x => (fitRows a b x).map fun y => x ++ pick b.vars y more) := by
         rw [Htk.out, List.flatMap_append]; simp
        rw [hsnr] at hrr
        have Hrr := Hz hrr
        have hbd : hsn2.length <= (j + 1) * b.rows.length := by rw [Nat.add_mul, Nat.one_mul]; have := Hhk.out; have := Hglb.out; omega
        have Hbd := Hz hbd
        clear hrr hsnr hbd hkt hk
        go_wp2
        go_roundw
        case rel => exact ⟨j + 1, _, by go_num, by omega, Hrr, Hbd⟩
        case measure => simp [intOf]; omega
     ·have hd : decide ((j : Int) < (a.rows.length : Int)) = false := decide_eq_false (by omega)
      have hd2 : decide (j < a.rows.length) = false := decide_eq_false hlt
      obtain rfl : j = a.rows.length := by omega
      rw [List.take_of_length_le (Nat.le_refl _)] at HRr
      have hjr : (a.rows.flatMap fun x => (fitRows a b x).map fun y => x ++ pick b.vars y more) = joinRows a b := by unfold joinRows; rw [Hmo.out]
      rw [hjr] at HRr
      have hfr := Q3.out.trans HRr.out.fr (by simp)
      have hbx := HRr.out.fr.heap Q4.out (by simp)
      have hjl : (joinRows a b).length <= 1000000000 := by rw [<- HRr.out.len]; have := Hhl.out; have := Hlight.out; omega
      have hmem : ∀ z, z ∈ joinRows a b -> ∃ x y, x ∈ a.rows /\ y ∈ b.rows /\ z = x ++ pick b.vars y more := fun z hz => by
       unfold joinRows at hz
       rw [Hmo.out] at hz
       obtain ⟨x, hx, hz⟩ := List.mem_flatMap.1 hz
       obtain ⟨y, hy, rfl⟩ := List.mem_map.1 hz
       exact ⟨x, y, hx, (List.mem_filter.1 hy).1, rfl⟩
      have hnd : (a.vars ++ more).Nodup := by
       rw [List.nodup_append]
       refine ⟨nodup_of_pair K2.out, ?_, fun x hx y hy he => ?_⟩
       ·rw [<- Hmo.out]; exact (nodup_of_pair L2.out).sublist List.filter_sublist
       ·subst he; rw [<- Hmo.out] at hy; exact (leftL_mem.1 hy).2 hx
      have hc := made73 HK.out.cmp HK.out.ord (Hnrd.out.fr HRr.out.fr (by simp)) HRr.out.rd (by rw [Hnl.out]; have := H8.out; omega) (by omega) (fun z hz => by
       obtain ⟨x, y, hx, hy, rfl⟩ := hmem z hz
       rw [List.length_append, pick_len, List.length_append, (K3.out x hx).1]) (fun z hz v hv => by
       obtain ⟨x, y, hx, hy, rfl⟩ := hmem z hz
       rcases List.mem_append.1 hv with h | h
       ·exact ⟨Ha.out.ok x hx v h, (K3.out x hx).2 v h⟩
       ·have := pick_mem Hin3.out (L3.out y hy).1 h
        exact ⟨Hb.out.ok y hy v this, (L3.out y hy).2 v this⟩) hnd
      have Hc := Hz hc; have Hbx := Hz hbx; have Hfr := Hz hfr; clear hc hbx hfr hlt hj hjl hmem hnd hjr
      go_wp2_with fail
      refine Hc.out.mono ?_
      rintro e w9 ⟨v, rfl, ho⟩
      obtain ⟨x1, y1, x2, y2, rfl⟩ := ho.shape
      have hbx := ho.fr.heap Hbx.out (by simp)
      have ho2 := (ho.since Hfr.out).put hbx (by have := Hb1.out; omega)
      obtain ⟨p0, p1, pf⟩ := two hbx
      have hbW := lt_of_heap hbx
      obtain ⟨f0, f1, _⟩ := two ho2.2
      have Hfin := Hz ho2.1
      clear ho2 ho hbx
      go_wp2
      refine bodyPost_ret (v := .tuple #[.agg #[.slice x1 _ y1, .slice x2 _ y2], .int .i64 0]) (by simp [results, Tryz.results54, go_sem, f0, f1]) rfl ⟨_, rfl, Hfin.out⟩
 ·have hres : R = (bothE cf a b, tNone) := by rw [<- HR.out]; unfold joinT; rw [if_pos h0]
  have h0b : (bothE cf a b == 0) = false := beq_eq_false_iff_ne.2 h0
  have h0c : (bothE cf a b != 0) = true := by simp [h0]
  clear h0 HR
  generalize bothE cf a b = z at *
  subst hres
  go_wp2
  have hfin := (OwnTab.empty (w := w) Q3.out).put Q4.out (by have := Hb1.out; omega)
  obtain ⟨f0, f1, _⟩ := two hfin.2
  have Hfin := Hz hfin.1
  clear hfin p0 p1 pf
  refine bodyPost_ret (v := .tuple #[.agg #[.slice none 0 0, .slice none 0 0], .int .i64 z]) (by simp [results, Tryz.results54, go_sem, f0, f1]) rfl ⟨_, rfl, Hfin.out⟩
end
end Go.Proofs.YtbejmdlncnkaaaaGreat
