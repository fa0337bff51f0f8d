/-
  Package past: since: the walk.
-/
import Derived.Test.YtbejmdlncnkaaaaGreatPaB
import Derived.Deep.RegionHeld3
set_option maxRecDepth 100000
set_option maxHeartbeats 16000000
set_option linter.unusedSimpArgs false
namespace Go.Proofs.YtbejmdlncnkaaaaGreat
open Go.RowKit
theorem tH {P : Program} {ops : Array Oper} {Q : Exit -> Act -> World -> Prop} {md : Region.Mode} {S : World -> Prop} {i : Nat} {oi : Oper} {v : Value} {fuel : Nat} {listed : Array Bool} {a : Act} {w : World} (hi : ops[i]? = some oi) (hb : (Region.noSelect ops && (Region.free md ops listed i && (Region.ready md ops listed).contains i)) = true) (hy : YieldsIf P ops S oi v a) (hQ : forall c a w, Q (.panic c) (a.put oi.dst v) w -> Q (.panic c) a w) (hS : S w) (h : wpAnyH P md ops Q S fuel (listed.setIfInBounds i true) (a.put oi.dst v) w) : wpAnyH P md ops Q S (fuel + 1) listed a w := by
 simp only [Bool.and_eq_true] at hb
 exact wpAnyH_take hi hb.1 hb.2.1 hb.2.2 hQ hy hS h
variable {Q : Nat -> Prop}
structure SBox (w0 w : World) (p p3 : Nat) (S : PS) (n : Int) (vl vr vw : Value) : Prop where
 lo : w0.heap.size <= p3
 b3 : w.heap[p3]? = some (.cells #[.pointer (some ⟨p, 0, none⟩)] 28 (0, 0))
 b4 : w.heap[p3 + 1]? = some (.cells #[.int .i64 n] 2 (0, 0))
 b6 : w.heap[p3 + 2]? = some (.cells #[.slice none 0 0, .slice none 0 0] 34 (0, 0))
 box : w.heap[p]? = some (.cells (pcells10 S vl vr vw) 96 (0, 0))
theorem SBox.fr {w0 w w' : World} {p p3 : Nat} {S : PS} {n : Int} {vl vr vw : Value} {M : List Nat} (h : SBox w0 w p p3 S n vl vr vw) (hf : w.Fr w' M) (hp : p ∉ M) (h3 : ∀ k, k ∈ M -> k < p3 ∨ p3 + 2 < k) : SBox w0 w' p p3 S n vl vr vw :=
 ⟨h.lo, hf.heap h.b3 (fun hm => by have := h3 _ hm; omega), hf.heap h.b4 (fun hm => by have := h3 _ hm; omega), hf.heap h.b6 (fun hm => by have := h3 _ hm; omega), hf.heap h.box hp⟩
theorem SBox.still {w0 w w' : World} {p p3 : Nat} {S : PS} {n : Int} {vl vr vw : Value} (h : SBox w0 w p p3 S n vl vr vw) (hf : w.Fr w' []) : SBox w0 w' p p3 S n vl vr vw := h.fr hf (by simp) (by simp)
theorem SBox.setg {w0 w : World} {p p3 : Nat} {S : PS} {n : Int} {vl vr vw : Value} (h : SBox w0 w p p3 S n vl vr vw) {g : Nat} (hg : g < w0.heap.size) (hne : p ≠ g) (i : Nat) (v : Value) : SBox w0 (w.setCell ⟨g, i, none⟩ v) p p3 S n vl vr vw :=
 h.fr ((World.Fr.refl w [g]).setCell (a := ⟨g, i, none⟩) (.inl (by simp)) v) (by simpa using hne) (by intro k hk; simp at hk; subst hk; have := h.lo; exact .inl (by omega))
theorem SBox.put7 {w0 w : World} {p p3 : Nat} {S : PS} {n : Int} {vl vr vw : Value} (h : SBox w0 w p p3 S n vl vr vw) (hp : p < w0.heap.size) (v : Value) : SBox w0 (w.setCell ⟨p, 7, none⟩ v) p p3 S n vl vr v := by
 have hl := h.lo
 refine ⟨h.lo, heap_set_other h.b3 _ (by show p3 ≠ p; omega) _, heap_set_other h.b4 _ (by show p3 + 1 ≠ p; omega) _, heap_set_other h.b6 _ (by show p3 + 2 ≠ p; omega) _, ?_⟩
 exact heap_set_same h.box 7 v
theorem Odd.sl {w : World} {v : Value} {n : Nat} {xs : List Value} (h : w.Sl 115 3 v n xs) : Odd w v.blk := by
 intro k hk
 rcases h.2 with ⟨rfl, _⟩ | ⟨g, off, cap, cur, rfl, hg, _⟩
 ·simp [Value.blk] at hk
 ·simp [Value.blk] at hk
  subst hk
  exact ⟨_, _, hg, by decide, by decide, by decide⟩
theorem Sl115.ne {w : World} {v : Value} {n : Nat} {xs : List Value} (h : w.Sl 115 3 v n xs) {k : Nat} {cs : Array Value} {T : TypeId} (hk : w.heap[k]? = some (.cells cs T (0, 0))) (hT : T ≠ 115) : k ∉ v.blk := fun hm => by
 rcases h.2 with ⟨rfl, _⟩ | ⟨g, off, cap, cur, rfl, hg, _⟩
 ·simp [Value.blk] at hm
 ·simp [Value.blk] at hm
  subst hm
  have := hg.symm.trans hk
  injection this with this
  injection this with _ h2
  exact hT h2.symm
theorem sub3 {p3 : Nat} {M : List Nat} (h1 : p3 ∉ M) (h2 : p3 + 1 ∉ M) (h3 : p3 + 2 ∉ M) : ∀ k, k ∈ M -> k < p3 ∨ p3 + 2 < k := fun k hk => by
 by_cases e1 : k = p3
 ·exact absurd (e1 ▸ hk) h1
 by_cases e2 : k = p3 + 1
 ·exact absurd (e2 ▸ hk) h2
 by_cases e3 : k = p3 + 2
 ·exact absurd (e3 ▸ hk) h3
 omega
theorem hold_call {cf : V -> V -> Int} (hK : Ctx V.wf cf) {w : World} {v1 v2 : Value} {nt : Bool} {a b : Tb} (h1 : RdTab w v1 a) (h2 : RdTab w v2 b) (ha : Good cf a) (hb : Good cf b) (hal : a.rows.length <= 600) (hbl : b.rows.length <= 600) :
  Calls Tryz.prog (if nt then 55 else 54) #[v1, v2] w fun e w' => ∃ (x1 : Option Addr) (x2 : Nat) (x3 : Option Addr) (x4 : Nat) (er : Int), e = .returned (.tuple #[.agg #[.slice x1 (holdT cf nt a b).vars.length x2, .slice x3 (holdT cf nt a b).rows.length x4], .int .i64 er]) /\ Hid (OwnTab w w' (.agg #[.slice x1 (holdT cf nt a b).vars.length x2, .slice x3 (holdT cf nt a b).rows.length x4]) (holdT cf nt a b)) := by
 cases nt with
 | true =>
  rw [if_pos rfl]
  refine (anti26 hK h1 h2 (ha.fits (by omega)) (hb.fits (by omega))).mono ?_
  rintro e w' ⟨v, rfl, ho⟩
  have ho' : OwnTab w w' v (holdT cf true a b) := ho
  obtain ⟨x1, x2, x3, x4, rfl⟩ := ho'.shape
  exact ⟨x1, x2, x3, x4, _, rfl, Hz ho'⟩
 | false =>
  rw [if_neg (by simp)]
  have hlight : a.rows.length * b.rows.length <= 600 * 600 := Nat.mul_le_mul hal hbl
  refine (join24 hK h1 h2 (ha.fits (by omega)) (hb.fits (by omega)) (by omega)).mono ?_
  rintro e w' ⟨v, rfl, ho⟩
  have ho' : OwnTab w w' v (holdT cf false a b) := ho
  obtain ⟨x1, x2, x3, x4, rfl⟩ := ho'.shape
  exact ⟨x1, x2, x3, x4, _, rfl, Hz ho'⟩
theorem heldTo_all {cf : V -> V -> Int} {nt : Bool} {a : Tb} {ks : List Kp} : heldTo cf nt a ks ks.length = (ks.map Kp.tt).map (holdK cf nt a) := by
 unfold heldTo
 rw [List.take_length, List.drop_length]
 simp
theorem since65 {cf : V -> V -> Int} (hK : Ctx V.wf cf) {w : World} (hQ : QFrom Q w) {p : Nat} {S : PS} {vl vr vw v : Value} {ts : List Tb} {a t : Tb} {n : Int} (h : PastAt Q w p S vl vr vw) (hO : POk cf S) (ht : ∀ W, w.Fr W (p :: vw.blk) -> RdTabs W v ts) (hdis : ∀ g off l c, v = .slice (some ⟨g, off, none⟩) l c -> g ∉ p :: vw.blk) (ha : ts[0]? = some a) (h0 : ts[ts.length - 1]? = some t) (hlen : (ts.length : Int) = S.parts) (hga : Good cf a) (hg : Good cf t) (hma : a.rows.length <= 600) (hm : t.rows.length <= 600) (hn : 0 <= n /\ n <= 1099511627776) (hva : S.parts = 2 -> ∀ s, s ∈ a.vars -> s ∈ S.right) (hvt : t.vars = S.right) :
  Calls Tryz.prog 65 #[.pointer (some ⟨p, 0, none⟩), .int .i64 n, v] w fun e w' => ∃ u ks' vw', e = .returned u /\ TabIn Q w' u (sinceO cf S.i n ⟨S.right, []⟩ (sinceW cf S a t n)) /\ ks'.map Kp.tt = sinceW cf S a t n /\ PastAt Q w' p { S with waits := ks' } vl vr vw' /\ (∀ k, k ∈ vw'.blk -> k ∈ vw.blk ∨ w.heap.size <= k) /\ w.Fr w' (p :: vw.blk) := by
 obtain ⟨v1, v2, rfl⟩ := (ht w (World.Fr.refl w _)).shape
 obtain ⟨a1, a2, rfl, _, _⟩ := h.left.shape
 obtain ⟨b1, b2, rfl, _, _⟩ := h.right.shape
 obtain ⟨d1, d2, rfl, _, _⟩ := h.kept.sl.shape
 have f0 := (((World.Fr.refl w []).alloc (.cells #[.pointer (some ⟨p, 0, none⟩)] 28)).alloc (.cells #[.int .i64 n] 2)).alloc (.cells #[.slice none 0 0, .slice none 0 0] 34)
 have hB : SBox w (((w.alloc (.cells #[.pointer (some ⟨p, 0, none⟩)] 28)).alloc (.cells #[.int .i64 n] 2)).alloc (.cells #[.slice none 0 0, .slice none 0 0] 34)) p w.heap.size S n (.slice a1 S.left.length a2) (.slice b1 S.right.length b2) (.slice d1 S.waits.length d2) :=
  ⟨Nat.le_refl _, heap_alloc_some (heap_alloc_some (heap_alloc_at w _ _ rfl) _) _, heap_alloc_some (heap_alloc_at _ _ _ (by simp)) _, heap_alloc_at _ _ _ (by simp), f0.heap h.box (by simp)⟩
 have hlt6 : p < w.heap.size := lt_of_heap h.box
 have HDis := Hz hdis; clear hdis
 have HGW := Hz (sinceW_good hK.ord hO hga hva hg hvt hm (n := n))
 clear hva hvt
 have H := Hz h; have HT := Hz ht; have HK := Hz hK; have HQf := Hz hQ; have HG := Hz hg; have HGa := Hz hga; have HO := Hz hO; have H0 := Hz h0; have Ha := Hz ha; have HM := Hz hm; have HMa := Hz hma; have HN := Hz hn; have HLen := Hz hlen
 have HB := Hz hB; have F := Hz f0
 have hml := hO.many
 clear hQ h ht hK hg hga hO h0 ha hm hma hn hlen hB f0
 go_enter Tryz.func65, Tryz.ntmps65
 go_upto_region 1 with (fail)
 generalize hW : World.alloc (World.alloc (World.alloc w _) _) _ = W at *
 clear hW
 obtain ⟨p3, hp3⟩ : ∃ p3, w.heap.size = p3 := ⟨_, rfl⟩
 rw [hp3] at HB
 simp only [hp3]
 have HP3 := Hz hp3
 clear hp3
 obtain ⟨x0, xf⟩ := uno HB.out.b3
 obtain ⟨e0, e1, e2, e3, e4, e5, e6, e7, e8, e9, ef⟩ := ten HB.out.box
 have l3 := lt_of_heap HB.out.b3
 have lp := lt_of_heap HB.out.box
 have HKA := Hz (H.out.kept.still F.out)
 have hl3 := HB.out.lo
 go_cut [6, 15, 16, 17] (fun s6 s15 s16 s17 wx => s6 = .pointer (some ⟨p3 + 2, 0, none⟩) /\ s15 = .slice d1 S.waits.length d2 /\ s16 = .int .i64 S.waits.length /\ s17 = .int .i64 0 /\ W = wx)
 case first =>
  go_wp2
  go_meet
  case rel => exact ⟨rfl, rfl, rfl, rfl, rfl⟩
 case rest =>
 obtain ⟨rfl, rfl, rfl, rfl, rfl⟩ := hcut
 rename_i hNext
 refine hNext _ _ ?_
 clear hNext
 go_cut [6] (fun s6 wx => s6 = .pointer (some ⟨p3 + 2, 0, none⟩) /\ Hid (∃ ks', KeptAt Q wx (.slice d1 S.waits.length d2) ks' /\ ks'.map Kp.tt = heldAll cf S a /\ SBox w wx p p3 S n (.slice a1 S.left.length a2) (.slice b1 S.right.length b2) (.slice d1 S.waits.length d2) /\ w.Fr wx (Value.slice d1 S.waits.length d2).blk))
 case first =>
  go_wp2
  rcases HO.out.parts with hp | hp
  ·have hfin : Hid (∃ ks', KeptAt Q W (.slice d1 S.waits.length d2) ks' /\ ks'.map Kp.tt = heldAll cf S a /\ SBox w W p p3 S n (.slice a1 S.left.length a2) (.slice b1 S.right.length b2) (.slice d1 S.waits.length d2) /\ w.Fr W (Value.slice d1 S.waits.length d2).blk) := Hz ⟨S.waits, HKA.out, by unfold heldAll; rw [if_pos hp], HB.out, F.out.mono (by simp)⟩
   rw [hp] at e9
   go_loopw [17] (fun i wr => i = .int .i64 0 /\ wr = W) (fun i _ => 0)
   case atStart => exact ⟨rfl, rfl⟩
   case round =>
    obtain ⟨rfl, rfl⟩ := hrel
    by_cases hlt : 0 < S.waits.length
    ·have hjI : (0 : Int) < (S.waits.length : Int) := by omega
     go_wp2
     go_meet
     case rel => exact ⟨rfl, hfin⟩
    ·have hd : decide ((0 : Int) < (S.waits.length : Int)) = false := decide_eq_false (by omega)
     have hd2 : decide (0 < S.waits.length) = false := decide_eq_false hlt
     go_wp2
     go_meet
     case rel => exact ⟨rfl, hfin⟩
  ·have hLT : ∀ x, x ∈ (Value.slice d1 S.waits.length d2).blk -> x < w.heap.size := fun x hx => H.out.kept.sl.lt x hx
   have HLT := Hz hLT
   have HF0 := Hz (F.out.mono (L' := (Value.slice d1 S.waits.length d2).blk) (by simp))
   have HE0 : Hid (S.waits.map Kp.tt = heldTo cf S.nt a S.waits 0) := Hz (by unfold heldTo; simp)
   have hpb : p ∉ (Value.slice d1 S.waits.length d2).blk := fun hm => by
    rcases H.out.kept.sl.2 with ⟨he, _⟩ | ⟨g', o', c', cur, he, hg', _⟩
    ·rw [he] at hm; simp [Value.blk] at hm
    ·rw [he] at hm
     simp [Value.blk] at hm
     subst hm
     have := hg'.symm.trans H.out.box
     injection this with this
     injection this with _ h2
     exact absurd h2 (by decide)
   have HPB := Hz hpb
   clear hLT hpb
   go_loopw [17] (fun i wr => ∃ (j : Nat) (ks' : List Kp), i = .int .i64 j /\ j <= S.waits.length /\ Hid (KeptAt Q wr (.slice d1 S.waits.length d2) ks') /\ Hid (ks'.map Kp.tt = heldTo cf S.nt a S.waits j) /\ Hid (SBox w wr p p3 S n (.slice a1 S.left.length a2) (.slice b1 S.right.length b2) (.slice d1 S.waits.length d2)) /\ Hid (w.Fr wr (Value.slice d1 S.waits.length d2).blk)) (fun i _ => (S.waits.length - intOf i).toNat)
   case atStart => exact ⟨0, S.waits, rfl, Nat.zero_le _, HKA, HE0, HB, HF0⟩
   case round =>
    obtain ⟨j, ks', rfl, hj, HK1, HE1, HB1, HF1⟩ := hrel
    clear x0 xf e0 e1 e2 e3 e4 e5 e6 e7 e8 e9 ef l3 lp HKA HE0 HF0
    have hkl : ks'.length = S.waits.length := by have := congrArg List.length HE1.out; simpa [heldTo, Nat.min_eq_left hj, Nat.add_sub_of_le hj] using this
    by_cases hlt : j < S.waits.length
    ·obtain ⟨k, hk⟩ : ∃ k, S.waits[j]? = some k := ⟨S.waits[j], List.getElem?_eq_getElem hlt⟩
     obtain ⟨k', hk'⟩ : ∃ k', ks'[j]? = some k' := ⟨ks'[j]'(by omega), List.getElem?_eq_getElem _⟩
     have htt : k'.tt = k.tt := by
      have := congrArg (fun l => l[j]?) HE1.out
      simp only [List.getElem?_map, hk', heldTo_at hk, Option.map_some] at this
      injection this
     obtain ⟨g, off, c, hv, hg, k0, k1, k2, kf, ksl⟩ := HK1.out.at hk'
     rw [hkl] at hv
     cases hv
     obtain ⟨hkg, hkv, hkr⟩ := HO.out.good k (List.mem_of_getElem? hk)
     have ht1 : k'.time = k.time := congrArg Prod.fst htt
     have ht2 : k'.t = k.t := congrArg Prod.snd htt
     have hjI : (j : Int) < (S.waits.length : Int) := by omega
     have hw1 : IntKind.i64.wrap ((j : Int) + 1) = (j : Int) + 1 := IntWalk.i64_in _ (by omega)
     have hnn : (0 : Int) <= (j : Int) := by omega
     have hFT : w.Fr wr (p :: (Value.slice (some ⟨g, off, none⟩) S.waits.length d2).blk) := HF1.out.mono (fun x hx => List.mem_cons_of_mem _ hx)
     obtain ⟨gt, ofg, ct, w1, w2', w3, w4, hvt, hgt, t1, t2, _⟩ := (HT.out w (World.Fr.refl w _)).at Ha.out
     obtain ⟨gt', ofg', ct', w1', w2'', w3', w4', hvt', hgt', t1', t2', trd⟩ := (HT.out wr hFT).at Ha.out
     cases hvt
     cases hvt'
     have hgb : gt ∉ (Value.slice (some ⟨g, off, none⟩) S.waits.length d2).blk := fun hm => HDis.out gt ofg _ _ rfl (List.mem_cons_of_mem _ hm)
     have HGb := Hz hgb
     have et1 := Option.some.inj ((cellFr HF1.out t1 hgb).symm.trans t1')
     have et2 := Option.some.inj ((cellFr HF1.out t2 hgb).symm.trans t2')
     injection et1 with et1 _ et1'
     injection et2 with et2 _ et2'
     subst et1 et1' et2 et2'
     clear hgb t1' t2' hgt'
     simp only [Nat.zero_mul, Nat.add_zero] at t1 t2
     have HT1 := Hz t1; have HT2 := Hz t2
     have htl : (0 : Int) < (ts.length : Int) := by have := (List.getElem?_eq_some_iff.1 Ha.out).1; omega
     have htl2 : 0 < ts.length := by omega
     obtain ⟨z1, z2, z3, z4, ea, eb⟩ := ksl.shape
     rw [ea] at k1
     rw [eb] at k2
     rw [ea, eb] at ksl
     have hdr : wr.Fr wr.drew [] := (World.Fr.refl wr []).drew
     have hc := hold_call HK.out (nt := S.nt) (ksl.still hdr).rd (trd.still hdr) (ht2 ▸ hkg) HGa.out (by rw [ht2]; exact hkr) HMa.out
     have Hk' := Hz hk'; have Hk := Hz hk; have Htt := Hz htt; have Hkl := Hz hkl
     obtain ⟨x0, xf⟩ := uno HB1.out.b3
     obtain ⟨e0, e1, e2, e3, e4, e5, e6, e7, e8, e9, ef⟩ := ten HB1.out.box
     have l3 := lt_of_heap HB1.out.b3
     have lp := lt_of_heap HB1.out.box
     have hb9 : ((2 : Int) == 1) = false := by decide
     rw [hp] at e9
     clear hk hk' htt hkg hkv hkr hFT ksl trd hdr ht1 ht2 hkl
     cases hnt : S.nt with
     | false =>
      rw [hnt] at hc e3
      simp only [Bool.false_eq_true, if_false] at hc
      have Hc := Hz hc
      have Hnt := Hz hnt
      clear hc hnt
      have hgm : g ∈ (Value.slice (some ⟨g, off, none⟩) S.waits.length d2).blk := by simp [Value.blk]
      have hgl : g < w.heap.size := HLT.out g hgm
      have hpg : p ≠ g := by have := HPB.out; simpa [Value.blk] using this
      have hmk : ∀ W : World, w.Fr W (Value.slice (some ⟨g, off, none⟩) S.waits.length d2).blk -> SBox w W p p3 S n (.slice a1 S.left.length a2) (.slice b1 S.right.length b2) (.slice (some ⟨g, off, none⟩) S.waits.length d2) -> W.cell? ⟨p3, 0, none⟩ = some (.pointer (some ⟨p, 0, none⟩)) /\ W.cell? ⟨p, 7, none⟩ = some (.slice (some ⟨g, off, none⟩) S.waits.length d2) /\ W.cell? ⟨gt, ofg, none⟩ = some (.slice w1 a.vars.length w2') /\ W.cell? ⟨gt, ofg + 1, none⟩ = some (.slice w3 a.rows.length w4) /\ Hid (w.Fr W (Value.slice (some ⟨g, off, none⟩) S.waits.length d2).blk) /\ Hid (SBox w W p p3 S n (.slice a1 S.left.length a2) (.slice b1 S.right.length b2) (.slice (some ⟨g, off, none⟩) S.waits.length d2)) := fun W hf hb => by
       obtain ⟨c0, _⟩ := uno hb.b3
       obtain ⟨_, _, _, _, _, _, _, c7, _, _, _⟩ := ten hb.box
       exact ⟨c0, c7, cellFr hf HT1.out HGb.out, cellFr hf HT2.out HGb.out, Hz hf, Hz hb⟩
      have Hmk := Hz hmk
      have HFx := Hz (HF1.out.drew)
      have HBx := Hz (HB1.out.still ((World.Fr.refl wr []).drew))
      clear hmk x0 xf e0 e1 e2 e3 e4 e5 e6 e7 e8 ef t1 t2
      obtain ⟨x0, e7, t1, t2, _, _⟩ := Hmk.out wr HF1.out HB1.out
      obtain ⟨_, _, _, e3', _, _, _, _, _, e9', _⟩ := ten HB1.out.box
      rw [hp] at e9'
      rw [Hnt.out] at e3'
      go_upto_region 8 with (fail)
      refine wp_region_noPanic ?_
      refine wp_region_held_drew (S := (fun w' => w'.cell? ⟨p3, 0, none⟩ = some (.pointer (some ⟨p, 0, none⟩)) /\ w'.cell? ⟨p, 7, none⟩ = some (.slice (some ⟨g, off, none⟩) S.waits.length d2) /\ w'.cell? ⟨gt, ofg, none⟩ = some (.slice w1 a.vars.length w2') /\ w'.cell? ⟨gt, ofg + 1, none⟩ = some (.slice w3 a.rows.length w4) /\ Hid (w.Fr w' (Value.slice (some ⟨g, off, none⟩) S.waits.length d2).blk) /\ Hid (SBox w w' p p3 S n (.slice a1 S.left.length a2) (.slice b1 S.right.length b2) (.slice (some ⟨g, off, none⟩) S.waits.length d2)))) (by kernel_rfl) ?s1 (fun hHeld1 => ?_)
      case s1 => ((try dsimp only); first | exact Hmk.out _ HFx.out HBx.out | exact Hmk.out _ ((HFx.out.setCell (Or.inl hgm) _).setCell (Or.inl hgm) _) ((HBx.out.setg hgl hpg _ _).setg hgl hpg _ _))
      refine tH (i := 0) (v := ?v2) rfl (by kernel_rfl) (.inl ⟨by rfl, ?y2⟩) (fun _ _ _ h => h) (by assumption) ?z2
      case y2 => (intro w hSw; (try dsimp only at hSw); go_simp; (try with_reducible rfl))
      (try simp only [Act.put, sA, sB, sC])
      refine tH (i := 1) (v := ?v3) rfl (by kernel_rfl) (.inl ⟨by rfl, ?y3⟩) (fun _ _ _ h => h) (by assumption) ?z3
      case y3 => (intro w hSw; (try dsimp only at hSw); go_simp; (try with_reducible rfl))
      (try simp only [Act.put, sA, sB, sC])
      refine tH (i := 2) (v := ?v4) rfl (by kernel_rfl) (.inl ⟨by rfl, ?y4⟩) (fun _ _ _ h => h) (by assumption) ?z4
      case y4 => (intro w hSw; (try dsimp only at hSw); go_simp; (try with_reducible rfl))
      (try simp only [Act.put, sA, sB, sC])
      refine tH (i := 3) (v := ?v5) rfl (by kernel_rfl) (.inl ⟨by rfl, ?y5⟩) (fun _ _ _ h => h) (by assumption) ?z5
      case y5 => (intro w hSw; (try dsimp only at hSw); go_simp; (try with_reducible rfl))
      (try simp only [Act.put, sA, sB, sC])
      refine tH (i := 4) (v := ?v6) rfl (by kernel_rfl) (.inl ⟨by rfl, ?y6⟩) (fun _ _ _ h => h) (by assumption) ?z6
      case y6 => (intro w hSw; (try dsimp only at hSw); go_simp; (try with_reducible rfl))
      (try simp only [Act.put, sA, sB, sC])
      refine tH (i := 5) (v := ?v7) rfl (by kernel_rfl) (.inl ⟨by rfl, ?y7⟩) (fun _ _ _ h => h) (by assumption) ?z7
      case y7 => (intro w hSw; (try dsimp only at hSw); go_simp; (try with_reducible rfl))
      (try simp only [Act.put, sA, sB, sC])
      refine tH (i := 6) (v := ?v8) rfl (by kernel_rfl) (.inl ⟨by rfl, ?y8⟩) (fun _ _ _ h => h) (by assumption) ?z8
      case y8 => (intro w hSw; (try dsimp only at hSw); go_simp; (try with_reducible rfl))
      (try simp only [Act.put, sA, sB, sC])
      refine tH (i := 7) (v := ?v9) rfl (by kernel_rfl) (.inl ⟨by rfl, ?y9⟩) (fun _ _ _ h => h) (by assumption) ?z9
      case y9 => (intro w hSw; (try dsimp only at hSw); go_simp; (try with_reducible rfl))
      (try simp only [Act.put, sA, sB, sC])
      refine tH (i := 8) (v := ?v10) rfl (by kernel_rfl) (.inl ⟨by rfl, ?y10⟩) (fun _ _ _ h => h) (by assumption) ?z10
      case y10 => (intro w hSw; (try dsimp only at hSw); go_simp; (try with_reducible rfl))
      (try simp only [Act.put, sA, sB, sC])
      refine tH (i := 9) (v := ?v11) rfl (by kernel_rfl) (.inl ⟨by rfl, ?y11⟩) (fun _ _ _ h => h) (by assumption) ?z11
      case y11 => (intro w hSw; (try dsimp only at hSw); go_simp; (try with_reducible rfl))
      (try simp only [Act.put, sA, sB, sC])
      refine tH (i := 10) (v := ?v12) rfl (by kernel_rfl) (.inl ⟨by rfl, ?y12⟩) (fun _ _ _ h => h) (by assumption) ?z12
      case y12 => (intro w hSw; (try dsimp only at hSw); go_simp; (try with_reducible rfl))
      (try simp only [Act.put, sA, sB, sC])
      refine tH (i := 11) (v := ?v13) rfl (by kernel_rfl) (.inl ⟨by rfl, ?y13⟩) (fun _ _ _ h => h) (by assumption) ?z13
      case y13 => (intro w hSw; (try dsimp only at hSw); go_simp; (try with_reducible rfl))
      (try simp only [Act.put, sA, sB, sC])
      refine tH (i := 12) (v := ?v14) rfl (by kernel_rfl) (.inl ⟨by rfl, ?y14⟩) (fun _ _ _ h => h) (by assumption) ?z14
      case y14 => (intro w hSw; (try dsimp only at hSw); go_simp; (try with_reducible rfl))
      (try simp only [Act.put, sA, sB, sC])
      refine tH (i := 14) (v := ?v15) rfl (by kernel_rfl) (.inl ⟨by rfl, ?y15⟩) (fun _ _ _ h => h) (by assumption) ?z15
      case y15 => (intro w hSw; (try dsimp only at hSw); go_simp; (try with_reducible rfl))
      (try simp only [Act.put, sA, sB, sC])
      refine tH (i := 15) (v := ?v16) rfl (by kernel_rfl) (.inl ⟨by rfl, ?y16⟩) (fun _ _ _ h => h) (by assumption) ?z16
      case y16 => (intro w hSw; (try dsimp only at hSw); go_simp; (try with_reducible rfl))
      (try simp only [Act.put, sA, sB, sC])
      refine tH (i := 16) (v := ?v17) rfl (by kernel_rfl) (.inl ⟨by rfl, ?y17⟩) (fun _ _ _ h => h) (by assumption) ?z17
      case y17 => (intro w hSw; (try dsimp only at hSw); go_simp; (try with_reducible rfl))
      (try simp only [Act.put, sA, sB, sC])
      refine wpAnyH_ready (rs := [13]) (by kernel_rfl) (by simp) ?_
      refine AllReadyH.cons (o := _) rfl (fun K hK => ?_) ?_
      rotate_left
      exact AllReadyH.nil
      focus
       go_simp
       refine hK.out _ _ ?s18 (fun hHeld18 => ?_)
       case s18 => ((try dsimp only); first | exact Hmk.out _ HFx.out HBx.out | exact Hmk.out _ ((HFx.out.setCell (Or.inl hgm) _).setCell (Or.inl hgm) _) ((HBx.out.setg hgl hpg _ _).setg hgl hpg _ _))
       clear hK K
       (try simp only [Act.put, sA, sB, sC])
       clear hHeld1
       refine wpAnyH_ready (rs := [17]) (by kernel_rfl) (by simp) ?_
       refine AllReadyH.cons (o := _) rfl (fun K hK => ?_) ?_
       rotate_left
       exact AllReadyH.nil
       focus
        go_simp
        (first | (go_at_call 54; (with_reducible refine Hc.out.mono ?_); rintro e w2 ⟨y1, y2, y3, y4, er, rfl, ho⟩; have hf2 := ((World.Fr.refl wr []).drew).trans ho.out.fr (by simp); have HB2 := Hz (HB1.out.still hf2); have HBx := HB2; have HFx := Hz (HF1.out.trans hf2 (by simp)); have HK2 := Hz (HK1.out.still hf2); obtain ⟨_, _, _, hv2, hg2, k3, k4, k5, kf2, _⟩ := HK2.out.at Hk'.out; rw [Hkl.out] at hv2; cases hv2))
        (try go_wp2_with fail)
        refine hK.out _ _ ?s19 (fun hHeld19 => ?_)
        case s19 => ((try dsimp only); first | exact Hmk.out _ HFx.out HBx.out | exact Hmk.out _ ((HFx.out.setCell (Or.inl hgm) _).setCell (Or.inl hgm) _) ((HBx.out.setg hgl hpg _ _).setg hgl hpg _ _))
        clear hK K
        (try simp only [Act.put, sA, sB, sC])
        clear hHeld18
        refine tH (i := 18) (v := ?v20) rfl (by kernel_rfl) (.inl ⟨by rfl, ?y20⟩) (fun _ _ _ h => h) (by assumption) ?z20
        case y20 => (intro w hSw; (try dsimp only at hSw); go_simp; (try with_reducible rfl))
        (try simp only [Act.put, sA, sB, sC])
        refine tH (i := 19) (v := ?v21) rfl (by kernel_rfl) (.inl ⟨by rfl, ?y21⟩) (fun _ _ _ h => h) (by assumption) ?z21
        case y21 => (intro w hSw; (try dsimp only at hSw); go_simp; (try with_reducible rfl))
        (try simp only [Act.put, sA, sB, sC])
        refine tH (i := 20) (v := ?v22) rfl (by kernel_rfl) (.inl ⟨by rfl, ?y22⟩) (fun _ _ _ h => h) (by assumption) ?z22
        case y22 => (intro w hSw; (try dsimp only at hSw); go_simp; (try with_reducible rfl))
        (try simp only [Act.put, sA, sB, sC])
        refine tH (i := 21) (v := ?v23) rfl (by kernel_rfl) (.inl ⟨by rfl, ?y23⟩) (fun _ _ _ h => h) (by assumption) ?z23
        case y23 => (intro w hSw; (try dsimp only at hSw); go_simp; (try with_reducible rfl))
        (try simp only [Act.put, sA, sB, sC])
        refine tH (i := 22) (v := ?v24) rfl (by kernel_rfl) (.inl ⟨by rfl, ?y24⟩) (fun _ _ _ h => h) (by assumption) ?z24
        case y24 => (intro w hSw; (try dsimp only at hSw); go_simp; (try with_reducible rfl))
        (try simp only [Act.put, sA, sB, sC])
        refine wpAnyH_ready (rs := [23]) (by kernel_rfl) (by simp) ?_
        refine AllReadyH.cons (o := _) rfl (fun K hK => ?_) ?_
        rotate_left
        exact AllReadyH.nil
        focus
         go_simp
         refine hK.out _ _ ?s25 (fun hHeld25 => ?_)
         case s25 => ((try dsimp only); first | exact Hmk.out _ HFx.out HBx.out | exact Hmk.out _ ((HFx.out.setCell (Or.inl hgm) _).setCell (Or.inl hgm) _) ((HBx.out.setg hgl hpg _ _).setg hgl hpg _ _))
         clear hK K
         (try simp only [Act.put, sA, sB, sC])
         clear hHeld19
         refine wpAnyH_done (by kernel_rfl) ?_ _
      all_goals (refine NoPanic.normal ?_)
      all_goals
       have hsl2 : TabIn Q w2 (.agg #[.slice y1 (holdT cf false k'.t a).vars.length y2, .slice y3 (holdT cf false k'.t a).rows.length y4]) (holdT cf false k'.t a) := ho.out.inq (HQf.out.fr HF1.out.drew)
       obtain ⟨hka, hkf⟩ := HK2.out.hold Hkl.out Hk'.out hsl2
       have HKa := Hz hka
       have HEa : Hid ((ks'.set j ⟨k'.time, .slice y1 (holdT cf false k'.t a).vars.length y2, .slice y3 (holdT cf false k'.t a).rows.length y4, holdT cf false k'.t a⟩).map Kp.tt = heldTo cf S.nt a S.waits (j + 1)) := Hz (by
        rw [heldTo_step Hk.out, <- HE1.out, List.map_set, <- Htt.out, Hnt.out]; rfl)
       have HBa := Hz (HB2.out.fr hkf (by have := HPB.out; simpa [Value.blk] using this) (by
        intro x hx
        simp at hx
        subst hx
        have := HLT.out x (by simp [Value.blk])
        exact .inl (by omega)))
       have HFa := Hz ((HF1.out.trans hf2 (by simp)).trans hkf (by simp [Value.blk]))
       have HEb : Hid ((ks'.set j ⟨k'.time, .slice y1 (holdT cf false k'.t a).vars.length y2, .slice y3 (holdT cf false k'.t a).rows.length y4, holdT cf false k'.t a⟩).map Kp.tt = heldTo cf false a S.waits (j + 1)) := Hz (Hnt.out ▸ HEa.out)
       clear hsl2 hka hkf HB2 HK2 ho hf2
       go_wp2
       go_roundw
       case rel => exact ⟨j + 1, _, by go_num, by omega, HKa, HEb, HBa, HFa⟩
       case measure => simp [intOf]; omega
     | true =>
      rw [hnt] at hc e3
      simp only [if_true] at hc
      have Hc := Hz hc
      have Hnt := Hz hnt
      clear hc hnt
      have hgm : g ∈ (Value.slice (some ⟨g, off, none⟩) S.waits.length d2).blk := by simp [Value.blk]
      have hgl : g < w.heap.size := HLT.out g hgm
      have hpg : p ≠ g := by have := HPB.out; simpa [Value.blk] using this
      have hmk : ∀ W : World, w.Fr W (Value.slice (some ⟨g, off, none⟩) S.waits.length d2).blk -> SBox w W p p3 S n (.slice a1 S.left.length a2) (.slice b1 S.right.length b2) (.slice (some ⟨g, off, none⟩) S.waits.length d2) -> W.cell? ⟨p3, 0, none⟩ = some (.pointer (some ⟨p, 0, none⟩)) /\ W.cell? ⟨p, 7, none⟩ = some (.slice (some ⟨g, off, none⟩) S.waits.length d2) /\ W.cell? ⟨gt, ofg, none⟩ = some (.slice w1 a.vars.length w2') /\ W.cell? ⟨gt, ofg + 1, none⟩ = some (.slice w3 a.rows.length w4) /\ Hid (w.Fr W (Value.slice (some ⟨g, off, none⟩) S.waits.length d2).blk) /\ Hid (SBox w W p p3 S n (.slice a1 S.left.length a2) (.slice b1 S.right.length b2) (.slice (some ⟨g, off, none⟩) S.waits.length d2)) := fun W hf hb => by
       obtain ⟨c0, _⟩ := uno hb.b3
       obtain ⟨_, _, _, _, _, _, _, c7, _, _, _⟩ := ten hb.box
       exact ⟨c0, c7, cellFr hf HT1.out HGb.out, cellFr hf HT2.out HGb.out, Hz hf, Hz hb⟩
      have Hmk := Hz hmk
      have HFx := Hz (HF1.out.drew)
      have HBx := Hz (HB1.out.still ((World.Fr.refl wr []).drew))
      clear hmk x0 xf e0 e1 e2 e3 e4 e5 e6 e7 e8 ef t1 t2
      obtain ⟨x0, e7, t1, t2, _, _⟩ := Hmk.out wr HF1.out HB1.out
      obtain ⟨_, _, _, e3', _, _, _, _, _, e9', _⟩ := ten HB1.out.box
      rw [hp] at e9'
      rw [Hnt.out] at e3'
      go_upto_region 8 with (fail)
      refine wp_region_noPanic ?_
      refine wp_region_held_drew (S := (fun w' => w'.cell? ⟨p3, 0, none⟩ = some (.pointer (some ⟨p, 0, none⟩)) /\ w'.cell? ⟨p, 7, none⟩ = some (.slice (some ⟨g, off, none⟩) S.waits.length d2) /\ w'.cell? ⟨gt, ofg, none⟩ = some (.slice w1 a.vars.length w2') /\ w'.cell? ⟨gt, ofg + 1, none⟩ = some (.slice w3 a.rows.length w4) /\ Hid (w.Fr w' (Value.slice (some ⟨g, off, none⟩) S.waits.length d2).blk) /\ Hid (SBox w w' p p3 S n (.slice a1 S.left.length a2) (.slice b1 S.right.length b2) (.slice (some ⟨g, off, none⟩) S.waits.length d2)))) (by kernel_rfl) ?s26 (fun hHeld26 => ?_)
      case s26 => ((try dsimp only); first | exact Hmk.out _ HFx.out HBx.out | exact Hmk.out _ ((HFx.out.setCell (Or.inl hgm) _).setCell (Or.inl hgm) _) ((HBx.out.setg hgl hpg _ _).setg hgl hpg _ _))
      refine tH (i := 0) (v := ?v27) rfl (by kernel_rfl) (.inl ⟨by rfl, ?y27⟩) (fun _ _ _ h => h) (by assumption) ?z27
      case y27 => (intro w hSw; (try dsimp only at hSw); go_simp; (try with_reducible rfl))
      (try simp only [Act.put, sA, sB, sC])
      refine tH (i := 1) (v := ?v28) rfl (by kernel_rfl) (.inl ⟨by rfl, ?y28⟩) (fun _ _ _ h => h) (by assumption) ?z28
      case y28 => (intro w hSw; (try dsimp only at hSw); go_simp; (try with_reducible rfl))
      (try simp only [Act.put, sA, sB, sC])
      refine tH (i := 2) (v := ?v29) rfl (by kernel_rfl) (.inl ⟨by rfl, ?y29⟩) (fun _ _ _ h => h) (by assumption) ?z29
      case y29 => (intro w hSw; (try dsimp only at hSw); go_simp; (try with_reducible rfl))
      (try simp only [Act.put, sA, sB, sC])
      refine tH (i := 3) (v := ?v30) rfl (by kernel_rfl) (.inl ⟨by rfl, ?y30⟩) (fun _ _ _ h => h) (by assumption) ?z30
      case y30 => (intro w hSw; (try dsimp only at hSw); go_simp; (try with_reducible rfl))
      (try simp only [Act.put, sA, sB, sC])
      refine tH (i := 4) (v := ?v31) rfl (by kernel_rfl) (.inl ⟨by rfl, ?y31⟩) (fun _ _ _ h => h) (by assumption) ?z31
      case y31 => (intro w hSw; (try dsimp only at hSw); go_simp; (try with_reducible rfl))
      (try simp only [Act.put, sA, sB, sC])
      refine tH (i := 5) (v := ?v32) rfl (by kernel_rfl) (.inl ⟨by rfl, ?y32⟩) (fun _ _ _ h => h) (by assumption) ?z32
      case y32 => (intro w hSw; (try dsimp only at hSw); go_simp; (try with_reducible rfl))
      (try simp only [Act.put, sA, sB, sC])
      refine tH (i := 6) (v := ?v33) rfl (by kernel_rfl) (.inl ⟨by rfl, ?y33⟩) (fun _ _ _ h => h) (by assumption) ?z33
      case y33 => (intro w hSw; (try dsimp only at hSw); go_simp; (try with_reducible rfl))
      (try simp only [Act.put, sA, sB, sC])
      refine tH (i := 7) (v := ?v34) rfl (by kernel_rfl) (.inl ⟨by rfl, ?y34⟩) (fun _ _ _ h => h) (by assumption) ?z34
      case y34 => (intro w hSw; (try dsimp only at hSw); go_simp; (try with_reducible rfl))
      (try simp only [Act.put, sA, sB, sC])
      refine tH (i := 8) (v := ?v35) rfl (by kernel_rfl) (.inl ⟨by rfl, ?y35⟩) (fun _ _ _ h => h) (by assumption) ?z35
      case y35 => (intro w hSw; (try dsimp only at hSw); go_simp; (try with_reducible rfl))
      (try simp only [Act.put, sA, sB, sC])
      refine tH (i := 9) (v := ?v36) rfl (by kernel_rfl) (.inl ⟨by rfl, ?y36⟩) (fun _ _ _ h => h) (by assumption) ?z36
      case y36 => (intro w hSw; (try dsimp only at hSw); go_simp; (try with_reducible rfl))
      (try simp only [Act.put, sA, sB, sC])
      refine tH (i := 10) (v := ?v37) rfl (by kernel_rfl) (.inl ⟨by rfl, ?y37⟩) (fun _ _ _ h => h) (by assumption) ?z37
      case y37 => (intro w hSw; (try dsimp only at hSw); go_simp; (try with_reducible rfl))
      (try simp only [Act.put, sA, sB, sC])
      refine tH (i := 11) (v := ?v38) rfl (by kernel_rfl) (.inl ⟨by rfl, ?y38⟩) (fun _ _ _ h => h) (by assumption) ?z38
      case y38 => (intro w hSw; (try dsimp only at hSw); go_simp; (try with_reducible rfl))
      (try simp only [Act.put, sA, sB, sC])
      refine tH (i := 12) (v := ?v39) rfl (by kernel_rfl) (.inl ⟨by rfl, ?y39⟩) (fun _ _ _ h => h) (by assumption) ?z39
      case y39 => (intro w hSw; (try dsimp only at hSw); go_simp; (try with_reducible rfl))
      (try simp only [Act.put, sA, sB, sC])
      refine tH (i := 14) (v := ?v40) rfl (by kernel_rfl) (.inl ⟨by rfl, ?y40⟩) (fun _ _ _ h => h) (by assumption) ?z40
      case y40 => (intro w hSw; (try dsimp only at hSw); go_simp; (try with_reducible rfl))
      (try simp only [Act.put, sA, sB, sC])
      refine tH (i := 15) (v := ?v41) rfl (by kernel_rfl) (.inl ⟨by rfl, ?y41⟩) (fun _ _ _ h => h) (by assumption) ?z41
      case y41 => (intro w hSw; (try dsimp only at hSw); go_simp; (try with_reducible rfl))
      (try simp only [Act.put, sA, sB, sC])
      refine tH (i := 16) (v := ?v42) rfl (by kernel_rfl) (.inl ⟨by rfl, ?y42⟩) (fun _ _ _ h => h) (by assumption) ?z42
      case y42 => (intro w hSw; (try dsimp only at hSw); go_simp; (try with_reducible rfl))
      (try simp only [Act.put, sA, sB, sC])
      refine wpAnyH_ready (rs := [13]) (by kernel_rfl) (by simp) ?_
      refine AllReadyH.cons (o := _) rfl (fun K hK => ?_) ?_
      rotate_left
      exact AllReadyH.nil
      focus
       go_simp
       refine hK.out _ _ ?s43 (fun hHeld43 => ?_)
       case s43 => ((try dsimp only); first | exact Hmk.out _ HFx.out HBx.out | exact Hmk.out _ ((HFx.out.setCell (Or.inl hgm) _).setCell (Or.inl hgm) _) ((HBx.out.setg hgl hpg _ _).setg hgl hpg _ _))
       clear hK K
       (try simp only [Act.put, sA, sB, sC])
       clear hHeld26
       refine wpAnyH_ready (rs := [17]) (by kernel_rfl) (by simp) ?_
       refine AllReadyH.cons (o := _) rfl (fun K hK => ?_) ?_
       rotate_left
       exact AllReadyH.nil
       focus
        go_simp
        (first | (go_at_call 55; (with_reducible refine Hc.out.mono ?_); rintro e w2 ⟨y1, y2, y3, y4, er, rfl, ho⟩; have hf2 := ((World.Fr.refl wr []).drew).trans ho.out.fr (by simp); have HB2 := Hz (HB1.out.still hf2); have HBx := HB2; have HFx := Hz (HF1.out.trans hf2 (by simp)); have HK2 := Hz (HK1.out.still hf2); obtain ⟨_, _, _, hv2, hg2, k3, k4, k5, kf2, _⟩ := HK2.out.at Hk'.out; rw [Hkl.out] at hv2; cases hv2))
        (try go_wp2_with fail)
        refine hK.out _ _ ?s44 (fun hHeld44 => ?_)
        case s44 => ((try dsimp only); first | exact Hmk.out _ HFx.out HBx.out | exact Hmk.out _ ((HFx.out.setCell (Or.inl hgm) _).setCell (Or.inl hgm) _) ((HBx.out.setg hgl hpg _ _).setg hgl hpg _ _))
        clear hK K
        (try simp only [Act.put, sA, sB, sC])
        clear hHeld43
        refine tH (i := 18) (v := ?v45) rfl (by kernel_rfl) (.inl ⟨by rfl, ?y45⟩) (fun _ _ _ h => h) (by assumption) ?z45
        case y45 => (intro w hSw; (try dsimp only at hSw); go_simp; (try with_reducible rfl))
        (try simp only [Act.put, sA, sB, sC])
        refine tH (i := 19) (v := ?v46) rfl (by kernel_rfl) (.inl ⟨by rfl, ?y46⟩) (fun _ _ _ h => h) (by assumption) ?z46
        case y46 => (intro w hSw; (try dsimp only at hSw); go_simp; (try with_reducible rfl))
        (try simp only [Act.put, sA, sB, sC])
        refine tH (i := 20) (v := ?v47) rfl (by kernel_rfl) (.inl ⟨by rfl, ?y47⟩) (fun _ _ _ h => h) (by assumption) ?z47
        case y47 => (intro w hSw; (try dsimp only at hSw); go_simp; (try with_reducible rfl))
        (try simp only [Act.put, sA, sB, sC])
        refine tH (i := 21) (v := ?v48) rfl (by kernel_rfl) (.inl ⟨by rfl, ?y48⟩) (fun _ _ _ h => h) (by assumption) ?z48
        case y48 => (intro w hSw; (try dsimp only at hSw); go_simp; (try with_reducible rfl))
        (try simp only [Act.put, sA, sB, sC])
        refine tH (i := 22) (v := ?v49) rfl (by kernel_rfl) (.inl ⟨by rfl, ?y49⟩) (fun _ _ _ h => h) (by assumption) ?z49
        case y49 => (intro w hSw; (try dsimp only at hSw); go_simp; (try with_reducible rfl))
        (try simp only [Act.put, sA, sB, sC])
        refine wpAnyH_ready (rs := [23]) (by kernel_rfl) (by simp) ?_
        refine AllReadyH.cons (o := _) rfl (fun K hK => ?_) ?_
        rotate_left
        exact AllReadyH.nil
        focus
         go_simp
         refine hK.out _ _ ?s50 (fun hHeld50 => ?_)
         case s50 => ((try dsimp only); first | exact Hmk.out _ HFx.out HBx.out | exact Hmk.out _ ((HFx.out.setCell (Or.inl hgm) _).setCell (Or.inl hgm) _) ((HBx.out.setg hgl hpg _ _).setg hgl hpg _ _))
         clear hK K
         (try simp only [Act.put, sA, sB, sC])
         clear hHeld44
         refine wpAnyH_done (by kernel_rfl) ?_ _
      all_goals (refine NoPanic.normal ?_)
      all_goals
       have hsl2 : TabIn Q w2 (.agg #[.slice y1 (holdT cf true k'.t a).vars.length y2, .slice y3 (holdT cf true k'.t a).rows.length y4]) (holdT cf true k'.t a) := ho.out.inq (HQf.out.fr HF1.out.drew)
       obtain ⟨hka, hkf⟩ := HK2.out.hold Hkl.out Hk'.out hsl2
       have HKa := Hz hka
       have HEa : Hid ((ks'.set j ⟨k'.time, .slice y1 (holdT cf true k'.t a).vars.length y2, .slice y3 (holdT cf true k'.t a).rows.length y4, holdT cf true k'.t a⟩).map Kp.tt = heldTo cf S.nt a S.waits (j + 1)) := Hz (by
        rw [heldTo_step Hk.out, <- HE1.out, List.map_set, <- Htt.out, Hnt.out]; rfl)
       have HBa := Hz (HB2.out.fr hkf (by have := HPB.out; simpa [Value.blk] using this) (by
        intro x hx
        simp at hx
        subst hx
        have := HLT.out x (by simp [Value.blk])
        exact .inl (by omega)))
       have HFa := Hz ((HF1.out.trans hf2 (by simp)).trans hkf (by simp [Value.blk]))
       have HEb : Hid ((ks'.set j ⟨k'.time, .slice y1 (holdT cf true k'.t a).vars.length y2, .slice y3 (holdT cf true k'.t a).rows.length y4, holdT cf true k'.t a⟩).map Kp.tt = heldTo cf true a S.waits (j + 1)) := Hz (Hnt.out ▸ HEa.out)
       clear hsl2 hka hkf HB2 HK2 ho hf2
       go_wp2
       go_roundw
       case rel => exact ⟨j + 1, _, by go_num, by omega, HKa, HEb, HBa, HFa⟩
       case measure => simp [intOf]; omega
    ·have hd : decide ((j : Int) < (S.waits.length : Int)) = false := decide_eq_false (by omega)
     have hd2 : decide (j < S.waits.length) = false := decide_eq_false hlt
     obtain rfl : j = S.waits.length := by omega
     have hE := HE1.out
     rw [heldTo_all] at hE
     have hfin : Hid (∃ ks', KeptAt Q wr (.slice d1 S.waits.length d2) ks' /\ ks'.map Kp.tt = heldAll cf S a /\ SBox w wr p p3 S n (.slice a1 S.left.length a2) (.slice b1 S.right.length b2) (.slice d1 S.waits.length d2) /\ w.Fr wr (Value.slice d1 S.waits.length d2).blk) := Hz ⟨ks', HK1.out, by unfold heldAll; rw [if_neg (by omega)]; exact hE, HB1.out, HF1.out⟩
     clear hE HE1 HK1 HB1 HF1 hlt hj
     go_wp2
     go_meet
     case rel => exact ⟨rfl, hfin⟩
 case rest =>
  obtain ⟨rfl, hh⟩ := hcut
  obtain ⟨ks1, hk1, he1, hb1, hf1⟩ := hh.out
  clear x0 xf e0 e1 e2 e3 e4 e5 e6 e7 e8 e9 ef l3 lp HKA HB F hh
  have hlen1 : ks1.length = S.waits.length := by
   have := congrArg List.length he1
   unfold heldAll at this
   split at this <;> simpa using this
  have HK1 := Hz hk1; have HE1 := Hz he1; have HB1 := Hz hb1; have HF1 := Hz hf1; have Hl1 := Hz hlen1
  clear hk1 he1 hb1 hf1 hlen1
  go_upto_region 10 with (fail)
  go_cut [6] (fun s6 wx => s6 = .pointer (some ⟨p3 + 2, 0, none⟩) /\ Hid (∃ ks2 v', KeptAt Q wx v' ks2 /\ ks2.map Kp.tt = heldAll cf S a ++ [(n, t)] /\ SBox w wx p p3 S n (.slice a1 S.left.length a2) (.slice b1 S.right.length b2) v' /\ (∀ k, k ∈ v'.blk -> k ∈ (Value.slice d1 S.waits.length d2).blk ∨ w.heap.size <= k) /\ w.Fr wx (p :: (Value.slice d1 S.waits.length d2).blk)))
  case first =>
   rcases HO.out.parts with hp | hp
   ·have hinf : (Tryz.prog.info? 115).map (fun i => (i.zero, i.size, i.bytes)) = some (some (.agg #[.int .i64 0, .slice none 0 0, .slice none 0 0]), 3, 56) := by kernel_rfl
    obtain ⟨i0, ji, jz0, jz1, jz2⟩ := info_parts hinf
    obtain ⟨gt, ofg, ct, w1, w2', w3, w4, hvt, hgt, t1, t2, _⟩ := (HT.out w (World.Fr.refl w _)).at H0.out
    obtain ⟨gt', ofg', ct', w1', w2'', w3', w4', hvt', hgt', t1', t2', trd⟩ := (HT.out wc (HF1.out.mono (fun x hx => List.mem_cons_of_mem _ hx))).at H0.out
    cases hvt
    cases hvt'
    have hgb : gt ∉ p :: (Value.slice d1 S.waits.length d2).blk := fun hm => HDis.out gt ofg _ _ rfl hm
    have HGb := Hz hgb
    have et1 := Option.some.inj ((cellFr HF1.out t1 (fun hm => hgb (List.mem_cons_of_mem _ hm))).symm.trans t1')
    have et2 := Option.some.inj ((cellFr HF1.out t2 (fun hm => hgb (List.mem_cons_of_mem _ hm))).symm.trans t2')
    injection et1 with et1 _ et1'
    injection et2 with et2 _ et2'
    subst et1 et1' et2 et2'
    clear hgb t1' t2' hgt'
    have hlen2 : ts.length = 1 := by have := HLen.out; omega
    rw [hlen2] at t1 t2
    simp only [Nat.sub_self, Nat.zero_mul, Nat.add_zero, Nat.one_mul, Nat.reduceSub] at t1 t2
    have HT1 := Hz t1; have HT2 := Hz t2
    have Hlen2 := Hz hlen2
    have htlI : (0 : Int) < (ts.length : Int) := by omega
    have htlN : 0 < ts.length := by omega
    have hwp : IntKind.i64.wrap ((1 : Int) - 1) = 0 := by decide
    have hwq : IntKind.i64.wrap (0 : Int) = 0 := by decide
    have hne0 : ts.length ≠ 0 := by omega
    have hle0 : ¬ (ts.length <= 0) := by omega
    have hlI0 : ¬ ((ts.length : Int) <= 0) := by omega
    clear hlen2
    have hpb : p ∉ (Value.slice d1 S.waits.length d2).blk := fun hm => by
     rcases H.out.kept.sl.2 with ⟨he, _⟩ | ⟨g', o', c', cur, he, hg', _⟩
     ·rw [he] at hm; simp [Value.blk] at hm
     ·rw [he] at hm
      simp [Value.blk] at hm
      subst hm
      have := hg'.symm.trans H.out.box
      injection this with this
      injection this with _ h2
      exact absurd h2 (by decide)
    have HPB := Hz hpb
    have HLT := Hz (fun x (hx : x ∈ (Value.slice d1 S.waits.length d2).blk) => H.out.kept.sl.lt x hx)
    clear hpb
    have hdr : wc.Fr wc.drew [] := (World.Fr.refl wc []).drew
    have Hc := Hz (copied62 HK.out (trd.still hdr) (HG.out.fits (by have := HM.out; omega)) HG.out.check)
    clear trd hdr
    have hmk : ∀ (W : World) (vx : Value), w.Fr W (p :: (Value.slice d1 S.waits.length d2).blk) -> SBox w W p p3 S n (.slice a1 S.left.length a2) (.slice b1 S.right.length b2) vx -> W.cell? ⟨p3, 0, none⟩ = some (.pointer (some ⟨p, 0, none⟩)) /\ W.cell? ⟨p3 + 1, 0, none⟩ = some (.int .i64 n) /\ W.cell? ⟨p, 9, none⟩ = some (.int .i64 1) /\ W.cell? ⟨gt, ofg, none⟩ = some (.slice w1 t.vars.length w2') /\ W.cell? ⟨gt, ofg + 1, none⟩ = some (.slice w3 t.rows.length w4) /\ Hid (w.Fr W (p :: (Value.slice d1 S.waits.length d2).blk)) /\ Hid (∃ vx, SBox w W p p3 S n (.slice a1 S.left.length a2) (.slice b1 S.right.length b2) vx) := fun W vx hf hb => by
     obtain ⟨c0, _⟩ := uno hb.b3
     obtain ⟨c4, _⟩ := uno hb.b4
     obtain ⟨_, _, _, _, _, _, _, _, _, c9, _⟩ := ten hb.box
     rw [hp] at c9
     exact ⟨c0, c4, c9, cellFr hf HT1.out HGb.out, cellFr hf HT2.out HGb.out, Hz hf, Hz ⟨_, hb⟩⟩
    have Hmk := Hz hmk
    have HFx := Hz ((HF1.out.mono (L' := p :: (Value.slice d1 S.waits.length d2).blk) (fun x hx => List.mem_cons_of_mem _ hx)).drew)
    have HBx := Hz (HB1.out.still ((World.Fr.refl wc []).drew))
    obtain ⟨x0, y0, e9, t1, t2, _, _⟩ := Hmk.out wc _ (undr HFx.out) HB1.out
    obtain ⟨_, _, _, _, _, _, _, e7, _, _, _⟩ := ten HB1.out.box
    have lp := lt_of_heap HB1.out.box
    clear hmk
    refine wp_region_noPanic ?_
    refine wp_region_held_drew (S := (fun w' => w'.cell? ⟨p3, 0, none⟩ = some (.pointer (some ⟨p, 0, none⟩)) /\ w'.cell? ⟨p3 + 1, 0, none⟩ = some (.int .i64 n) /\ w'.cell? ⟨p, 9, none⟩ = some (.int .i64 1) /\ w'.cell? ⟨gt, ofg, none⟩ = some (.slice w1 t.vars.length w2') /\ w'.cell? ⟨gt, ofg + 1, none⟩ = some (.slice w3 t.rows.length w4) /\ Hid (w.Fr w' (p :: (Value.slice d1 S.waits.length d2).blk)) /\ Hid (∃ vx, SBox w w' p p3 S n (.slice a1 S.left.length a2) (.slice b1 S.right.length b2) vx))) (by kernel_rfl) ?s51 (fun hHeld51 => ?_)
    case s51 => ((try dsimp only); first | exact Hmk.out _ _ HFx.out HBx.out | exact Hmk.out _ _ (HFx.out.setCell (Or.inl List.mem_cons_self) _) (HBx.out.put7 hlt6 _) | exact Hmk.out _ _ (HFx.out.alloc _) (HBx.out.still ((World.Fr.refl _ []).alloc _)))
    refine tH (i := 0) (v := ?v52) rfl (by kernel_rfl) (.inl ⟨by rfl, ?y52⟩) (fun _ _ _ h => h) (by assumption) ?z52
    case y52 => (intro w hSw; (try dsimp only at hSw); go_simp; (try with_reducible rfl))
    (try simp only [Act.put, sA, sB, sC])
    refine tH (i := 1) (v := ?v53) rfl (by kernel_rfl) (.inl ⟨by rfl, ?y53⟩) (fun _ _ _ h => h) (by assumption) ?z53
    case y53 => (intro w hSw; (try dsimp only at hSw); go_simp; (try with_reducible rfl))
    (try simp only [Act.put, sA, sB, sC])
    refine tH (i := 2) (v := ?v54) rfl (by kernel_rfl) (.inl ⟨by rfl, ?y54⟩) (fun _ _ _ h => h) (by assumption) ?z54
    case y54 => (intro w hSw; (try dsimp only at hSw); go_simp; (try with_reducible rfl))
    (try simp only [Act.put, sA, sB, sC])
    refine tH (i := 3) (v := ?v55) rfl (by kernel_rfl) (.inl ⟨by rfl, ?y55⟩) (fun _ _ _ h => h) (by assumption) ?z55
    case y55 => (intro w hSw; (try dsimp only at hSw); go_simp; (try with_reducible rfl))
    (try simp only [Act.put, sA, sB, sC])
    refine tH (i := 5) (v := ?v56) rfl (by kernel_rfl) (.inl ⟨by rfl, ?y56⟩) (fun _ _ _ h => h) (by assumption) ?z56
    case y56 => (intro w hSw; (try dsimp only at hSw); go_simp; (try with_reducible rfl))
    (try simp only [Act.put, sA, sB, sC])
    refine tH (i := 6) (v := ?v57) rfl (by kernel_rfl) (.inl ⟨by rfl, ?y57⟩) (fun _ _ _ h => h) (by assumption) ?z57
    case y57 => (intro w hSw; (try dsimp only at hSw); go_simp; (try with_reducible rfl))
    (try simp only [Act.put, sA, sB, sC])
    refine tH (i := 7) (v := ?v58) rfl (by kernel_rfl) (.inl ⟨by rfl, ?y58⟩) (fun _ _ _ h => h) (by assumption) ?z58
    case y58 => (intro w hSw; (try dsimp only at hSw); go_simp; (try with_reducible rfl))
    (try simp only [Act.put, sA, sB, sC])
    refine tH (i := 8) (v := ?v59) rfl (by kernel_rfl) (.inl ⟨by rfl, ?y59⟩) (fun _ _ _ h => h) (by assumption) ?z59
    case y59 => (intro w hSw; (try dsimp only at hSw); go_simp; (try with_reducible rfl))
    (try simp only [Act.put, sA, sB, sC])
    refine tH (i := 9) (v := ?v60) rfl (by kernel_rfl) (.inl ⟨by rfl, ?y60⟩) (fun _ _ _ h => h) (by assumption) ?z60
    case y60 => (intro w hSw; (try dsimp only at hSw); go_simp; (try with_reducible rfl))
    (try simp only [Act.put, sA, sB, sC])
    refine tH (i := 10) (v := ?v61) rfl (by kernel_rfl) (.inl ⟨by rfl, ?y61⟩) (fun _ _ _ h => h) (by assumption) ?z61
    case y61 => (intro w hSw; (try dsimp only at hSw); go_simp; (try with_reducible rfl))
    (try simp only [Act.put, sA, sB, sC])
    refine tH (i := 11) (v := ?v62) rfl (by kernel_rfl) (.inl ⟨by rfl, ?y62⟩) (fun _ _ _ h => h) (by assumption) ?z62
    case y62 => (intro w hSw; (try dsimp only at hSw); go_simp; (try with_reducible rfl))
    (try simp only [Act.put, sA, sB, sC])
    refine tH (i := 12) (v := ?v63) rfl (by kernel_rfl) (.inl ⟨by rfl, ?y63⟩) (fun _ _ _ h => h) (by assumption) ?z63
    case y63 => (intro w hSw; (try dsimp only at hSw); go_simp; (try with_reducible rfl))
    (try simp only [Act.put, sA, sB, sC])
    refine tH (i := 13) (v := ?v64) rfl (by kernel_rfl) (.inl ⟨by rfl, ?y64⟩) (fun _ _ _ h => h) (by assumption) ?z64
    case y64 => (intro w hSw; (try dsimp only at hSw); go_simp; (try with_reducible rfl))
    (try simp only [Act.put, sA, sB, sC])
    refine wpAnyH_ready (rs := [4, 14]) (by kernel_rfl) (by simp) ?_
    refine AllReadyH.cons (o := _) rfl (fun K hK => ?_) ?_
    rotate_left
    refine AllReadyH.cons (o := _) rfl (fun K hK => ?_) ?_
    rotate_left
    exact AllReadyH.nil
    focus
     go_simp
     refine hK.out _ _ ?s65 (fun hHeld65 => ?_)
     case s65 => ((try dsimp only); first | exact Hmk.out _ _ HFx.out HBx.out | exact Hmk.out _ _ (HFx.out.setCell (Or.inl List.mem_cons_self) _) (HBx.out.put7 hlt6 _) | exact Hmk.out _ _ (HFx.out.alloc _) (HBx.out.still ((World.Fr.refl _ []).alloc _)))
     clear hK K
     (try simp only [Act.put, sA, sB, sC])
     clear hHeld51
     refine wpAnyH_ready (rs := [14]) (by kernel_rfl) (by simp) ?_
     refine AllReadyH.cons (o := _) rfl (fun K hK => ?_) ?_
     rotate_left
     exact AllReadyH.nil
     focus
      go_simp
      (first | (go_at_call 62; (with_reducible refine Hc.out.mono ?_); rintro e w2 ⟨u, rfl, ho⟩; obtain ⟨y1, y2, y3, y4, rfl⟩ := ho.shape; have hf2 := ((World.Fr.refl wc []).drew).trans ho.fr (by simp); have HB2 := Hz (HB1.out.still hf2); have HBx := HB2; have HFx := Hz ((undr HFx.out).trans hf2 (by simp)); have Hsz := Hz HFx.out.size; have HK2 := Hz (HK1.out.still hf2); have hks := HK2.out.sl; rw [Hl1.out] at hks; have HKS := Hz hks; have Ho := Hz ho; clear ho hks; obtain ⟨_, _, _, _, _, _, _, e7', _, _, _⟩ := ten HB2.out.box; have lp2 := lt_of_heap HB2.out.box) | (refine step_append_one _ rfl (.tmp 57) (.tmp 69) 94 rfl 115 i0 (.agg #[.int .i64 0, .slice none 0 0, .slice none 0 0]) 3 56 Tryz.underlying94 ji jz0 jz1 jz2 rfl (.slice d1 S.waits.length d2) S.waits.length (ks1.flatMap Kp.cells) (by simp [Act.eval]) (World.Sl.alloc HKS.out _) w2.heap.size 1 [.int .i64 n, .slice y1 t.vars.length y2, .slice y3 t.rows.length y4] 115 (by simp [Act.eval]) (heap_alloc_at _ _ _ rfl) rfl rfl ⟨by omega, by omega⟩ ?_; intro g3 off3 c3 w5 hsl hfr hat hlt5; have HFx := Hz ((HFx.out.alloc (.cells #[.int .i64 n, .slice y1 t.vars.length y2, .slice y3 t.rows.length y4] 115)).trans hfr (fun x hx => Or.inl (List.mem_cons_of_mem _ hx))); have HBx := Hz ((HBx.out.still ((World.Fr.refl w2 []).alloc (.cells #[.int .i64 n, .slice y1 t.vars.length y2, .slice y3 t.rows.length y4] 115))).fr hfr HPB.out (fun x hx => Or.inl (Nat.lt_of_lt_of_le (HLT.out x hx) hl3))); have Hsl := Hz hsl; have Hfr := Hz hfr; have Hat := Hz hat; have Hlt5 := Hz hlt5; clear hsl hfr hat hlt5; obtain ⟨_, _, _, _, _, _, _, e75, _, _, ef5⟩ := ten HBx.out.box; have lp5 := lt_of_heap HBx.out.box))
      (try go_wp2_with fail)
      refine hK.out _ _ ?s66 (fun hHeld66 => ?_)
      case s66 => ((try dsimp only); first | exact Hmk.out _ _ HFx.out HBx.out | exact Hmk.out _ _ (HFx.out.setCell (Or.inl List.mem_cons_self) _) (HBx.out.put7 hlt6 _) | exact Hmk.out _ _ (HFx.out.alloc _) (HBx.out.still ((World.Fr.refl _ []).alloc _)))
      clear hK K
      (try simp only [Act.put, sA, sB, sC])
      clear hHeld65
      refine tH (i := 15) (v := ?v67) rfl (by kernel_rfl) (.inl ⟨by rfl, ?y67⟩) (fun _ _ _ h => h) (by assumption) ?z67
      case y67 => (intro w hSw; (try dsimp only at hSw); go_simp; (try with_reducible rfl))
      (try simp only [Act.put, sA, sB, sC])
      refine wpAnyH_ready (rs := [16]) (by kernel_rfl) (by simp) ?_
      refine AllReadyH.cons (o := _) rfl (fun K hK => ?_) ?_
      rotate_left
      exact AllReadyH.nil
      focus
       go_simp
       refine hK.out _ _ ?s68 (fun hHeld68 => ?_)
       case s68 => ((try dsimp only); first | exact Hmk.out _ _ HFx.out HBx.out | exact Hmk.out _ _ (HFx.out.setCell (Or.inl List.mem_cons_self) _) (HBx.out.put7 hlt6 _) | exact Hmk.out _ _ (HFx.out.alloc _) (HBx.out.still ((World.Fr.refl _ []).alloc _)))
       clear hK K
       (try simp only [Act.put, sA, sB, sC])
       clear hHeld66
       refine wpAnyH_ready (rs := [17]) (by kernel_rfl) (by simp) ?_
       refine AllReadyH.cons (o := _) rfl (fun K hK => ?_) ?_
       rotate_left
       exact AllReadyH.nil
       focus
        (first | (go_at_call 62; (with_reducible refine Hc.out.mono ?_); rintro e w2 ⟨u, rfl, ho⟩; obtain ⟨y1, y2, y3, y4, rfl⟩ := ho.shape; have hf2 := ((World.Fr.refl wc []).drew).trans ho.fr (by simp); have HB2 := Hz (HB1.out.still hf2); have HBx := HB2; have HFx := Hz ((undr HFx.out).trans hf2 (by simp)); have Hsz := Hz HFx.out.size; have HK2 := Hz (HK1.out.still hf2); have hks := HK2.out.sl; rw [Hl1.out] at hks; have HKS := Hz hks; have Ho := Hz ho; clear ho hks; obtain ⟨_, _, _, _, _, _, _, e7', _, _, _⟩ := ten HB2.out.box; have lp2 := lt_of_heap HB2.out.box) | (refine step_append_one _ rfl (.tmp 57) (.tmp 69) 94 rfl 115 i0 (.agg #[.int .i64 0, .slice none 0 0, .slice none 0 0]) 3 56 Tryz.underlying94 ji jz0 jz1 jz2 rfl (.slice d1 S.waits.length d2) S.waits.length (ks1.flatMap Kp.cells) (by simp [Act.eval]) (World.Sl.alloc HKS.out _) w2.heap.size 1 [.int .i64 n, .slice y1 t.vars.length y2, .slice y3 t.rows.length y4] 115 (by simp [Act.eval]) (heap_alloc_at _ _ _ rfl) rfl rfl ⟨by omega, by omega⟩ ?_; intro g3 off3 c3 w5 hsl hfr hat hlt5; have HFx := Hz ((HFx.out.alloc (.cells #[.int .i64 n, .slice y1 t.vars.length y2, .slice y3 t.rows.length y4] 115)).trans hfr (fun x hx => Or.inl (List.mem_cons_of_mem _ hx))); have HBx := Hz ((HBx.out.still ((World.Fr.refl w2 []).alloc (.cells #[.int .i64 n, .slice y1 t.vars.length y2, .slice y3 t.rows.length y4] 115))).fr hfr HPB.out (fun x hx => Or.inl (Nat.lt_of_lt_of_le (HLT.out x hx) hl3))); have Hsl := Hz hsl; have Hfr := Hz hfr; have Hat := Hz hat; have Hlt5 := Hz hlt5; clear hsl hfr hat hlt5; obtain ⟨_, _, _, _, _, _, _, e75, _, _, ef5⟩ := ten HBx.out.box; have lp5 := lt_of_heap HBx.out.box))
        refine hK.out _ _ ?s69 (fun hHeld69 => ?_)
        case s69 => ((try dsimp only); first | exact Hmk.out _ _ HFx.out HBx.out | exact Hmk.out _ _ (HFx.out.setCell (Or.inl List.mem_cons_self) _) (HBx.out.put7 hlt6 _) | exact Hmk.out _ _ (HFx.out.alloc _) (HBx.out.still ((World.Fr.refl _ []).alloc _)))
        clear hK K
        (try simp only [Act.put, sA, sB, sC])
        clear hHeld68
        refine tH (i := 18) (v := ?v70) rfl (by kernel_rfl) (.inl ⟨by rfl, ?y70⟩) (fun _ _ _ h => h) (by assumption) ?z70
        case y70 => (intro w hSw; (try dsimp only at hSw); go_simp; (try with_reducible rfl))
        (try simp only [Act.put, sA, sB, sC])
        refine tH (i := 19) (v := ?v71) rfl (by kernel_rfl) (.inl ⟨by rfl, ?y71⟩) (fun _ _ _ h => h) (by assumption) ?z71
        case y71 => (intro w hSw; (try dsimp only at hSw); go_simp; (try with_reducible rfl))
        (try simp only [Act.put, sA, sB, sC])
        refine wpAnyH_ready (rs := [20]) (by kernel_rfl) (by simp) ?_
        refine AllReadyH.cons (o := _) rfl (fun K hK => ?_) ?_
        rotate_left
        exact AllReadyH.nil
        focus
         go_simp
         refine hK.out _ _ ?s72 (fun hHeld72 => ?_)
         case s72 => ((try dsimp only); first | exact Hmk.out _ _ HFx.out HBx.out | exact Hmk.out _ _ (HFx.out.setCell (Or.inl List.mem_cons_self) _) (HBx.out.put7 hlt6 _) | exact Hmk.out _ _ (HFx.out.alloc _) (HBx.out.still ((World.Fr.refl _ []).alloc _)))
         clear hK K
         (try simp only [Act.put, sA, sB, sC])
         clear hHeld69
         refine wpAnyH_done (by kernel_rfl) ?_ _
    rotate_left
    focus
     go_simp
     (first | (go_at_call 62; (with_reducible refine Hc.out.mono ?_); rintro e w2 ⟨u, rfl, ho⟩; obtain ⟨y1, y2, y3, y4, rfl⟩ := ho.shape; have hf2 := ((World.Fr.refl wc []).drew).trans ho.fr (by simp); have HB2 := Hz (HB1.out.still hf2); have HBx := HB2; have HFx := Hz ((undr HFx.out).trans hf2 (by simp)); have Hsz := Hz HFx.out.size; have HK2 := Hz (HK1.out.still hf2); have hks := HK2.out.sl; rw [Hl1.out] at hks; have HKS := Hz hks; have Ho := Hz ho; clear ho hks; obtain ⟨_, _, _, _, _, _, _, e7', _, _, _⟩ := ten HB2.out.box; have lp2 := lt_of_heap HB2.out.box) | (refine step_append_one _ rfl (.tmp 57) (.tmp 69) 94 rfl 115 i0 (.agg #[.int .i64 0, .slice none 0 0, .slice none 0 0]) 3 56 Tryz.underlying94 ji jz0 jz1 jz2 rfl (.slice d1 S.waits.length d2) S.waits.length (ks1.flatMap Kp.cells) (by simp [Act.eval]) (World.Sl.alloc HKS.out _) w2.heap.size 1 [.int .i64 n, .slice y1 t.vars.length y2, .slice y3 t.rows.length y4] 115 (by simp [Act.eval]) (heap_alloc_at _ _ _ rfl) rfl rfl ⟨by omega, by omega⟩ ?_; intro g3 off3 c3 w5 hsl hfr hat hlt5; have HFx := Hz ((HFx.out.alloc (.cells #[.int .i64 n, .slice y1 t.vars.length y2, .slice y3 t.rows.length y4] 115)).trans hfr (fun x hx => Or.inl (List.mem_cons_of_mem _ hx))); have HBx := Hz ((HBx.out.still ((World.Fr.refl w2 []).alloc (.cells #[.int .i64 n, .slice y1 t.vars.length y2, .slice y3 t.rows.length y4] 115))).fr hfr HPB.out (fun x hx => Or.inl (Nat.lt_of_lt_of_le (HLT.out x hx) hl3))); have Hsl := Hz hsl; have Hfr := Hz hfr; have Hat := Hz hat; have Hlt5 := Hz hlt5; clear hsl hfr hat hlt5; obtain ⟨_, _, _, _, _, _, _, e75, _, _, ef5⟩ := ten HBx.out.box; have lp5 := lt_of_heap HBx.out.box))
     (try go_wp2_with fail)
     refine hK.out _ _ ?s73 (fun hHeld73 => ?_)
     case s73 => ((try dsimp only); first | exact Hmk.out _ _ HFx.out HBx.out | exact Hmk.out _ _ (HFx.out.setCell (Or.inl List.mem_cons_self) _) (HBx.out.put7 hlt6 _) | exact Hmk.out _ _ (HFx.out.alloc _) (HBx.out.still ((World.Fr.refl _ []).alloc _)))
     clear hK K
     (try simp only [Act.put, sA, sB, sC])
     clear hHeld51
     refine tH (i := 15) (v := ?v74) rfl (by kernel_rfl) (.inl ⟨by rfl, ?y74⟩) (fun _ _ _ h => h) (by assumption) ?z74
     case y74 => (intro w hSw; (try dsimp only at hSw); go_simp; (try with_reducible rfl))
     (try simp only [Act.put, sA, sB, sC])
     refine wpAnyH_ready (rs := [4, 16]) (by kernel_rfl) (by simp) ?_
     refine AllReadyH.cons (o := _) rfl (fun K hK => ?_) ?_
     rotate_left
     refine AllReadyH.cons (o := _) rfl (fun K hK => ?_) ?_
     rotate_left
     exact AllReadyH.nil
     focus
      go_simp
      refine hK.out _ _ ?s75 (fun hHeld75 => ?_)
      case s75 => ((try dsimp only); first | exact Hmk.out _ _ HFx.out HBx.out | exact Hmk.out _ _ (HFx.out.setCell (Or.inl List.mem_cons_self) _) (HBx.out.put7 hlt6 _) | exact Hmk.out _ _ (HFx.out.alloc _) (HBx.out.still ((World.Fr.refl _ []).alloc _)))
      clear hK K
      (try simp only [Act.put, sA, sB, sC])
      clear hHeld73
      refine wpAnyH_ready (rs := [16]) (by kernel_rfl) (by simp) ?_
      refine AllReadyH.cons (o := _) rfl (fun K hK => ?_) ?_
      rotate_left
      exact AllReadyH.nil
      focus
       go_simp
       refine hK.out _ _ ?s76 (fun hHeld76 => ?_)
       case s76 => ((try dsimp only); first | exact Hmk.out _ _ HFx.out HBx.out | exact Hmk.out _ _ (HFx.out.setCell (Or.inl List.mem_cons_self) _) (HBx.out.put7 hlt6 _) | exact Hmk.out _ _ (HFx.out.alloc _) (HBx.out.still ((World.Fr.refl _ []).alloc _)))
       clear hK K
       (try simp only [Act.put, sA, sB, sC])
       clear hHeld75
       refine wpAnyH_ready (rs := [17]) (by kernel_rfl) (by simp) ?_
       refine AllReadyH.cons (o := _) rfl (fun K hK => ?_) ?_
       rotate_left
       exact AllReadyH.nil
       focus
        (first | (go_at_call 62; (with_reducible refine Hc.out.mono ?_); rintro e w2 ⟨u, rfl, ho⟩; obtain ⟨y1, y2, y3, y4, rfl⟩ := ho.shape; have hf2 := ((World.Fr.refl wc []).drew).trans ho.fr (by simp); have HB2 := Hz (HB1.out.still hf2); have HBx := HB2; have HFx := Hz ((undr HFx.out).trans hf2 (by simp)); have Hsz := Hz HFx.out.size; have HK2 := Hz (HK1.out.still hf2); have hks := HK2.out.sl; rw [Hl1.out] at hks; have HKS := Hz hks; have Ho := Hz ho; clear ho hks; obtain ⟨_, _, _, _, _, _, _, e7', _, _, _⟩ := ten HB2.out.box; have lp2 := lt_of_heap HB2.out.box) | (refine step_append_one _ rfl (.tmp 57) (.tmp 69) 94 rfl 115 i0 (.agg #[.int .i64 0, .slice none 0 0, .slice none 0 0]) 3 56 Tryz.underlying94 ji jz0 jz1 jz2 rfl (.slice d1 S.waits.length d2) S.waits.length (ks1.flatMap Kp.cells) (by simp [Act.eval]) (World.Sl.alloc HKS.out _) w2.heap.size 1 [.int .i64 n, .slice y1 t.vars.length y2, .slice y3 t.rows.length y4] 115 (by simp [Act.eval]) (heap_alloc_at _ _ _ rfl) rfl rfl ⟨by omega, by omega⟩ ?_; intro g3 off3 c3 w5 hsl hfr hat hlt5; have HFx := Hz ((HFx.out.alloc (.cells #[.int .i64 n, .slice y1 t.vars.length y2, .slice y3 t.rows.length y4] 115)).trans hfr (fun x hx => Or.inl (List.mem_cons_of_mem _ hx))); have HBx := Hz ((HBx.out.still ((World.Fr.refl w2 []).alloc (.cells #[.int .i64 n, .slice y1 t.vars.length y2, .slice y3 t.rows.length y4] 115))).fr hfr HPB.out (fun x hx => Or.inl (Nat.lt_of_lt_of_le (HLT.out x hx) hl3))); have Hsl := Hz hsl; have Hfr := Hz hfr; have Hat := Hz hat; have Hlt5 := Hz hlt5; clear hsl hfr hat hlt5; obtain ⟨_, _, _, _, _, _, _, e75, _, _, ef5⟩ := ten HBx.out.box; have lp5 := lt_of_heap HBx.out.box))
        refine hK.out _ _ ?s77 (fun hHeld77 => ?_)
        case s77 => ((try dsimp only); first | exact Hmk.out _ _ HFx.out HBx.out | exact Hmk.out _ _ (HFx.out.setCell (Or.inl List.mem_cons_self) _) (HBx.out.put7 hlt6 _) | exact Hmk.out _ _ (HFx.out.alloc _) (HBx.out.still ((World.Fr.refl _ []).alloc _)))
        clear hK K
        (try simp only [Act.put, sA, sB, sC])
        clear hHeld76
        refine tH (i := 18) (v := ?v78) rfl (by kernel_rfl) (.inl ⟨by rfl, ?y78⟩) (fun _ _ _ h => h) (by assumption) ?z78
        case y78 => (intro w hSw; (try dsimp only at hSw); go_simp; (try with_reducible rfl))
        (try simp only [Act.put, sA, sB, sC])
        refine tH (i := 19) (v := ?v79) rfl (by kernel_rfl) (.inl ⟨by rfl, ?y79⟩) (fun _ _ _ h => h) (by assumption) ?z79
        case y79 => (intro w hSw; (try dsimp only at hSw); go_simp; (try with_reducible rfl))
        (try simp only [Act.put, sA, sB, sC])
        refine wpAnyH_ready (rs := [20]) (by kernel_rfl) (by simp) ?_
        refine AllReadyH.cons (o := _) rfl (fun K hK => ?_) ?_
        rotate_left
        exact AllReadyH.nil
        focus
         go_simp
         refine hK.out _ _ ?s80 (fun hHeld80 => ?_)
         case s80 => ((try dsimp only); first | exact Hmk.out _ _ HFx.out HBx.out | exact Hmk.out _ _ (HFx.out.setCell (Or.inl List.mem_cons_self) _) (HBx.out.put7 hlt6 _) | exact Hmk.out _ _ (HFx.out.alloc _) (HBx.out.still ((World.Fr.refl _ []).alloc _)))
         clear hK K
         (try simp only [Act.put, sA, sB, sC])
         clear hHeld77
         refine wpAnyH_done (by kernel_rfl) ?_ _
     rotate_left
     focus
      go_simp
      refine hK.out _ _ ?s81 (fun hHeld81 => ?_)
      case s81 => ((try dsimp only); first | exact Hmk.out _ _ HFx.out HBx.out | exact Hmk.out _ _ (HFx.out.setCell (Or.inl List.mem_cons_self) _) (HBx.out.put7 hlt6 _) | exact Hmk.out _ _ (HFx.out.alloc _) (HBx.out.still ((World.Fr.refl _ []).alloc _)))
      clear hK K
      (try simp only [Act.put, sA, sB, sC])
      clear hHeld73
      refine wpAnyH_ready (rs := [4]) (by kernel_rfl) (by simp) ?_
      refine AllReadyH.cons (o := _) rfl (fun K hK => ?_) ?_
      rotate_left
      exact AllReadyH.nil
      focus
       go_simp
       refine hK.out _ _ ?s82 (fun hHeld82 => ?_)
       case s82 => ((try dsimp only); first | exact Hmk.out _ _ HFx.out HBx.out | exact Hmk.out _ _ (HFx.out.setCell (Or.inl List.mem_cons_self) _) (HBx.out.put7 hlt6 _) | exact Hmk.out _ _ (HFx.out.alloc _) (HBx.out.still ((World.Fr.refl _ []).alloc _)))
       clear hK K
       (try simp only [Act.put, sA, sB, sC])
       clear hHeld81
       refine wpAnyH_ready (rs := [17]) (by kernel_rfl) (by simp) ?_
       refine AllReadyH.cons (o := _) rfl (fun K hK => ?_) ?_
       rotate_left
       exact AllReadyH.nil
       focus
        (first | (go_at_call 62; (with_reducible refine Hc.out.mono ?_); rintro e w2 ⟨u, rfl, ho⟩; obtain ⟨y1, y2, y3, y4, rfl⟩ := ho.shape; have hf2 := ((World.Fr.refl wc []).drew).trans ho.fr (by simp); have HB2 := Hz (HB1.out.still hf2); have HBx := HB2; have HFx := Hz ((undr HFx.out).trans hf2 (by simp)); have Hsz := Hz HFx.out.size; have HK2 := Hz (HK1.out.still hf2); have hks := HK2.out.sl; rw [Hl1.out] at hks; have HKS := Hz hks; have Ho := Hz ho; clear ho hks; obtain ⟨_, _, _, _, _, _, _, e7', _, _, _⟩ := ten HB2.out.box; have lp2 := lt_of_heap HB2.out.box) | (refine step_append_one _ rfl (.tmp 57) (.tmp 69) 94 rfl 115 i0 (.agg #[.int .i64 0, .slice none 0 0, .slice none 0 0]) 3 56 Tryz.underlying94 ji jz0 jz1 jz2 rfl (.slice d1 S.waits.length d2) S.waits.length (ks1.flatMap Kp.cells) (by simp [Act.eval]) (World.Sl.alloc HKS.out _) w2.heap.size 1 [.int .i64 n, .slice y1 t.vars.length y2, .slice y3 t.rows.length y4] 115 (by simp [Act.eval]) (heap_alloc_at _ _ _ rfl) rfl rfl ⟨by omega, by omega⟩ ?_; intro g3 off3 c3 w5 hsl hfr hat hlt5; have HFx := Hz ((HFx.out.alloc (.cells #[.int .i64 n, .slice y1 t.vars.length y2, .slice y3 t.rows.length y4] 115)).trans hfr (fun x hx => Or.inl (List.mem_cons_of_mem _ hx))); have HBx := Hz ((HBx.out.still ((World.Fr.refl w2 []).alloc (.cells #[.int .i64 n, .slice y1 t.vars.length y2, .slice y3 t.rows.length y4] 115))).fr hfr HPB.out (fun x hx => Or.inl (Nat.lt_of_lt_of_le (HLT.out x hx) hl3))); have Hsl := Hz hsl; have Hfr := Hz hfr; have Hat := Hz hat; have Hlt5 := Hz hlt5; clear hsl hfr hat hlt5; obtain ⟨_, _, _, _, _, _, _, e75, _, _, ef5⟩ := ten HBx.out.box; have lp5 := lt_of_heap HBx.out.box))
        refine hK.out _ _ ?s83 (fun hHeld83 => ?_)
        case s83 => ((try dsimp only); first | exact Hmk.out _ _ HFx.out HBx.out | exact Hmk.out _ _ (HFx.out.setCell (Or.inl List.mem_cons_self) _) (HBx.out.put7 hlt6 _) | exact Hmk.out _ _ (HFx.out.alloc _) (HBx.out.still ((World.Fr.refl _ []).alloc _)))
        clear hK K
        (try simp only [Act.put, sA, sB, sC])
        clear hHeld82
        refine tH (i := 18) (v := ?v84) rfl (by kernel_rfl) (.inl ⟨by rfl, ?y84⟩) (fun _ _ _ h => h) (by assumption) ?z84
        case y84 => (intro w hSw; (try dsimp only at hSw); go_simp; (try with_reducible rfl))
        (try simp only [Act.put, sA, sB, sC])
        refine tH (i := 19) (v := ?v85) rfl (by kernel_rfl) (.inl ⟨by rfl, ?y85⟩) (fun _ _ _ h => h) (by assumption) ?z85
        case y85 => (intro w hSw; (try dsimp only at hSw); go_simp; (try with_reducible rfl))
        (try simp only [Act.put, sA, sB, sC])
        refine wpAnyH_ready (rs := [20]) (by kernel_rfl) (by simp) ?_
        refine AllReadyH.cons (o := _) rfl (fun K hK => ?_) ?_
        rotate_left
        exact AllReadyH.nil
        focus
         go_simp
         refine hK.out _ _ ?s86 (fun hHeld86 => ?_)
         case s86 => ((try dsimp only); first | exact Hmk.out _ _ HFx.out HBx.out | exact Hmk.out _ _ (HFx.out.setCell (Or.inl List.mem_cons_self) _) (HBx.out.put7 hlt6 _) | exact Hmk.out _ _ (HFx.out.alloc _) (HBx.out.still ((World.Fr.refl _ []).alloc _)))
         clear hK K
         (try simp only [Act.put, sA, sB, sC])
         clear hHeld83
         refine wpAnyH_done (by kernel_rfl) ?_ _
     rotate_left
    rotate_left
    rotate_left
    all_goals (refine NoPanic.normal ?_)
    all_goals
     have hne3 : g3 ≠ p := by
      rcases Hat.out with h | h
      ·exact fun e => HPB.out (e ▸ h)
      ·have := Hsz.out
       simp at h
       omega
     have hset := (World.Fr.refl w5 [p]).setCell (a := ⟨p, 7, none⟩) (.inl (by simp)) (.slice (some ⟨g3, off3, none⟩) (S.waits.length + 1) c3)
     have hop : Odd w5 [p] := Odd.one HBx.out.box (by decide)
     have hob := Odd.sl (World.Sl.alloc HKS.out (.cells #[.int .i64 n, .slice y1 t.vars.length y2, .slice y3 t.rows.length y4] 115))
     have hal := (World.Fr.refl w2 []).alloc (.cells #[.int .i64 n, .slice y1 t.vars.length y2, .slice y3 t.rows.length y4] 115)
     have htabs : ∀ k, k ∈ ks1 ++ [⟨n, .slice y1 t.vars.length y2, .slice y3 t.rows.length y4, t⟩] -> TabIn Q (w5.setCell ⟨p, 7, none⟩ (.slice (some ⟨g3, off3, none⟩) (S.waits.length + 1) c3)) (.agg #[k.a, k.b]) k.t := fun k hk => by
      rcases List.mem_append.1 hk with hk | hk
      ·exact (((HK2.out.tab k hk).still hal).fr Hfr.out hob).fr hset hop
      ·simp at hk
       subst hk
       exact (((Ho.out.inq (HQf.out.fr HF1.out.drew)).still hal).fr Hfr.out hob).fr hset hop
     have hfin : Hid (∃ ks2 v', KeptAt Q (w5.setCell ⟨p, 7, none⟩ (.slice (some ⟨g3, off3, none⟩) (S.waits.length + 1) c3)) v' ks2 /\ ks2.map Kp.tt = heldAll cf S a ++ [(n, t)] /\ SBox w (w5.setCell ⟨p, 7, none⟩ (.slice (some ⟨g3, off3, none⟩) (S.waits.length + 1) c3)) p p3 S n (.slice a1 S.left.length a2) (.slice b1 S.right.length b2) v' /\ (∀ k, k ∈ v'.blk -> k ∈ (Value.slice d1 S.waits.length d2).blk ∨ w.heap.size <= k) /\ w.Fr (w5.setCell ⟨p, 7, none⟩ (.slice (some ⟨g3, off3, none⟩) (S.waits.length + 1) c3)) (p :: (Value.slice d1 S.waits.length d2).blk)) := Hz ⟨ks1 ++ [⟨n, .slice y1 t.vars.length y2, .slice y3 t.rows.length y4, t⟩], .slice (some ⟨g3, off3, none⟩) (S.waits.length + 1) c3, ⟨by
       have h1 := Hsl.out.fr hset (by simp [Value.blk]; exact hne3)
       rw [List.length_append, Hl1.out, List.flatMap_append]
       exact h1, htabs⟩, by rw [List.map_append, HE1.out]; rfl, HBx.out.put7 hlt6 _, by
       intro k hk
       simp [Value.blk] at hk
       subst hk
       rcases Hat.out with h | h
       ·exact .inl h
       ·right
        have := Hsz.out
        simp at h
        omega, HFx.out.setCell (Or.inl List.mem_cons_self) _⟩
     clear hne3 hset hop hob hal htabs
     go_wp2_with fail
     go_meet
     case rel => exact ⟨rfl, hfin⟩
   ·have hinf : (Tryz.prog.info? 115).map (fun i => (i.zero, i.size, i.bytes)) = some (some (.agg #[.int .i64 0, .slice none 0 0, .slice none 0 0]), 3, 56) := by kernel_rfl
    obtain ⟨i0, ji, jz0, jz1, jz2⟩ := info_parts hinf
    obtain ⟨gt, ofg, ct, w1, w2', w3, w4, hvt, hgt, t1, t2, _⟩ := (HT.out w (World.Fr.refl w _)).at H0.out
    obtain ⟨gt', ofg', ct', w1', w2'', w3', w4', hvt', hgt', t1', t2', trd⟩ := (HT.out wc (HF1.out.mono (fun x hx => List.mem_cons_of_mem _ hx))).at H0.out
    cases hvt
    cases hvt'
    have hgb : gt ∉ p :: (Value.slice d1 S.waits.length d2).blk := fun hm => HDis.out gt ofg _ _ rfl hm
    have HGb := Hz hgb
    have et1 := Option.some.inj ((cellFr HF1.out t1 (fun hm => hgb (List.mem_cons_of_mem _ hm))).symm.trans t1')
    have et2 := Option.some.inj ((cellFr HF1.out t2 (fun hm => hgb (List.mem_cons_of_mem _ hm))).symm.trans t2')
    injection et1 with et1 _ et1'
    injection et2 with et2 _ et2'
    subst et1 et1' et2 et2'
    clear hgb t1' t2' hgt'
    have hlen2 : ts.length = 2 := by have := HLen.out; omega
    rw [hlen2] at t1 t2
    simp only [Nat.sub_self, Nat.zero_mul, Nat.add_zero, Nat.one_mul, Nat.reduceSub] at t1 t2
    have HT1 := Hz t1; have HT2 := Hz t2
    have Hlen2 := Hz hlen2
    have htlI : (1 : Int) < (ts.length : Int) := by omega
    have htlN : 1 < ts.length := by omega
    have hwp : IntKind.i64.wrap ((2 : Int) - 1) = 1 := by decide
    have hwq : IntKind.i64.wrap (1 : Int) = 1 := by decide
    have hne0 : ts.length ≠ 0 := by omega
    have hle0 : ¬ (ts.length <= 1) := by omega
    have hlI0 : ¬ ((ts.length : Int) <= 1) := by omega
    clear hlen2
    have hpb : p ∉ (Value.slice d1 S.waits.length d2).blk := fun hm => by
     rcases H.out.kept.sl.2 with ⟨he, _⟩ | ⟨g', o', c', cur, he, hg', _⟩
     ·rw [he] at hm; simp [Value.blk] at hm
     ·rw [he] at hm
      simp [Value.blk] at hm
      subst hm
      have := hg'.symm.trans H.out.box
      injection this with this
      injection this with _ h2
      exact absurd h2 (by decide)
    have HPB := Hz hpb
    have HLT := Hz (fun x (hx : x ∈ (Value.slice d1 S.waits.length d2).blk) => H.out.kept.sl.lt x hx)
    clear hpb
    have hdr : wc.Fr wc.drew [] := (World.Fr.refl wc []).drew
    have Hc := Hz (copied62 HK.out (trd.still hdr) (HG.out.fits (by have := HM.out; omega)) HG.out.check)
    clear trd hdr
    have hmk : ∀ (W : World) (vx : Value), w.Fr W (p :: (Value.slice d1 S.waits.length d2).blk) -> SBox w W p p3 S n (.slice a1 S.left.length a2) (.slice b1 S.right.length b2) vx -> W.cell? ⟨p3, 0, none⟩ = some (.pointer (some ⟨p, 0, none⟩)) /\ W.cell? ⟨p3 + 1, 0, none⟩ = some (.int .i64 n) /\ W.cell? ⟨p, 9, none⟩ = some (.int .i64 2) /\ W.cell? ⟨gt, ofg + 2, none⟩ = some (.slice w1 t.vars.length w2') /\ W.cell? ⟨gt, ofg + 2 + 1, none⟩ = some (.slice w3 t.rows.length w4) /\ Hid (w.Fr W (p :: (Value.slice d1 S.waits.length d2).blk)) /\ Hid (∃ vx, SBox w W p p3 S n (.slice a1 S.left.length a2) (.slice b1 S.right.length b2) vx) := fun W vx hf hb => by
     obtain ⟨c0, _⟩ := uno hb.b3
     obtain ⟨c4, _⟩ := uno hb.b4
     obtain ⟨_, _, _, _, _, _, _, _, _, c9, _⟩ := ten hb.box
     rw [hp] at c9
     exact ⟨c0, c4, c9, cellFr hf HT1.out HGb.out, cellFr hf HT2.out HGb.out, Hz hf, Hz ⟨_, hb⟩⟩
    have Hmk := Hz hmk
    have HFx := Hz ((HF1.out.mono (L' := p :: (Value.slice d1 S.waits.length d2).blk) (fun x hx => List.mem_cons_of_mem _ hx)).drew)
    have HBx := Hz (HB1.out.still ((World.Fr.refl wc []).drew))
    obtain ⟨x0, y0, e9, t1, t2, _, _⟩ := Hmk.out wc _ (undr HFx.out) HB1.out
    obtain ⟨_, _, _, _, _, _, _, e7, _, _, _⟩ := ten HB1.out.box
    have lp := lt_of_heap HB1.out.box
    clear hmk
    refine wp_region_noPanic ?_
    refine wp_region_held_drew (S := (fun w' => w'.cell? ⟨p3, 0, none⟩ = some (.pointer (some ⟨p, 0, none⟩)) /\ w'.cell? ⟨p3 + 1, 0, none⟩ = some (.int .i64 n) /\ w'.cell? ⟨p, 9, none⟩ = some (.int .i64 2) /\ w'.cell? ⟨gt, ofg + 2, none⟩ = some (.slice w1 t.vars.length w2') /\ w'.cell? ⟨gt, ofg + 2 + 1, none⟩ = some (.slice w3 t.rows.length w4) /\ Hid (w.Fr w' (p :: (Value.slice d1 S.waits.length d2).blk)) /\ Hid (∃ vx, SBox w w' p p3 S n (.slice a1 S.left.length a2) (.slice b1 S.right.length b2) vx))) (by kernel_rfl) ?s87 (fun hHeld87 => ?_)
    case s87 => ((try dsimp only); first | exact Hmk.out _ _ HFx.out HBx.out | exact Hmk.out _ _ (HFx.out.setCell (Or.inl List.mem_cons_self) _) (HBx.out.put7 hlt6 _) | exact Hmk.out _ _ (HFx.out.alloc _) (HBx.out.still ((World.Fr.refl _ []).alloc _)))
    refine tH (i := 0) (v := ?v88) rfl (by kernel_rfl) (.inl ⟨by rfl, ?y88⟩) (fun _ _ _ h => h) (by assumption) ?z88
    case y88 => (intro w hSw; (try dsimp only at hSw); go_simp; (try with_reducible rfl))
    (try simp only [Act.put, sA, sB, sC])
    refine tH (i := 1) (v := ?v89) rfl (by kernel_rfl) (.inl ⟨by rfl, ?y89⟩) (fun _ _ _ h => h) (by assumption) ?z89
    case y89 => (intro w hSw; (try dsimp only at hSw); go_simp; (try with_reducible rfl))
    (try simp only [Act.put, sA, sB, sC])
    refine tH (i := 2) (v := ?v90) rfl (by kernel_rfl) (.inl ⟨by rfl, ?y90⟩) (fun _ _ _ h => h) (by assumption) ?z90
    case y90 => (intro w hSw; (try dsimp only at hSw); go_simp; (try with_reducible rfl))
    (try simp only [Act.put, sA, sB, sC])
    refine tH (i := 3) (v := ?v91) rfl (by kernel_rfl) (.inl ⟨by rfl, ?y91⟩) (fun _ _ _ h => h) (by assumption) ?z91
    case y91 => (intro w hSw; (try dsimp only at hSw); go_simp; (try with_reducible rfl))
    (try simp only [Act.put, sA, sB, sC])
    refine tH (i := 5) (v := ?v92) rfl (by kernel_rfl) (.inl ⟨by rfl, ?y92⟩) (fun _ _ _ h => h) (by assumption) ?z92
    case y92 => (intro w hSw; (try dsimp only at hSw); go_simp; (try with_reducible rfl))
    (try simp only [Act.put, sA, sB, sC])
    refine tH (i := 6) (v := ?v93) rfl (by kernel_rfl) (.inl ⟨by rfl, ?y93⟩) (fun _ _ _ h => h) (by assumption) ?z93
    case y93 => (intro w hSw; (try dsimp only at hSw); go_simp; (try with_reducible rfl))
    (try simp only [Act.put, sA, sB, sC])
    refine tH (i := 7) (v := ?v94) rfl (by kernel_rfl) (.inl ⟨by rfl, ?y94⟩) (fun _ _ _ h => h) (by assumption) ?z94
    case y94 => (intro w hSw; (try dsimp only at hSw); go_simp; (try with_reducible rfl))
    (try simp only [Act.put, sA, sB, sC])
    refine tH (i := 8) (v := ?v95) rfl (by kernel_rfl) (.inl ⟨by rfl, ?y95⟩) (fun _ _ _ h => h) (by assumption) ?z95
    case y95 => (intro w hSw; (try dsimp only at hSw); go_simp; (try with_reducible rfl))
    (try simp only [Act.put, sA, sB, sC])
    refine tH (i := 9) (v := ?v96) rfl (by kernel_rfl) (.inl ⟨by rfl, ?y96⟩) (fun _ _ _ h => h) (by assumption) ?z96
    case y96 => (intro w hSw; (try dsimp only at hSw); go_simp; (try with_reducible rfl))
    (try simp only [Act.put, sA, sB, sC])
    refine tH (i := 10) (v := ?v97) rfl (by kernel_rfl) (.inl ⟨by rfl, ?y97⟩) (fun _ _ _ h => h) (by assumption) ?z97
    case y97 => (intro w hSw; (try dsimp only at hSw); go_simp; (try with_reducible rfl))
    (try simp only [Act.put, sA, sB, sC])
    refine tH (i := 11) (v := ?v98) rfl (by kernel_rfl) (.inl ⟨by rfl, ?y98⟩) (fun _ _ _ h => h) (by assumption) ?z98
    case y98 => (intro w hSw; (try dsimp only at hSw); go_simp; (try with_reducible rfl))
    (try simp only [Act.put, sA, sB, sC])
    refine tH (i := 12) (v := ?v99) rfl (by kernel_rfl) (.inl ⟨by rfl, ?y99⟩) (fun _ _ _ h => h) (by assumption) ?z99
    case y99 => (intro w hSw; (try dsimp only at hSw); go_simp; (try with_reducible rfl))
    (try simp only [Act.put, sA, sB, sC])
    refine tH (i := 13) (v := ?v100) rfl (by kernel_rfl) (.inl ⟨by rfl, ?y100⟩) (fun _ _ _ h => h) (by assumption) ?z100
    case y100 => (intro w hSw; (try dsimp only at hSw); go_simp; (try with_reducible rfl))
    (try simp only [Act.put, sA, sB, sC])
    refine wpAnyH_ready (rs := [4, 14]) (by kernel_rfl) (by simp) ?_
    refine AllReadyH.cons (o := _) rfl (fun K hK => ?_) ?_
    rotate_left
    refine AllReadyH.cons (o := _) rfl (fun K hK => ?_) ?_
    rotate_left
    exact AllReadyH.nil
    focus
     go_simp
     refine hK.out _ _ ?s101 (fun hHeld101 => ?_)
     case s101 => ((try dsimp only); first | exact Hmk.out _ _ HFx.out HBx.out | exact Hmk.out _ _ (HFx.out.setCell (Or.inl List.mem_cons_self) _) (HBx.out.put7 hlt6 _) | exact Hmk.out _ _ (HFx.out.alloc _) (HBx.out.still ((World.Fr.refl _ []).alloc _)))
     clear hK K
     (try simp only [Act.put, sA, sB, sC])
     clear hHeld87
     refine wpAnyH_ready (rs := [14]) (by kernel_rfl) (by simp) ?_
     refine AllReadyH.cons (o := _) rfl (fun K hK => ?_) ?_
     rotate_left
     exact AllReadyH.nil
     focus
      go_simp
      (first | (go_at_call 62; (with_reducible refine Hc.out.mono ?_); rintro e w2 ⟨u, rfl, ho⟩; obtain ⟨y1, y2, y3, y4, rfl⟩ := ho.shape; have hf2 := ((World.Fr.refl wc []).drew).trans ho.fr (by simp); have HB2 := Hz (HB1.out.still hf2); have HBx := HB2; have HFx := Hz ((undr HFx.out).trans hf2 (by simp)); have Hsz := Hz HFx.out.size; have HK2 := Hz (HK1.out.still hf2); have hks := HK2.out.sl; rw [Hl1.out] at hks; have HKS := Hz hks; have Ho := Hz ho; clear ho hks; obtain ⟨_, _, _, _, _, _, _, e7', _, _, _⟩ := ten HB2.out.box; have lp2 := lt_of_heap HB2.out.box) | (refine step_append_one _ rfl (.tmp 57) (.tmp 69) 94 rfl 115 i0 (.agg #[.int .i64 0, .slice none 0 0, .slice none 0 0]) 3 56 Tryz.underlying94 ji jz0 jz1 jz2 rfl (.slice d1 S.waits.length d2) S.waits.length (ks1.flatMap Kp.cells) (by simp [Act.eval]) (World.Sl.alloc HKS.out _) w2.heap.size 1 [.int .i64 n, .slice y1 t.vars.length y2, .slice y3 t.rows.length y4] 115 (by simp [Act.eval]) (heap_alloc_at _ _ _ rfl) rfl rfl ⟨by omega, by omega⟩ ?_; intro g3 off3 c3 w5 hsl hfr hat hlt5; have HFx := Hz ((HFx.out.alloc (.cells #[.int .i64 n, .slice y1 t.vars.length y2, .slice y3 t.rows.length y4] 115)).trans hfr (fun x hx => Or.inl (List.mem_cons_of_mem _ hx))); have HBx := Hz ((HBx.out.still ((World.Fr.refl w2 []).alloc (.cells #[.int .i64 n, .slice y1 t.vars.length y2, .slice y3 t.rows.length y4] 115))).fr hfr HPB.out (fun x hx => Or.inl (Nat.lt_of_lt_of_le (HLT.out x hx) hl3))); have Hsl := Hz hsl; have Hfr := Hz hfr; have Hat := Hz hat; have Hlt5 := Hz hlt5; clear hsl hfr hat hlt5; obtain ⟨_, _, _, _, _, _, _, e75, _, _, ef5⟩ := ten HBx.out.box; have lp5 := lt_of_heap HBx.out.box))
      (try go_wp2_with fail)
      refine hK.out _ _ ?s102 (fun hHeld102 => ?_)
      case s102 => ((try dsimp only); first | exact Hmk.out _ _ HFx.out HBx.out | exact Hmk.out _ _ (HFx.out.setCell (Or.inl List.mem_cons_self) _) (HBx.out.put7 hlt6 _) | exact Hmk.out _ _ (HFx.out.alloc _) (HBx.out.still ((World.Fr.refl _ []).alloc _)))
      clear hK K
      (try simp only [Act.put, sA, sB, sC])
      clear hHeld101
      refine tH (i := 15) (v := ?v103) rfl (by kernel_rfl) (.inl ⟨by rfl, ?y103⟩) (fun _ _ _ h => h) (by assumption) ?z103
      case y103 => (intro w hSw; (try dsimp only at hSw); go_simp; (try with_reducible rfl))
      (try simp only [Act.put, sA, sB, sC])
      refine wpAnyH_ready (rs := [16]) (by kernel_rfl) (by simp) ?_
      refine AllReadyH.cons (o := _) rfl (fun K hK => ?_) ?_
      rotate_left
      exact AllReadyH.nil
      focus
       go_simp
       refine hK.out _ _ ?s104 (fun hHeld104 => ?_)
       case s104 => ((try dsimp only); first | exact Hmk.out _ _ HFx.out HBx.out | exact Hmk.out _ _ (HFx.out.setCell (Or.inl List.mem_cons_self) _) (HBx.out.put7 hlt6 _) | exact Hmk.out _ _ (HFx.out.alloc _) (HBx.out.still ((World.Fr.refl _ []).alloc _)))
       clear hK K
       (try simp only [Act.put, sA, sB, sC])
       clear hHeld102
       refine wpAnyH_ready (rs := [17]) (by kernel_rfl) (by simp) ?_
       refine AllReadyH.cons (o := _) rfl (fun K hK => ?_) ?_
       rotate_left
       exact AllReadyH.nil
       focus
        (first | (go_at_call 62; (with_reducible refine Hc.out.mono ?_); rintro e w2 ⟨u, rfl, ho⟩; obtain ⟨y1, y2, y3, y4, rfl⟩ := ho.shape; have hf2 := ((World.Fr.refl wc []).drew).trans ho.fr (by simp); have HB2 := Hz (HB1.out.still hf2); have HBx := HB2; have HFx := Hz ((undr HFx.out).trans hf2 (by simp)); have Hsz := Hz HFx.out.size; have HK2 := Hz (HK1.out.still hf2); have hks := HK2.out.sl; rw [Hl1.out] at hks; have HKS := Hz hks; have Ho := Hz ho; clear ho hks; obtain ⟨_, _, _, _, _, _, _, e7', _, _, _⟩ := ten HB2.out.box; have lp2 := lt_of_heap HB2.out.box) | (refine step_append_one _ rfl (.tmp 57) (.tmp 69) 94 rfl 115 i0 (.agg #[.int .i64 0, .slice none 0 0, .slice none 0 0]) 3 56 Tryz.underlying94 ji jz0 jz1 jz2 rfl (.slice d1 S.waits.length d2) S.waits.length (ks1.flatMap Kp.cells) (by simp [Act.eval]) (World.Sl.alloc HKS.out _) w2.heap.size 1 [.int .i64 n, .slice y1 t.vars.length y2, .slice y3 t.rows.length y4] 115 (by simp [Act.eval]) (heap_alloc_at _ _ _ rfl) rfl rfl ⟨by omega, by omega⟩ ?_; intro g3 off3 c3 w5 hsl hfr hat hlt5; have HFx := Hz ((HFx.out.alloc (.cells #[.int .i64 n, .slice y1 t.vars.length y2, .slice y3 t.rows.length y4] 115)).trans hfr (fun x hx => Or.inl (List.mem_cons_of_mem _ hx))); have HBx := Hz ((HBx.out.still ((World.Fr.refl w2 []).alloc (.cells #[.int .i64 n, .slice y1 t.vars.length y2, .slice y3 t.rows.length y4] 115))).fr hfr HPB.out (fun x hx => Or.inl (Nat.lt_of_lt_of_le (HLT.out x hx) hl3))); have Hsl := Hz hsl; have Hfr := Hz hfr; have Hat := Hz hat; have Hlt5 := Hz hlt5; clear hsl hfr hat hlt5; obtain ⟨_, _, _, _, _, _, _, e75, _, _, ef5⟩ := ten HBx.out.box; have lp5 := lt_of_heap HBx.out.box))
        refine hK.out _ _ ?s105 (fun hHeld105 => ?_)
        case s105 => ((try dsimp only); first | exact Hmk.out _ _ HFx.out HBx.out | exact Hmk.out _ _ (HFx.out.setCell (Or.inl List.mem_cons_self) _) (HBx.out.put7 hlt6 _) | exact Hmk.out _ _ (HFx.out.alloc _) (HBx.out.still ((World.Fr.refl _ []).alloc _)))
        clear hK K
        (try simp only [Act.put, sA, sB, sC])
        clear hHeld104
        refine tH (i := 18) (v := ?v106) rfl (by kernel_rfl) (.inl ⟨by rfl, ?y106⟩) (fun _ _ _ h => h) (by assumption) ?z106
        case y106 => (intro w hSw; (try dsimp only at hSw); go_simp; (try with_reducible rfl))
        (try simp only [Act.put, sA, sB, sC])
        refine tH (i := 19) (v := ?v107) rfl (by kernel_rfl) (.inl ⟨by rfl, ?y107⟩) (fun _ _ _ h => h) (by assumption) ?z107
        case y107 => (intro w hSw; (try dsimp only at hSw); go_simp; (try with_reducible rfl))
        (try simp only [Act.put, sA, sB, sC])
        refine wpAnyH_ready (rs := [20]) (by kernel_rfl) (by simp) ?_
        refine AllReadyH.cons (o := _) rfl (fun K hK => ?_) ?_
        rotate_left
        exact AllReadyH.nil
        focus
         go_simp
         refine hK.out _ _ ?s108 (fun hHeld108 => ?_)
         case s108 => ((try dsimp only); first | exact Hmk.out _ _ HFx.out HBx.out | exact Hmk.out _ _ (HFx.out.setCell (Or.inl List.mem_cons_self) _) (HBx.out.put7 hlt6 _) | exact Hmk.out _ _ (HFx.out.alloc _) (HBx.out.still ((World.Fr.refl _ []).alloc _)))
         clear hK K
         (try simp only [Act.put, sA, sB, sC])
         clear hHeld105
         refine wpAnyH_done (by kernel_rfl) ?_ _
    rotate_left
    focus
     go_simp
     (first | (go_at_call 62; (with_reducible refine Hc.out.mono ?_); rintro e w2 ⟨u, rfl, ho⟩; obtain ⟨y1, y2, y3, y4, rfl⟩ := ho.shape; have hf2 := ((World.Fr.refl wc []).drew).trans ho.fr (by simp); have HB2 := Hz (HB1.out.still hf2); have HBx := HB2; have HFx := Hz ((undr HFx.out).trans hf2 (by simp)); have Hsz := Hz HFx.out.size; have HK2 := Hz (HK1.out.still hf2); have hks := HK2.out.sl; rw [Hl1.out] at hks; have HKS := Hz hks; have Ho := Hz ho; clear ho hks; obtain ⟨_, _, _, _, _, _, _, e7', _, _, _⟩ := ten HB2.out.box; have lp2 := lt_of_heap HB2.out.box) | (refine step_append_one _ rfl (.tmp 57) (.tmp 69) 94 rfl 115 i0 (.agg #[.int .i64 0, .slice none 0 0, .slice none 0 0]) 3 56 Tryz.underlying94 ji jz0 jz1 jz2 rfl (.slice d1 S.waits.length d2) S.waits.length (ks1.flatMap Kp.cells) (by simp [Act.eval]) (World.Sl.alloc HKS.out _) w2.heap.size 1 [.int .i64 n, .slice y1 t.vars.length y2, .slice y3 t.rows.length y4] 115 (by simp [Act.eval]) (heap_alloc_at _ _ _ rfl) rfl rfl ⟨by omega, by omega⟩ ?_; intro g3 off3 c3 w5 hsl hfr hat hlt5; have HFx := Hz ((HFx.out.alloc (.cells #[.int .i64 n, .slice y1 t.vars.length y2, .slice y3 t.rows.length y4] 115)).trans hfr (fun x hx => Or.inl (List.mem_cons_of_mem _ hx))); have HBx := Hz ((HBx.out.still ((World.Fr.refl w2 []).alloc (.cells #[.int .i64 n, .slice y1 t.vars.length y2, .slice y3 t.rows.length y4] 115))).fr hfr HPB.out (fun x hx => Or.inl (Nat.lt_of_lt_of_le (HLT.out x hx) hl3))); have Hsl := Hz hsl; have Hfr := Hz hfr; have Hat := Hz hat; have Hlt5 := Hz hlt5; clear hsl hfr hat hlt5; obtain ⟨_, _, _, _, _, _, _, e75, _, _, ef5⟩ := ten HBx.out.box; have lp5 := lt_of_heap HBx.out.box))
     (try go_wp2_with fail)
     refine hK.out _ _ ?s109 (fun hHeld109 => ?_)
     case s109 => ((try dsimp only); first | exact Hmk.out _ _ HFx.out HBx.out | exact Hmk.out _ _ (HFx.out.setCell (Or.inl List.mem_cons_self) _) (HBx.out.put7 hlt6 _) | exact Hmk.out _ _ (HFx.out.alloc _) (HBx.out.still ((World.Fr.refl _ []).alloc _)))
     clear hK K
     (try simp only [Act.put, sA, sB, sC])
     clear hHeld87
     refine tH (i := 15) (v := ?v110) rfl (by kernel_rfl) (.inl ⟨by rfl, ?y110⟩) (fun _ _ _ h => h) (by assumption) ?z110
     case y110 => (intro w hSw; (try dsimp only at hSw); go_simp; (try with_reducible rfl))
     (try simp only [Act.put, sA, sB, sC])
     refine wpAnyH_ready (rs := [4, 16]) (by kernel_rfl) (by simp) ?_
     refine AllReadyH.cons (o := _) rfl (fun K hK => ?_) ?_
     rotate_left
     refine AllReadyH.cons (o := _) rfl (fun K hK => ?_) ?_
     rotate_left
     exact AllReadyH.nil
     focus
      go_simp
      refine hK.out _ _ ?s111 (fun hHeld111 => ?_)
      case s111 => ((try dsimp only); first | exact Hmk.out _ _ HFx.out HBx.out | exact Hmk.out _ _ (HFx.out.setCell (Or.inl List.mem_cons_self) _) (HBx.out.put7 hlt6 _) | exact Hmk.out _ _ (HFx.out.alloc _) (HBx.out.still ((World.Fr.refl _ []).alloc _)))
      clear hK K
      (try simp only [Act.put, sA, sB, sC])
      clear hHeld109
      refine wpAnyH_ready (rs := [16]) (by kernel_rfl) (by simp) ?_
      refine AllReadyH.cons (o := _) rfl (fun K hK => ?_) ?_
      rotate_left
      exact AllReadyH.nil
      focus
       go_simp
       refine hK.out _ _ ?s112 (fun hHeld112 => ?_)
       case s112 => ((try dsimp only); first | exact Hmk.out _ _ HFx.out HBx.out | exact Hmk.out _ _ (HFx.out.setCell (Or.inl List.mem_cons_self) _) (HBx.out.put7 hlt6 _) | exact Hmk.out _ _ (HFx.out.alloc _) (HBx.out.still ((World.Fr.refl _ []).alloc _)))
       clear hK K
       (try simp only [Act.put, sA, sB, sC])
       clear hHeld111
       refine wpAnyH_ready (rs := [17]) (by kernel_rfl) (by simp) ?_
       refine AllReadyH.cons (o := _) rfl (fun K hK => ?_) ?_
       rotate_left
       exact AllReadyH.nil
       focus
        (first | (go_at_call 62; (with_reducible refine Hc.out.mono ?_); rintro e w2 ⟨u, rfl, ho⟩; obtain ⟨y1, y2, y3, y4, rfl⟩ := ho.shape; have hf2 := ((World.Fr.refl wc []).drew).trans ho.fr (by simp); have HB2 := Hz (HB1.out.still hf2); have HBx := HB2; have HFx := Hz ((undr HFx.out).trans hf2 (by simp)); have Hsz := Hz HFx.out.size; have HK2 := Hz (HK1.out.still hf2); have hks := HK2.out.sl; rw [Hl1.out] at hks; have HKS := Hz hks; have Ho := Hz ho; clear ho hks; obtain ⟨_, _, _, _, _, _, _, e7', _, _, _⟩ := ten HB2.out.box; have lp2 := lt_of_heap HB2.out.box) | (refine step_append_one _ rfl (.tmp 57) (.tmp 69) 94 rfl 115 i0 (.agg #[.int .i64 0, .slice none 0 0, .slice none 0 0]) 3 56 Tryz.underlying94 ji jz0 jz1 jz2 rfl (.slice d1 S.waits.length d2) S.waits.length (ks1.flatMap Kp.cells) (by simp [Act.eval]) (World.Sl.alloc HKS.out _) w2.heap.size 1 [.int .i64 n, .slice y1 t.vars.length y2, .slice y3 t.rows.length y4] 115 (by simp [Act.eval]) (heap_alloc_at _ _ _ rfl) rfl rfl ⟨by omega, by omega⟩ ?_; intro g3 off3 c3 w5 hsl hfr hat hlt5; have HFx := Hz ((HFx.out.alloc (.cells #[.int .i64 n, .slice y1 t.vars.length y2, .slice y3 t.rows.length y4] 115)).trans hfr (fun x hx => Or.inl (List.mem_cons_of_mem _ hx))); have HBx := Hz ((HBx.out.still ((World.Fr.refl w2 []).alloc (.cells #[.int .i64 n, .slice y1 t.vars.length y2, .slice y3 t.rows.length y4] 115))).fr hfr HPB.out (fun x hx => Or.inl (Nat.lt_of_lt_of_le (HLT.out x hx) hl3))); have Hsl := Hz hsl; have Hfr := Hz hfr; have Hat := Hz hat; have Hlt5 := Hz hlt5; clear hsl hfr hat hlt5; obtain ⟨_, _, _, _, _, _, _, e75, _, _, ef5⟩ := ten HBx.out.box; have lp5 := lt_of_heap HBx.out.box))
        refine hK.out _ _ ?s113 (fun hHeld113 => ?_)
        case s113 => ((try dsimp only); first | exact Hmk.out _ _ HFx.out HBx.out | exact Hmk.out _ _ (HFx.out.setCell (Or.inl List.mem_cons_self) _) (HBx.out.put7 hlt6 _) | exact Hmk.out _ _ (HFx.out.alloc _) (HBx.out.still ((World.Fr.refl _ []).alloc _)))
        clear hK K
        (try simp only [Act.put, sA, sB, sC])
        clear hHeld112
        refine tH (i := 18) (v := ?v114) rfl (by kernel_rfl) (.inl ⟨by rfl, ?y114⟩) (fun _ _ _ h => h) (by assumption) ?z114
        case y114 => (intro w hSw; (try dsimp only at hSw); go_simp; (try with_reducible rfl))
        (try simp only [Act.put, sA, sB, sC])
        refine tH (i := 19) (v := ?v115) rfl (by kernel_rfl) (.inl ⟨by rfl, ?y115⟩) (fun _ _ _ h => h) (by assumption) ?z115
        case y115 => (intro w hSw; (try dsimp only at hSw); go_simp; (try with_reducible rfl))
        (try simp only [Act.put, sA, sB, sC])
        refine wpAnyH_ready (rs := [20]) (by kernel_rfl) (by simp) ?_
        refine AllReadyH.cons (o := _) rfl (fun K hK => ?_) ?_
        rotate_left
        exact AllReadyH.nil
        focus
         go_simp
         refine hK.out _ _ ?s116 (fun hHeld116 => ?_)
         case s116 => ((try dsimp only); first | exact Hmk.out _ _ HFx.out HBx.out | exact Hmk.out _ _ (HFx.out.setCell (Or.inl List.mem_cons_self) _) (HBx.out.put7 hlt6 _) | exact Hmk.out _ _ (HFx.out.alloc _) (HBx.out.still ((World.Fr.refl _ []).alloc _)))
         clear hK K
         (try simp only [Act.put, sA, sB, sC])
         clear hHeld113
         refine wpAnyH_done (by kernel_rfl) ?_ _
     rotate_left
     focus
      go_simp
      refine hK.out _ _ ?s117 (fun hHeld117 => ?_)
      case s117 => ((try dsimp only); first | exact Hmk.out _ _ HFx.out HBx.out | exact Hmk.out _ _ (HFx.out.setCell (Or.inl List.mem_cons_self) _) (HBx.out.put7 hlt6 _) | exact Hmk.out _ _ (HFx.out.alloc _) (HBx.out.still ((World.Fr.refl _ []).alloc _)))
      clear hK K
      (try simp only [Act.put, sA, sB, sC])
      clear hHeld109
      refine wpAnyH_ready (rs := [4]) (by kernel_rfl) (by simp) ?_
      refine AllReadyH.cons (o := _) rfl (fun K hK => ?_) ?_
      rotate_left
      exact AllReadyH.nil
      focus
       go_simp
       refine hK.out _ _ ?s118 (fun hHeld118 => ?_)
       case s118 => ((try dsimp only); first | exact Hmk.out _ _ HFx.out HBx.out | exact Hmk.out _ _ (HFx.out.setCell (Or.inl List.mem_cons_self) _) (HBx.out.put7 hlt6 _) | exact Hmk.out _ _ (HFx.out.alloc _) (HBx.out.still ((World.Fr.refl _ []).alloc _)))
       clear hK K
       (try simp only [Act.put, sA, sB, sC])
       clear hHeld117
       refine wpAnyH_ready (rs := [17]) (by kernel_rfl) (by simp) ?_
       refine AllReadyH.cons (o := _) rfl (fun K hK => ?_) ?_
       rotate_left
       exact AllReadyH.nil
       focus
        (first | (go_at_call 62; (with_reducible refine Hc.out.mono ?_); rintro e w2 ⟨u, rfl, ho⟩; obtain ⟨y1, y2, y3, y4, rfl⟩ := ho.shape; have hf2 := ((World.Fr.refl wc []).drew).trans ho.fr (by simp); have HB2 := Hz (HB1.out.still hf2); have HBx := HB2; have HFx := Hz ((undr HFx.out).trans hf2 (by simp)); have Hsz := Hz HFx.out.size; have HK2 := Hz (HK1.out.still hf2); have hks := HK2.out.sl; rw [Hl1.out] at hks; have HKS := Hz hks; have Ho := Hz ho; clear ho hks; obtain ⟨_, _, _, _, _, _, _, e7', _, _, _⟩ := ten HB2.out.box; have lp2 := lt_of_heap HB2.out.box) | (refine step_append_one _ rfl (.tmp 57) (.tmp 69) 94 rfl 115 i0 (.agg #[.int .i64 0, .slice none 0 0, .slice none 0 0]) 3 56 Tryz.underlying94 ji jz0 jz1 jz2 rfl (.slice d1 S.waits.length d2) S.waits.length (ks1.flatMap Kp.cells) (by simp [Act.eval]) (World.Sl.alloc HKS.out _) w2.heap.size 1 [.int .i64 n, .slice y1 t.vars.length y2, .slice y3 t.rows.length y4] 115 (by simp [Act.eval]) (heap_alloc_at _ _ _ rfl) rfl rfl ⟨by omega, by omega⟩ ?_; intro g3 off3 c3 w5 hsl hfr hat hlt5; have HFx := Hz ((HFx.out.alloc (.cells #[.int .i64 n, .slice y1 t.vars.length y2, .slice y3 t.rows.length y4] 115)).trans hfr (fun x hx => Or.inl (List.mem_cons_of_mem _ hx))); have HBx := Hz ((HBx.out.still ((World.Fr.refl w2 []).alloc (.cells #[.int .i64 n, .slice y1 t.vars.length y2, .slice y3 t.rows.length y4] 115))).fr hfr HPB.out (fun x hx => Or.inl (Nat.lt_of_lt_of_le (HLT.out x hx) hl3))); have Hsl := Hz hsl; have Hfr := Hz hfr; have Hat := Hz hat; have Hlt5 := Hz hlt5; clear hsl hfr hat hlt5; obtain ⟨_, _, _, _, _, _, _, e75, _, _, ef5⟩ := ten HBx.out.box; have lp5 := lt_of_heap HBx.out.box))
        refine hK.out _ _ ?s119 (fun hHeld119 => ?_)
        case s119 => ((try dsimp only); first | exact Hmk.out _ _ HFx.out HBx.out | exact Hmk.out _ _ (HFx.out.setCell (Or.inl List.mem_cons_self) _) (HBx.out.put7 hlt6 _) | exact Hmk.out _ _ (HFx.out.alloc _) (HBx.out.still ((World.Fr.refl _ []).alloc _)))
        clear hK K
        (try simp only [Act.put, sA, sB, sC])
        clear hHeld118
        refine tH (i := 18) (v := ?v120) rfl (by kernel_rfl) (.inl ⟨by rfl, ?y120⟩) (fun _ _ _ h => h) (by assumption) ?z120
        case y120 => (intro w hSw; (try dsimp only at hSw); go_simp; (try with_reducible rfl))
        (try simp only [Act.put, sA, sB, sC])
        refine tH (i := 19) (v := ?v121) rfl (by kernel_rfl) (.inl ⟨by rfl, ?y121⟩) (fun _ _ _ h => h) (by assumption) ?z121
        case y121 => (intro w hSw; (try dsimp only at hSw); go_simp; (try with_reducible rfl))
        (try simp only [Act.put, sA, sB, sC])
        refine wpAnyH_ready (rs := [20]) (by kernel_rfl) (by simp) ?_
        refine AllReadyH.cons (o := _) rfl (fun K hK => ?_) ?_
        rotate_left
        exact AllReadyH.nil
        focus
         go_simp
         refine hK.out _ _ ?s122 (fun hHeld122 => ?_)
         case s122 => ((try dsimp only); first | exact Hmk.out _ _ HFx.out HBx.out | exact Hmk.out _ _ (HFx.out.setCell (Or.inl List.mem_cons_self) _) (HBx.out.put7 hlt6 _) | exact Hmk.out _ _ (HFx.out.alloc _) (HBx.out.still ((World.Fr.refl _ []).alloc _)))
         clear hK K
         (try simp only [Act.put, sA, sB, sC])
         clear hHeld119
         refine wpAnyH_done (by kernel_rfl) ?_ _
     rotate_left
    rotate_left
    rotate_left
    all_goals (refine NoPanic.normal ?_)
    all_goals
     have hne3 : g3 ≠ p := by
      rcases Hat.out with h | h
      ·exact fun e => HPB.out (e ▸ h)
      ·have := Hsz.out
       simp at h
       omega
     have hset := (World.Fr.refl w5 [p]).setCell (a := ⟨p, 7, none⟩) (.inl (by simp)) (.slice (some ⟨g3, off3, none⟩) (S.waits.length + 1) c3)
     have hop : Odd w5 [p] := Odd.one HBx.out.box (by decide)
     have hob := Odd.sl (World.Sl.alloc HKS.out (.cells #[.int .i64 n, .slice y1 t.vars.length y2, .slice y3 t.rows.length y4] 115))
     have hal := (World.Fr.refl w2 []).alloc (.cells #[.int .i64 n, .slice y1 t.vars.length y2, .slice y3 t.rows.length y4] 115)
     have htabs : ∀ k, k ∈ ks1 ++ [⟨n, .slice y1 t.vars.length y2, .slice y3 t.rows.length y4, t⟩] -> TabIn Q (w5.setCell ⟨p, 7, none⟩ (.slice (some ⟨g3, off3, none⟩) (S.waits.length + 1) c3)) (.agg #[k.a, k.b]) k.t := fun k hk => by
      rcases List.mem_append.1 hk with hk | hk
      ·exact (((HK2.out.tab k hk).still hal).fr Hfr.out hob).fr hset hop
      ·simp at hk
       subst hk
       exact (((Ho.out.inq (HQf.out.fr HF1.out.drew)).still hal).fr Hfr.out hob).fr hset hop
     have hfin : Hid (∃ ks2 v', KeptAt Q (w5.setCell ⟨p, 7, none⟩ (.slice (some ⟨g3, off3, none⟩) (S.waits.length + 1) c3)) v' ks2 /\ ks2.map Kp.tt = heldAll cf S a ++ [(n, t)] /\ SBox w (w5.setCell ⟨p, 7, none⟩ (.slice (some ⟨g3, off3, none⟩) (S.waits.length + 1) c3)) p p3 S n (.slice a1 S.left.length a2) (.slice b1 S.right.length b2) v' /\ (∀ k, k ∈ v'.blk -> k ∈ (Value.slice d1 S.waits.length d2).blk ∨ w.heap.size <= k) /\ w.Fr (w5.setCell ⟨p, 7, none⟩ (.slice (some ⟨g3, off3, none⟩) (S.waits.length + 1) c3)) (p :: (Value.slice d1 S.waits.length d2).blk)) := Hz ⟨ks1 ++ [⟨n, .slice y1 t.vars.length y2, .slice y3 t.rows.length y4, t⟩], .slice (some ⟨g3, off3, none⟩) (S.waits.length + 1) c3, ⟨by
       have h1 := Hsl.out.fr hset (by simp [Value.blk]; exact hne3)
       rw [List.length_append, Hl1.out, List.flatMap_append]
       exact h1, htabs⟩, by rw [List.map_append, HE1.out]; rfl, HBx.out.put7 hlt6 _, by
       intro k hk
       simp [Value.blk] at hk
       subst hk
       rcases Hat.out with h | h
       ·exact .inl h
       ·right
        have := Hsz.out
        simp at h
        omega, HFx.out.setCell (Or.inl List.mem_cons_self) _⟩
     clear hne3 hset hop hob hal htabs
     go_wp2_with fail
     go_meet
     case rel => exact ⟨rfl, hfin⟩
  case rest =>
   obtain ⟨rfl, hh⟩ := hcut
   obtain ⟨ks2, v', hk2, he2, hb2, hbl2, hf2⟩ := hh.out
   clear hh HK1 HE1 HB1 HF1 Hl1
   have hlen2 : ks2.length = S.waits.length + 1 := by
    have := congrArg List.length he2
    unfold heldAll at this
    split at this <;> simpa using this
   obtain ⟨g1, g2, rfl, _, _⟩ := hk2.sl.shape
   have hp3 : p3 ∉ (Value.slice g1 ks2.length g2).blk := Sl115.ne hk2.sl hb2.b3 (by decide)
   have hp4 : p3 + 1 ∉ (Value.slice g1 ks2.length g2).blk := Sl115.ne hk2.sl hb2.b4 (by decide)
   have hp6 : p3 + 2 ∉ (Value.slice g1 ks2.length g2).blk := Sl115.ne hk2.sl hb2.b6 (by decide)
   have hpp : p ∉ (Value.slice g1 ks2.length g2).blk := Sl115.ne hk2.sl hb2.box (by decide)
   have htime : ∀ k, k ∈ ks2 -> 0 <= k.time /\ k.time <= 1099511627776 := fun k hk => by
    have hm : k.tt ∈ heldAll cf S a ++ [(n, t)] := by rw [<- he2]; exact List.mem_map_of_mem hk
    have hO := HO.out
    rcases List.mem_append.1 hm with hm | hm
    ·unfold heldAll at hm
     split at hm
     ·obtain ⟨q, hq, e⟩ := List.mem_map.1 hm
      have h1 := hO.times q hq
      have h2 : q.time = k.time := congrArg Prod.fst e
      have h3 := hO.time
      omega
     ·rw [List.map_map] at hm
      obtain ⟨q, hq, e⟩ := List.mem_map.1 hm
      have h1 := hO.times q hq
      have h2 : q.time = k.time := congrArg Prod.fst e
      have h3 := hO.time
      omega
    ·simp at hm
     have h2 : k.time = n := hm.1
     have h3 := HN.out
     omega
   have hdr : wc.Fr wc.drew [] := (World.Fr.refl wc []).drew
   have hT : Tells3 131 #[.pointer (some ⟨p3, 0, none⟩), .pointer (some ⟨p3 + 1, 0, none⟩)] (goneB S.i n) wc.drew (Value.slice g1 ks2.length g2).blk ks2 := ⟨fun args w => by kernel_rfl, fun W k hf hk hs => since131 (hf.heap (hdr.heap hb2.b3 (by simp)) hp3) (hf.heap (hdr.heap hb2.b4 (by simp)) hp4) (hf.heap (hdr.heap hb2.box (by simp)) hpp) hs (IntWalk.i64_in _ (by have := htime k hk; have := HN.out; omega))⟩
   have hsh : ∀ k, k ∈ ks2 -> KSh k := fun k hk => by
    obtain ⟨z1, z2, z3, z4, h1, h2⟩ := (hk2.tab k hk).shape
    exact ⟨z1, z2, z3, z4, h1, h2⟩
   have Hc := Hz (del130 (hk2.still hdr) (by omega) hsh hT)
   have HK2 := Hz hk2; have HE2 := Hz he2; have HB2 := Hz hb2; have HBl2 := Hz hbl2; have HF2 := Hz hf2
   have HTm2 := Hz htime; have HM2 : Hid (ks2.length <= 1001) := Hz (by omega)
   clear hT hsh hk2 he2 hb2 hbl2 hf2 hlen2 htime hdr
   have HPs := Hz (And.intro hp3 (And.intro hp4 (And.intro hp6 hpp)))
   clear hp3 hp4 hp6 hpp
   go_upto_region 11 with (fail)
   go_cut [6] (fun s6 wx => s6 = .pointer (some ⟨p3 + 2, 0, none⟩) /\ Hid (∃ ks3 v3, KeptAt Q wx v3 ks3 /\ ks3.map Kp.tt = sinceW cf S a t n /\ SBox w wx p p3 S n (.slice a1 S.left.length a2) (.slice b1 S.right.length b2) v3 /\ (∀ k, k ∈ v3.blk -> k ∈ (Value.slice d1 S.waits.length d2).blk ∨ w.heap.size <= k) /\ w.Fr wx (p :: (Value.slice d1 S.waits.length d2).blk)))
   case first =>
    have hmk : ∀ (W : World) (vx : Value), w.Fr W (p :: (Value.slice d1 S.waits.length d2).blk) -> SBox w W p p3 S n (.slice a1 S.left.length a2) (.slice b1 S.right.length b2) vx -> W.cell? ⟨p3, 0, none⟩ = some (.pointer (some ⟨p, 0, none⟩)) /\ Hid (w.Fr W (p :: (Value.slice d1 S.waits.length d2).blk)) /\ Hid (∃ vx, SBox w W p p3 S n (.slice a1 S.left.length a2) (.slice b1 S.right.length b2) vx) := fun W vx hf hb => by
     obtain ⟨c0, _⟩ := uno hb.b3
     exact ⟨c0, Hz hf, Hz ⟨_, hb⟩⟩
    have Hmk := Hz hmk
    have HFx := Hz (HF2.out.drew)
    have HBx := Hz (HB2.out.still ((World.Fr.refl wc []).drew))
    obtain ⟨x0, _, _⟩ := Hmk.out wc _ HF2.out HB2.out
    obtain ⟨_, _, _, _, _, _, _, e7, _, _, _⟩ := ten HB2.out.box
    have lp := lt_of_heap HB2.out.box
    clear hmk
    refine wp_region_noPanic ?_
    refine wp_region_held_drew (S := (fun w' => w'.cell? ⟨p3, 0, none⟩ = some (.pointer (some ⟨p, 0, none⟩)) /\ Hid (w.Fr w' (p :: (Value.slice d1 S.waits.length d2).blk)) /\ Hid (∃ vx, SBox w w' p p3 S n (.slice a1 S.left.length a2) (.slice b1 S.right.length b2) vx))) (by kernel_rfl) ?s123 (fun hHeld123 => ?_)
    case s123 => ((try dsimp only); first | exact Hmk.out _ _ HFx.out HBx.out | exact Hmk.out _ _ (HFx.out.setCell (Or.inl List.mem_cons_self) _) (HBx.out.put7 hlt6 _))
    refine tH (i := 0) (v := ?v124) rfl (by kernel_rfl) (.inl ⟨by rfl, ?y124⟩) (fun _ _ _ h => h) (by assumption) ?z124
    case y124 => (intro w hSw; (try dsimp only at hSw); go_simp; (try with_reducible rfl))
    (try simp only [Act.put, sA, sB, sC])
    refine tH (i := 1) (v := ?v125) rfl (by kernel_rfl) (.inl ⟨by rfl, ?y125⟩) (fun _ _ _ h => h) (by assumption) ?z125
    case y125 => (intro w hSw; (try dsimp only at hSw); go_simp; (try with_reducible rfl))
    (try simp only [Act.put, sA, sB, sC])
    refine tH (i := 2) (v := ?v126) rfl (by kernel_rfl) (.inl ⟨by rfl, ?y126⟩) (fun _ _ _ h => h) (by assumption) ?z126
    case y126 => (intro w hSw; (try dsimp only at hSw); go_simp; (try with_reducible rfl))
    (try simp only [Act.put, sA, sB, sC])
    refine tH (i := 3) (v := ?v127) rfl (by kernel_rfl) (.inl ⟨by rfl, ?y127⟩) (fun _ _ _ h => h) (by assumption) ?z127
    case y127 => (intro w hSw; (try dsimp only at hSw); go_simp; (try with_reducible rfl))
    (try simp only [Act.put, sA, sB, sC])
    refine wpAnyH_ready (rs := [4, 5]) (by kernel_rfl) (by simp) ?_
    refine AllReadyH.cons (o := _) rfl (fun K hK => ?_) ?_
    rotate_left
    refine AllReadyH.cons (o := _) rfl (fun K hK => ?_) ?_
    rotate_left
    exact AllReadyH.nil
    focus
     go_simp
     refine hK.out _ _ ?s128 (fun hHeld128 => ?_)
     case s128 => ((try dsimp only); first | exact Hmk.out _ _ HFx.out HBx.out | exact Hmk.out _ _ (HFx.out.setCell (Or.inl List.mem_cons_self) _) (HBx.out.put7 hlt6 _))
     clear hK K
     (try simp only [Act.put, sA, sB, sC])
     clear hHeld123
     refine wpAnyH_ready (rs := [5]) (by kernel_rfl) (by simp) ?_
     refine AllReadyH.cons (o := _) rfl (fun K hK => ?_) ?_
     rotate_left
     exact AllReadyH.nil
     focus
      go_simp
      refine hK.out _ _ ?s129 (fun hHeld129 => ?_)
      case s129 => ((try dsimp only); first | exact Hmk.out _ _ HFx.out HBx.out | exact Hmk.out _ _ (HFx.out.setCell (Or.inl List.mem_cons_self) _) (HBx.out.put7 hlt6 _))
      clear hK K
      (try simp only [Act.put, sA, sB, sC])
      clear hHeld128
      refine wpAnyH_ready (rs := [6]) (by kernel_rfl) (by simp) ?_
      refine AllReadyH.cons (o := _) rfl (fun K hK => ?_) ?_
      rotate_left
      exact AllReadyH.nil
      focus
       go_simp
       (first | (go_at_call 130; (with_reducible refine Hc.out.mono ?_); rintro e w5 ⟨v3, rfl, hs3, hb3, hf3⟩; have HBx := Hz (HBx.out.fr hf3 HPs.out.2.2.2 (sub3 HPs.out.1 HPs.out.2.1 HPs.out.2.2.1)); have HFx := Hz (HFx.out.trans hf3 (fun x hx => (HBl2.out x hx).elim (fun h => Or.inl (List.mem_cons_of_mem _ h)) Or.inr)); have Hs3 := Hz hs3; have Hb3 := Hz hb3; have Hf3 := Hz hf3; clear hs3 hb3 hf3; obtain ⟨g3, c3, rfl, _, _⟩ := Hs3.out.shape; obtain ⟨_, _, _, _, _, _, _, e75, _, _, ef5⟩ := ten HBx.out.box; have lp5 := lt_of_heap HBx.out.box))
       (try go_wp2_with fail)
       refine hK.out _ _ ?s130 (fun hHeld130 => ?_)
       case s130 => ((try dsimp only); first | exact Hmk.out _ _ HFx.out HBx.out | exact Hmk.out _ _ (HFx.out.setCell (Or.inl List.mem_cons_self) _) (HBx.out.put7 hlt6 _))
       clear hK K
       (try simp only [Act.put, sA, sB, sC])
       clear hHeld129
       refine tH (i := 7) (v := ?v131) rfl (by kernel_rfl) (.inl ⟨by rfl, ?y131⟩) (fun _ _ _ h => h) (by assumption) ?z131
       case y131 => (intro w hSw; (try dsimp only at hSw); go_simp; (try with_reducible rfl))
       (try simp only [Act.put, sA, sB, sC])
       refine tH (i := 8) (v := ?v132) rfl (by kernel_rfl) (.inl ⟨by rfl, ?y132⟩) (fun _ _ _ h => h) (by assumption) ?z132
       case y132 => (intro w hSw; (try dsimp only at hSw); go_simp; (try with_reducible rfl))
       (try simp only [Act.put, sA, sB, sC])
       refine wpAnyH_ready (rs := [9]) (by kernel_rfl) (by simp) ?_
       refine AllReadyH.cons (o := _) rfl (fun K hK => ?_) ?_
       rotate_left
       exact AllReadyH.nil
       focus
        go_simp
        refine hK.out _ _ ?s133 (fun hHeld133 => ?_)
        case s133 => ((try dsimp only); first | exact Hmk.out _ _ HFx.out HBx.out | exact Hmk.out _ _ (HFx.out.setCell (Or.inl List.mem_cons_self) _) (HBx.out.put7 hlt6 _))
        clear hK K
        (try simp only [Act.put, sA, sB, sC])
        clear hHeld130
        refine wpAnyH_done (by kernel_rfl) ?_ _
    rotate_left
    focus
     go_simp
     refine hK.out _ _ ?s134 (fun hHeld134 => ?_)
     case s134 => ((try dsimp only); first | exact Hmk.out _ _ HFx.out HBx.out | exact Hmk.out _ _ (HFx.out.setCell (Or.inl List.mem_cons_self) _) (HBx.out.put7 hlt6 _))
     clear hK K
     (try simp only [Act.put, sA, sB, sC])
     clear hHeld123
     refine wpAnyH_ready (rs := [4]) (by kernel_rfl) (by simp) ?_
     refine AllReadyH.cons (o := _) rfl (fun K hK => ?_) ?_
     rotate_left
     exact AllReadyH.nil
     focus
      go_simp
      refine hK.out _ _ ?s135 (fun hHeld135 => ?_)
      case s135 => ((try dsimp only); first | exact Hmk.out _ _ HFx.out HBx.out | exact Hmk.out _ _ (HFx.out.setCell (Or.inl List.mem_cons_self) _) (HBx.out.put7 hlt6 _))
      clear hK K
      (try simp only [Act.put, sA, sB, sC])
      clear hHeld134
      refine wpAnyH_ready (rs := [6]) (by kernel_rfl) (by simp) ?_
      refine AllReadyH.cons (o := _) rfl (fun K hK => ?_) ?_
      rotate_left
      exact AllReadyH.nil
      focus
       go_simp
       (first | (go_at_call 130; (with_reducible refine Hc.out.mono ?_); rintro e w5 ⟨v3, rfl, hs3, hb3, hf3⟩; have HBx := Hz (HBx.out.fr hf3 HPs.out.2.2.2 (sub3 HPs.out.1 HPs.out.2.1 HPs.out.2.2.1)); have HFx := Hz (HFx.out.trans hf3 (fun x hx => (HBl2.out x hx).elim (fun h => Or.inl (List.mem_cons_of_mem _ h)) Or.inr)); have Hs3 := Hz hs3; have Hb3 := Hz hb3; have Hf3 := Hz hf3; clear hs3 hb3 hf3; obtain ⟨g3, c3, rfl, _, _⟩ := Hs3.out.shape; obtain ⟨_, _, _, _, _, _, _, e75, _, _, ef5⟩ := ten HBx.out.box; have lp5 := lt_of_heap HBx.out.box))
       (try go_wp2_with fail)
       refine hK.out _ _ ?s136 (fun hHeld136 => ?_)
       case s136 => ((try dsimp only); first | exact Hmk.out _ _ HFx.out HBx.out | exact Hmk.out _ _ (HFx.out.setCell (Or.inl List.mem_cons_self) _) (HBx.out.put7 hlt6 _))
       clear hK K
       (try simp only [Act.put, sA, sB, sC])
       clear hHeld135
       refine tH (i := 7) (v := ?v137) rfl (by kernel_rfl) (.inl ⟨by rfl, ?y137⟩) (fun _ _ _ h => h) (by assumption) ?z137
       case y137 => (intro w hSw; (try dsimp only at hSw); go_simp; (try with_reducible rfl))
       (try simp only [Act.put, sA, sB, sC])
       refine tH (i := 8) (v := ?v138) rfl (by kernel_rfl) (.inl ⟨by rfl, ?y138⟩) (fun _ _ _ h => h) (by assumption) ?z138
       case y138 => (intro w hSw; (try dsimp only at hSw); go_simp; (try with_reducible rfl))
       (try simp only [Act.put, sA, sB, sC])
       refine wpAnyH_ready (rs := [9]) (by kernel_rfl) (by simp) ?_
       refine AllReadyH.cons (o := _) rfl (fun K hK => ?_) ?_
       rotate_left
       exact AllReadyH.nil
       focus
        go_simp
        refine hK.out _ _ ?s139 (fun hHeld139 => ?_)
        case s139 => ((try dsimp only); first | exact Hmk.out _ _ HFx.out HBx.out | exact Hmk.out _ _ (HFx.out.setCell (Or.inl List.mem_cons_self) _) (HBx.out.put7 hlt6 _))
        clear hK K
        (try simp only [Act.put, sA, sB, sC])
        clear hHeld136
        refine wpAnyH_done (by kernel_rfl) ?_ _
    rotate_left
    all_goals (refine NoPanic.normal ?_)
    all_goals
     have hset := (World.Fr.refl w5 [p]).setCell (a := ⟨p, 7, none⟩) (.inl (by simp)) (.slice g3 (ks2.filter fun k => !goneB S.i n k).length c3)
     have hop : Odd w5 [p] := Odd.one HBx.out.box (by decide)
     have hdr : wc.Fr wc.drew [] := (World.Fr.refl wc []).drew
     have hob := Odd.sl (HK2.out.still hdr).sl
     have hfin : Hid (∃ ks3 v3, KeptAt Q (w5.setCell ⟨p, 7, none⟩ (.slice g3 (ks2.filter fun k => !goneB S.i n k).length c3)) v3 ks3 /\ ks3.map Kp.tt = sinceW cf S a t n /\ SBox w (w5.setCell ⟨p, 7, none⟩ (.slice g3 (ks2.filter fun k => !goneB S.i n k).length c3)) p p3 S n (.slice a1 S.left.length a2) (.slice b1 S.right.length b2) v3 /\ (∀ k, k ∈ v3.blk -> k ∈ (Value.slice d1 S.waits.length d2).blk ∨ w.heap.size <= k) /\ w.Fr (w5.setCell ⟨p, 7, none⟩ (.slice g3 (ks2.filter fun k => !goneB S.i n k).length c3)) (p :: (Value.slice d1 S.waits.length d2).blk)) := Hz ⟨ks2.filter fun k => !goneB S.i n k, .slice g3 (ks2.filter fun k => !goneB S.i n k).length c3, ⟨Hs3.out.fr hset (fun k hk hm => by
       simp at hm
       subst hm
       exact HPs.out.2.2.2 (Hb3.out _ hk)), fun k hk => (((HK2.out.tab k (List.mem_filter.1 hk).1).still hdr).fr Hf3.out hob).fr hset hop⟩, by
       unfold sinceW
       rw [<- HE2.out, List.filter_map]
       rfl, HBx.out.put7 hlt6 _, fun k hk => HBl2.out k (Hb3.out k hk), HFx.out.setCell (Or.inl List.mem_cons_self) _⟩
     clear hset hop hob hdr
     go_wp2_with fail
     go_meet
     case rel => exact ⟨rfl, hfin⟩
   case rest =>
    obtain ⟨rfl, hh⟩ := hcut
    obtain ⟨ks3, v3, hk3, he3, hb3, hbl3, hf3⟩ := hh.out
    have htm3 : ∀ k, k ∈ ks3 -> 0 <= k.time /\ k.time <= 1099511627776 := fun k hk => by
     have hm : k.tt ∈ sinceW cf S a t n := by rw [<- he3]; exact List.mem_map_of_mem hk
     have hm2 : k.tt ∈ ks2.map Kp.tt := by rw [HE2.out]; exact (List.mem_filter.1 hm).1
     obtain ⟨q, hq, e⟩ := List.mem_map.1 hm2
     have h1 := HTm2.out q hq
     have h2 : q.time = k.time := congrArg Prod.fst e
     omega
    have hm3 : ks3.length <= 1001 := by
     have h1 := congrArg List.length he3
     rw [List.length_map] at h1
     rw [h1]
     refine Nat.le_trans (List.length_filter_le _ _) ?_
     rw [<- HE2.out, List.length_map]
     exact HM2.out
    have HTm := Hz htm3; have HM3 := Hz hm3
    clear htm3 hm3 hh HK2 HE2 HB2 HBl2 HF2 HPs Hc
    obtain ⟨g1', g2', rfl, _, _⟩ := hk3.sl.shape
    have hpa : PastAt Q wc p { S with waits := ks3 } (.slice a1 S.left.length a2) (.slice b1 S.right.length b2) (.slice g1' ks3.length g2') := ⟨hb3.box, H.out.left.fr hf3 (H.out.odd.off H.out.left (.inl rfl)), H.out.right.fr hf3 (H.out.odd.off H.out.right (.inl rfl)), H.out.lw, H.out.rw, H.out.names, hk3⟩
    obtain ⟨x0, xf⟩ := uno hb3.b3
    have k := Hz (empty124 HK.out hpa HO.out.up HO.out.le8.2)
    have HPA := Hz hpa; have HE3 := Hz he3; have HB3 := Hz hb3; have HBl3 := Hz hbl3; have HF3 := Hz hf3
    clear hpa he3 hb3 hbl3 hf3 hk3
    go_upto_region 12 with (fail)
    go_wp2_with fail
    (with_reducible refine k.out.mono ?_)
    rintro e w1 ⟨u, rfl, ho⟩
    obtain ⟨t1, t2, t3, t4, rfl⟩ := ho.shape
    simp only [List.length_nil] at ho ⊢
    have HQw := HQf.out.fr HF3.out
    have hal := ho.fr.alloc (.cells #[.slice t1 S.right.length t2, .slice t3 0 t4] 34)
    have Q9 := Hz (heap_alloc_at w1 (.cells #[.slice t1 S.right.length t2, .slice t3 0 t4] 34) _ rfl)
    have O := Hz ((ho.stay ((World.Fr.refl w1 []).alloc (.cells #[.slice t1 S.right.length t2, .slice t3 0 t4] 34))).inq HQw)
    have HFc := Hz hal
    have HZ9 : Hid (p3 + 2 < w1.heap.size) := Hz (Nat.lt_of_lt_of_le (lt_of_heap HB3.out.b6) ho.fr.size)
    have HZ9d := Hz ho.fr.size
    clear hal ho k x0 xf HQw
    go_upto_region 13 with (fail)
    generalize hWW : World.alloc w1 _ = w9 at *
    clear hWW
    have HZ9c0 : Hid (wc.heap.size <= w1.heap.size) := HZ9d
    generalize hp9 : w1.heap.size = p9 at Q9 HZ9 HZ9c0 ⊢
    have HZ9c := HZ9c0
    clear hp9 HZ9c0 HZ9d
    obtain ⟨x0, xf⟩ := uno (HB3.out.still HFc.out).b3
    obtain ⟨e0, e1, e2, e3, e4, e5, e6, e7, e8, e9, ef⟩ := ten (HB3.out.still HFc.out).box
    have hzp := lt_of_heap (HB3.out.still HFc.out).box
    have O0 : Hid (TabIn Q w9 (.agg #[.slice t1 S.right.length t2, .slice t3 0 t4]) (sinceO cf S.i n ⟨S.right, []⟩ ((sinceW cf S a t n).take 0))) := Hz O.out
    go_wp2
    go_loopw [89] (fun i wr => ∃ (j : Nat) (xa xb : Value), i = .int .i64 j /\ j <= ks3.length /\ Hid (wc.Fr wr []) /\ Hid (wr.heap[p9]? = some (.cells #[xa, xb] 34 (0, 0))) /\ Hid (TabIn Q wr (.agg #[xa, xb]) (sinceO cf S.i n ⟨S.right, []⟩ ((sinceW cf S a t n).take j)))) (fun i _ => (ks3.length - intOf i).toNat)
    case atStart => exact ⟨0, _, _, rfl, Nat.zero_le _, HFc, Q9, O0⟩
    case round =>
     obtain ⟨j, xa, xb, rfl, hj, HF, HQ9, HSl⟩ := hrel
     clear e0 e1 e2 e3 e4 e5 e6 e7 e8 e9 ef hzp Q9 O O0 HFc x0 xf
     have hlen3 : (sinceW cf S a t n).length = ks3.length := by rw [<- HE3.out, List.length_map]
     by_cases hlt : j < ks3.length
     ·obtain ⟨k, hk⟩ : ∃ k, ks3[j]? = some k := ⟨ks3[j], List.getElem?_eq_getElem hlt⟩
      have hkx : (sinceW cf S a t n)[j]? = some k.tt := by rw [<- HE3.out, List.getElem?_map, hk]; rfl
      obtain ⟨g, off, c, hv, hg, k0, k1, k2, kf, ksl⟩ := (HPA.out.still HF.out).kept.at hk
      cases hv
      have hktime := HTm.out k (List.mem_of_getElem? hk)
      have hw2 : IntKind.i64.wrap (n - k.time) = n - k.time := IntWalk.i64_in _ (by have := HN.out; omega)
      obtain ⟨kt, ka, kb, ktb⟩ := k
      obtain ⟨z1, z2, z3, z4, ea, eb⟩ := ksl.shape
      simp only at k0 k1 k2 ksl hktime hw2 ea eb
      subst ea eb
      have hjI : (j : Int) < (ks3.length : Int) := by omega
      have hw1 : IntKind.i64.wrap ((j : Int) + 1) = (j : Int) + 1 := IntWalk.i64_in _ (by have := HM3.out; omega)
      have hnn : (0 : Int) <= (j : Int) := by omega
      have hpw := HPA.out.still HF.out
      have q9 := heap_alloc_at wr (.cells #[.int .i64 kt, .slice z1 ktb.vars.length z2, .slice z3 ktb.rows.length z4] 115) _ rfl
      have hf9 := (World.Fr.refl wr []).alloc (.cells #[.int .i64 kt, .slice z1 ktb.vars.length z2, .slice z3 ktb.rows.length z4] 115)
      have HQ11 := Hz q9; have HQ9 := Hz (hf9.heap HQ9.out (by simp)); have HSl := Hz (HSl.out.still hf9); have HKs := Hz (ksl.still hf9); have HF := Hz (HF.out.trans hf9 (by simp))
      have Hkx := Hz hkx
      obtain ⟨x0, xf⟩ := uno (HB3.out.still HF.out).b3
      obtain ⟨y0, yf⟩ := uno (HB3.out.still HF.out).b4
      obtain ⟨e0, e1, e2, e3, e4, e5, e6, e7, e8, e9, ef⟩ := ten (HB3.out.still HF.out).box
      have hzp := lt_of_heap (HB3.out.still HF.out).box
      clear hpw q9 hf9 hkx ksl hk hktime
      go_upto_region 16 with (fail)
      generalize hWW : World.alloc wr _ = w5 at *
      clear hWW
      generalize hp11 : wr.heap.size = p11 at *
      obtain ⟨m0, m1, m2, mf⟩ := tri HQ11.out
      have hz11 := lt_of_heap HQ11.out
      clear k0 k1 k2 kf hg hp11
      go_still_tail 8, (by kernel_rfl)
      change wpList _ _ _ _ _ w5.drew
      go_wp2_with fail
      (with_reducible refine (in125 (n - kt) S.i _).mono ?_)
      rintro e w6 ⟨rfl, fx⟩
      have hf6 := ((World.Fr.refl w5 []).drew).trans fx (by simp)
      have hq9 := hf6.heap HQ9.out (by simp)
      have hq11 := hf6.heap HQ11.out (by simp)
      have hsl := HSl.out.still hf6
      have hks := HKs.out.still hf6
      have hfr := HF.out.trans hf6 (by simp)
      clear e0 e1 e2 e3 e4 e5 e6 e7 e8 e9 ef m0 m1 m2 mf hzp hz11 HQ9 HQ11 HSl HKs HF fx hf6 x0 xf y0 yf
      have HQ9 := Hz hq9; have HSl := Hz hsl; have HKs := Hz hks; have HF := Hz hfr; have HQ11 := Hz hq11
      clear hq9 hq11 hsl hks hfr
      have hst := sinceO_step (cf := cf) (i := S.i) (n := n) (e := ⟨S.right, []⟩) Hkx.out
      cases hin : inB (n - kt) S.i with
      | false =>
       have hst2 : sinceO cf S.i n ⟨S.right, []⟩ ((sinceW cf S a t n).take (j + 1)) = sinceO cf S.i n ⟨S.right, []⟩ ((sinceW cf S a t n).take j) := by rw [hst]; simp only [Kp.tt, hin]; rfl
       rw [<- hst2] at HSl
       clear hin hst hst2
       go_wp2
       go_roundw
       case rel => exact ⟨j + 1, xa, xb, by go_num, by omega, HF, HQ9, HSl⟩
       case measure => simp [intOf]; omega
      | true =>
       have hst2 : sinceO cf S.i n ⟨S.right, []⟩ ((sinceW cf S a t n).take (j + 1)) = (unionT cf (sinceO cf S.i n ⟨S.right, []⟩ ((sinceW cf S a t n).take j)) ktb).2 := by rw [hst]; simp only [Kp.tt, hin]; rfl
       have hxg := HGW.out _ (List.mem_of_getElem? Hkx.out)
       have hog := sinceO_good (cf := cf) HK.out.ord (i := S.i) (n := n) ((sinceW cf S a t n).take j) ⟨S.right, []⟩ ⟨HO.out.le8.2, HO.out.up, by simp, by simp, by simp⟩ (fun x hx => HGW.out x (List.mem_of_mem_take hx))
       have hjl : ((sinceW cf S a t n).take j).length <= 1001 := Nat.le_trans (List.length_take_le _ _) (by have := HM3.out; omega)
       simp only [Kp.tt] at hxg
       generalize hX : sinceO cf S.i n ⟨S.right, []⟩ ((sinceW cf S a t n).take j) = X at *
       have hXl : X.rows.length <= 600600 := by
        have := hog.2.2
        have h2 : ((sinceW cf S a t n).take j).length * 600 <= 1001 * 600 := Nat.mul_le_mul_right _ hjl
        simp only [List.length_nil] at this
        omega
       have Hc := Hz (union39 HK.out HSl.out.rd HKs.out.rd (hog.1.fits (by omega)) (hxg.1.fits (by omega)) (by omega))
       have Hst := Hz hst2
       obtain ⟨o1, o2, o3, o4, rfl, rfl⟩ := HSl.out.shape
       obtain ⟨m0, m1, m2, mf⟩ := tri HQ11.out
       obtain ⟨n0, n1, nf⟩ := two HQ9.out
       have hz9 := lt_of_heap HQ9.out
       have hz11 := lt_of_heap HQ11.out
       clear hin hst hst2 hxg hog hjl hX hXl
       go_wp2_with fail
       (with_reducible refine Hc.out.mono ?_)
       rintro e w7 ⟨u, rfl, ho⟩
       obtain ⟨u1, u2, u3, u4, rfl⟩ := ho.shape
       have hq9 := ho.fr.heap HQ9.out (by simp)
       have hh1 := ((World.Fr.refl w7 [p9]).setCell (a := ⟨p9, 0, none⟩) (.inl (by simp)) (.slice u1 (unionT cf X ktb).2.vars.length u2)).setCell (a := ⟨p9, 1, none⟩) (.inl (by simp)) (.slice u3 (unionT cf X ktb).2.rows.length u4)
       have hfr := Hz ((HF.out.trans ho.fr (by simp)).trans hh1 (fun k hk => .inr (by simp at hk; subst hk; have := HZ9c.out; omega)))
       have hks0 := (ho.inq (HQf.out.fr (HF3.out.trans HF.out (by simp)))).fr hh1 (Odd.one hq9 (by decide))
       have hks := Hz (Hst.out.symm ▸ hks0 : TabIn Q ((w7.setCell ⟨p9, 0, none⟩ (.slice u1 (unionT cf X ktb).2.vars.length u2)).setCell ⟨p9, 1, none⟩ (.slice u3 (unionT cf X ktb).2.rows.length u4)) (.agg #[.slice u1 (unionT cf X ktb).2.vars.length u2, .slice u3 (unionT cf X ktb).2.rows.length u4]) (sinceO cf S.i n ⟨S.right, []⟩ ((sinceW cf S a t n).take (j + 1))))
       have hq7 := Hz (heap_set_same (heap_set_same hq9 0 (.slice u1 (unionT cf X ktb).2.vars.length u2)) 1 (.slice u3 (unionT cf X ktb).2.rows.length u4))
       clear m0 m1 m2 mf n0 n1 nf hz9 hz11 hks0 hh1 ho Hc Hst
       obtain ⟨n0, n1, nf⟩ := two hq9
       have hz9 := lt_of_heap hq9
       clear hq9
       go_wp2
       go_roundw
       case rel => exact ⟨j + 1, _, _, by go_num, by omega, hfr, hq7, hks⟩
       case measure => simp [intOf]; omega
     ·have hd : decide ((j : Int) < (ks3.length : Int)) = false := decide_eq_false (by omega)
      have hd2 : decide (j < ks3.length) = false := decide_eq_false hlt
      obtain rfl : j = ks3.length := by omega
      have hsl := HSl.out
      rw [List.take_of_length_le (by omega)] at hsl
      obtain ⟨z1, z2, z3, z4, rfl, rfl⟩ := hsl.shape
      have hb6 := (HB3.out.still HF.out).b6
      have hset := ((World.Fr.refl wr [p3 + 2]).setCell (a := ⟨p3 + 2, 0, none⟩) (.inl (by simp)) (.slice z1 (sinceO cf S.i n ⟨S.right, []⟩ (sinceW cf S a t n)).vars.length z2)).setCell (a := ⟨p3 + 2, 1, none⟩) (.inl (by simp)) (.slice z3 (sinceO cf S.i n ⟨S.right, []⟩ (sinceW cf S a t n)).rows.length z4)
      have hlp : p < p3 + 2 := by omega
      have hpw := (HPA.out.still HF.out)
      have hod : Odd wr [p3 + 2] := Odd.one hb6 (by decide)
      have hR6 := Hz (two (heap_set_same (heap_set_same hb6 0 (.slice z1 (sinceO cf S.i n ⟨S.right, []⟩ (sinceW cf S a t n)).vars.length z2)) 1 (.slice z3 (sinceO cf S.i n ⟨S.right, []⟩ (sinceW cf S a t n)).rows.length z4)))
      have hkb : ∀ k, k ∈ (Value.slice g1' ks3.length g2').blk -> k ∉ [p3 + 2] := fun k hk hm => by
       simp at hm
       subst hm
       exact Sl115.ne hpw.kept.sl hb6 (by decide) hk
      have hfinT := Hz (hsl.fr hset hod)
      have hfinP := Hz (show PastAt Q _ p { S with waits := ks3 } (.slice a1 S.left.length a2) (.slice b1 S.right.length b2) (.slice g1' ks3.length g2') from ⟨hset.heap hpw.box (by simp; omega), hpw.left.fr hset (hod.off hpw.left (.inl rfl)), hpw.right.fr hset (hod.off hpw.right (.inl rfl)), hpw.lw, hpw.rw, hpw.names, hpw.kept.fr hset hod hkb⟩)
      have hfinF := Hz ((HF3.out.trans HF.out (by simp)).trans hset (fun k hk => .inr (by simp at hk; subst hk; omega)))
      obtain ⟨n0, n1, nf⟩ := two HQ9.out
      obtain ⟨s0, s1, sf⟩ := two hb6
      have hz9 := lt_of_heap HQ9.out
      have hz6 := lt_of_heap hb6
      clear hsl hset hpw hod hkb hb6 hlt hj
      go_wp2
      obtain ⟨f0, f1, _⟩ := hR6.out
      refine bodyPost_ret (v := .agg #[.slice z1 _ z2, .slice z3 _ z4]) (by simp [results, Tryz.results65, go_sem, f0, f1]) rfl ⟨_, ks3, _, rfl, hfinT.out, HE3.out, hfinP.out, HBl3.out, hfinF.out⟩
end Go.Proofs.YtbejmdlncnkaaaaGreat
