/-
  A region that draws its order and ends in a store into a cell that it loads: a condition on the world that need not hold behind the last operation.
-/
import Derived.Deep.RegionHeld3
namespace Go
section
variable {P : Program} {ops : Array Oper} {Q : Exit -> Act -> World -> Prop} {md : Region.Mode} {S : World -> Prop} {z : Nat}
def wpAnyE (P : Program) (md : Region.Mode) (ops : Array Oper) (Q : Exit -> Act -> World -> Prop) (S : World -> Prop) (z : Nat) : Nat -> Array Bool -> Act -> World -> Prop
 | 0, listed, a, w => Region.ready md ops listed = [] /\ Q .normal a w
 | fuel + 1, listed, a, w =>
  (Region.ready md ops listed = [] -> Q .normal a w) /\
  ∀ i ∈ Region.ready md ops listed, wpOp P ops Q i (fun a' w' => (i ≠ z -> S w') /\ wpAnyE P md ops Q S z fuel (listed.setIfInBounds i true) a' w') a w
theorem wpAny_of_E : ∀ (fuel : Nat) (listed : Array Bool) (a : Act) (w : World), wpAnyE P md ops Q S z fuel listed a w -> wpAny P md ops Q fuel listed a w
 | 0, _, _, _, h => h
 | fuel + 1, _, _, _, h => ⟨h.1, fun i hi => wpOp_mono (fun a' w' h' => wpAny_of_E fuel _ a' w' h'.2) (h.2 i hi)⟩
def Region.shutB (md : Region.Mode) (ops : Array Oper) (listed : Array Bool) : Bool :=
 (List.range ops.size).all fun j => !listed.getD j false || ((ops[j]?).map (·.after.all fun e => !Region.binds md e || listed.getD e.on false)).getD true
def Region.Shut (md : Region.Mode) (ops : Array Oper) (listed : Array Bool) : Prop :=
 ∀ j oj, ops[j]? = some oj -> listed.getD j false = true -> ∀ e ∈ oj.after, Region.binds md e = true -> listed.getD e.on false = true
theorem Region.shut_spec {listed : Array Bool} (h : Region.shutB md ops listed = true) : Region.Shut md ops listed := by
 intro j oj hj hl e he hb
 unfold Region.shutB at h
 rw [List.all_eq_true] at h
 have h1 := h j (List.mem_range.2 (by rcases Nat.lt_or_ge j ops.size with h' | h'; exact h'; rw [Array.getElem?_eq_none h'] at hj; cases hj))
 rw [hl, hj] at h1
 simp only [Bool.not_true, Bool.false_or, Option.map_some, Option.getD_some] at h1
 rw [Array.all_eq_true_iff_forall_mem] at h1
 have := h1 e he
 rw [hb] at this
 simpa using this
theorem Region.Shut.set {listed : Array Bool} {i : Nat} (h : Region.Shut md ops listed) (hi : i ∈ Region.ready md ops listed) : Region.Shut md ops (listed.setIfInBounds i true) := by
 intro j oj hj hl e he hb
 refine getD_set_true ?_
 by_cases hji : j = i
 ·subst hji
  obtain ⟨_, o, ho, hall⟩ := mem_ready.1 hi
  rw [ho] at hj
  cases hj
  exact hall e he hb
 ·refine h j oj hj ?_ e he hb
  rw [getD_set_ne false (Ne.symm hji)] at hl
  exact hl
def Region.waitB (md : Region.Mode) (ops : Array Oper) (i : Nat) : Nat -> Nat -> Bool
 | 0, _ => false
 | f + 1, j => ((ops[j]?).map (·.after.any fun e => Region.binds md e && (e.on == i || Region.waitB md ops i f e.on))).getD false
theorem Region.wait_listed {listed : Array Bool} {i : Nat} (h : Region.Shut md ops listed) : ∀ (f j : Nat), listed.getD j false = true -> Region.waitB md ops i f j = true -> listed.getD i false = true
 | 0, _, _, hw => by cases hw
 | f + 1, j, hl, hw => by
  unfold Region.waitB at hw
  cases ho : ops[j]? with
  | none => rw [ho] at hw; cases hw
  | some o =>
   rw [ho] at hw
   simp only [Option.map_some, Option.getD_some] at hw
   rw [Array.any_eq_true] at hw
   obtain ⟨k, hk, hw⟩ := hw
   simp only [Bool.and_eq_true, Bool.or_eq_true, beq_iff_eq] at hw
   have hl2 := h j o ho hl _ (Array.getElem_mem hk) hw.1
   rcases hw.2 with he | he
   ·rw [he] at hl2; exact hl2
   ·exact Region.wait_listed h f _ hl2 he
theorem Region.wait_ready {listed : Array Bool} {i : Nat} (h : Region.Shut md ops listed) (hz : z ∈ Region.ready md ops listed) {f : Nat} (hw : Region.waitB md ops i (f + 1) z = true) : listed.getD i false = true := by
 obtain ⟨_, o, ho, hall⟩ := mem_ready.1 hz
 unfold Region.waitB at hw
 rw [ho] at hw
 simp only [Option.map_some, Option.getD_some] at hw
 rw [Array.any_eq_true] at hw
 obtain ⟨k, hk, hw⟩ := hw
 simp only [Bool.and_eq_true, Bool.or_eq_true, beq_iff_eq] at hw
 have hl2 := hall _ (Array.getElem_mem hk) hw.1
 rcases hw.2 with he | he
 ·rw [he] at hl2; exact hl2
 ·exact Region.wait_listed h f _ hl2 he
theorem getD_ready {listed : Array Bool} {i : Nat} (hi : i ∈ Region.ready md ops listed) : listed.getD i false = false := by
 have h0 := (mem_ready.1 hi).1
 rcases Nat.lt_or_ge i listed.size with h' | h'
 ·simp [h'] at h0 ⊢; exact h0
 ·simp [Array.getElem?_eq_none h'] at h0
theorem wpAnyE_first {i : Nat} {oi : Oper} {v : Value} {f : Nat} (hi : ops[i]? = some oi) (hsel : ∀ (j : Nat) (o : Oper) cs b, ops[j]? = some o -> o.op ≠ .select cs b)
  (hQ : ∀ c a w, Q (.panic c) (a.put oi.dst v) w -> Q (.panic c) a w) (hwz : Region.waitB md ops i (f + 1) z = true) :
  ∀ (fuel : Nat) (listed : Array Bool) (a : Act) (w : World), Region.Shut md ops listed ->
   (∀ j oj, ops[j]? = some oj -> j ≠ i -> listed.getD j true = false -> (∀ e ∈ oj.after, Region.binds md e = true -> e.on ≠ i) -> oi.apart ops oj = true) ->
   i ∈ Region.ready md ops listed -> YieldsIf P ops S oi v a -> S w ->
   wpAnyE P md ops Q S z fuel (listed.setIfInBounds i true) (a.put oi.dst v) w -> wpAnyE P md ops Q S z (fuel + 1) listed a w := by
 intro fuel
 induction fuel with
 | zero =>
  intro listed a w _ _ hr hy hS H
  refine ⟨fun h => (by rw [h] at hr; cases hr), fun j hj => ?_⟩
  by_cases hji : j = i
  ·subst hji; exact hy.wpOp hi hS ⟨fun _ => hS, H⟩
  ·have := ready_mono hj hji
   rw [H.1] at this
   cases this
 | succ fuel ih =>
  intro listed a w hsh hfree hr hy hS H
  refine ⟨fun h => (by rw [h] at hr; cases hr), fun j hj => ?_⟩
  by_cases hji : j = i
  ·subst hji; exact hy.wpOp hi hS ⟨fun _ => hS, H⟩
  ·have hjz : j ≠ z := fun e => by
    subst e
    have h1 := Region.wait_ready hsh hj hwz
    rw [getD_ready hr] at h1
    cases h1
   have h1 := H.2 j (ready_mono hj hji)
   obtain ⟨hjun, oj, hoj, hall⟩ := mem_ready.1 hj
   have hnot : ∀ e ∈ oj.after, Region.binds md e = true -> e.on ≠ i := fun e he hb heq => by
    have h1 := hall e he hb
    rw [heq, getD_ready hr] at h1
    cases h1
   have h2 := wpOp_putIf hoj (hfree j oj hoj hji hjun hnot) (fun cs b => hsel i oi cs b hi) (fun cs b => hsel j oj cs b hoj) hQ hy h1
   have hfree' : ∀ k ok, ops[k]? = some ok -> k ≠ i -> (listed.setIfInBounds j true).getD k true = false ->
     (∀ e ∈ ok.after, Region.binds md e = true -> e.on ≠ i) -> oi.apart ops ok = true := fun k ok hk hki hun hno => by
    refine hfree k ok hk hki ?_ hno
    by_cases hjk : j = k
    ·subst hjk; exact hjun
    ·rw [getD_set_ne true hjk] at hun; exact hun
   refine wpOp_mono (fun a' w' h3 => ⟨h3.2.1, ih (listed.setIfInBounds j true) a' w' (hsh.set hj) hfree' (ready_mono hr (Ne.symm hji)) h3.1 (h3.2.1 hjz) ?_⟩) h2
   rw [Array.setIfInBounds_comm _ _ hji]
   exact h3.2.2
theorem wpAnyE_take {i f : Nat} {oi : Oper} {v : Value} {fuel : Nat} {listed : Array Bool} {a : Act} {w : World} (hi : ops[i]? = some oi)
  (hs : Region.noSelect ops = true) (hf : Region.free md ops listed i = true) (hr : (Region.ready md ops listed).contains i = true) (hsh : Region.shutB md ops listed = true) (hwz : Region.waitB md ops i (f + 1) z = true)
  (hQ : ∀ c a w, Q (.panic c) (a.put oi.dst v) w -> Q (.panic c) a w) (hy : YieldsIf P ops S oi v a) (hS : S w)
  (h : wpAnyE P md ops Q S z fuel (listed.setIfInBounds i true) (a.put oi.dst v) w) : wpAnyE P md ops Q S z (fuel + 1) listed a w :=
 wpAnyE_first hi (Region.noSelect_spec hs) hQ hwz fuel listed a w (Region.shut_spec hsh) (Region.free_spec hi hf) (by simpa using hr) hy hS h
theorem tE {i f : Nat} {oi : Oper} {v : Value} {fuel : Nat} {listed : Array Bool} {a : Act} {w : World} (hi : ops[i]? = some oi) (hb : (Region.noSelect ops && (Region.free md ops listed i && ((Region.ready md ops listed).contains i && (Region.shutB md ops listed && Region.waitB md ops i (f + 1) z)))) = true) (hy : YieldsIf P ops S oi v a) (hQ : forall c a w, Q (.panic c) (a.put oi.dst v) w -> Q (.panic c) a w) (hS : S w) (h : wpAnyE P md ops Q S z fuel (listed.setIfInBounds i true) (a.put oi.dst v) w) : wpAnyE P md ops Q S z (fuel + 1) listed a w := by
 simp only [Bool.and_eq_true] at hb
 exact wpAnyE_take hi hb.1 hb.2.1 hb.2.2.1 hb.2.2.2.1 hb.2.2.2.2 hQ hy hS h
theorem wpAnyE_step {i fuel : Nat} {o : Oper} {listed : Array Bool} {a : Act} {w : World} (hr : Region.ready md ops listed = [i]) (ho : ops[i]? = some o)
  (h : ∀ K' : Act -> World -> Prop, Shut (∀ a w, (i ≠ z -> S w) -> ((i ≠ z -> S w) -> wpAnyE P md ops Q S z fuel (listed.setIfInBounds i true) a w) -> K' a w) -> if Region.wanted o (yielded ops a.tmps) = true then Oper.wp P o a w K' Q else K' (a.put o.dst undef) w) : wpAnyE P md ops Q S z (fuel + 1) listed a w :=
 ⟨fun h0 => (by rw [h0] at hr; cases hr), fun j hj => by
  rw [hr] at hj
  obtain rfl : j = i := by simpa using hj
  exact wpOp_step ho (fun K' hK => h K' (fun a w hS hW => hK a w ⟨hS, hW hS⟩))⟩
theorem wpAnyE_done {listed : Array Bool} {a : Act} {w : World} (hr : Region.ready md ops listed = []) (h : Q .normal a w) : ∀ fuel, wpAnyE P md ops Q S z fuel listed a w
 | 0 => ⟨hr, h⟩
 | _ + 1 => ⟨fun _ => h, by rw [hr]; simp⟩
theorem wp_region_E {id : Nat} {a : Act} {w : World} (z : Nat) (hm : P.follows .mixedOrders = true) (hS : S w.drew)
  (h : S w.drew -> wpAnyE P .any ops Q S z ops.size (Array.replicate ops.size false) a w.drew) : (Code.region id ops true).wp P Q a w :=
 wp_region_any hm (wpAny_of_E _ _ _ _ (h hS))
end
end Go
