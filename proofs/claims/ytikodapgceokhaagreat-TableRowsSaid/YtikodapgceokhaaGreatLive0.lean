/-
  What live's calls answer, plainly: tables of whole numbers.
-/
import Derived.Test.YtikodapgceokhaaGreatXy
import Derived.Test.YtikodapgceokhaaGreatRen
import Derived.Test.YtikodapgceokhaaGreatJoin
namespace Go.Proofs.YtikodapgceokhaaGreat
open Go.RowKit

theorem ctxI : Ctx okI cfI := ⟨knownI, ⟨fun a ha => ordI.self a ha.1, fun a b ha hb => ordI.zero a b ha.1 hb.1, fun a b ha hb => ordI.anti a b ha.1 hb.1, fun a b c ha hb hc => ordI.trans a b c ha.1 hb.1 hc.1⟩⟩
theorem vI_ok (n : Int) : okI (vI n) := ⟨rfl, rfl, rfl⟩
theorem vI_chk (n : Int) : vcheck (vI n) = 0 := okI_check (vI_ok n)
theorem cfI_vI (a b : Int) : cfI (vI a) (vI b) = Lib.compareInt a b := cfI_eq (vI_ok a) (vI_ok b)
theorem ltXY : ltS nmX nmY = true := by simp [ltS, nmX, nmY, ByteArray.toList_eq, Op.bytesLess]
theorem ltYZ : ltS nmY nmZ = true := by simp [ltS, nmY, nmZ, ByteArray.toList_eq, Op.bytesLess]
theorem neXY : nmX ≠ nmY := fun h => by have := ltXY; rw [h, ltS_irrefl] at this; cases this
theorem neYZ : nmY ≠ nmZ := fun h => by have := ltYZ; rw [h, ltS_irrefl] at this; cases this
theorem neXZ : nmX ≠ nmZ := fun h => by have := ltS_trans ltXY ltYZ; rw [h, ltS_irrefl] at this; cases this
theorem idx_cons_self (x : BA) (l : List BA) : idx (x :: l) x = 0 := by unfold idx; rw [if_pos (beq_self_eq_true _)]
theorem idx_cons_ne {x y : BA} (l : List BA) (h : x ≠ y) (hm : 0 ≤ idx l x) : idx (y :: l) x = idx l x + 1 := by
  conv => lhs; unfold idx
  rw [if_neg (by rw [beq_iff_eq]; exact fun e => h (toList_inj e)), if_neg (by omega)]
theorem rc2 (a b c d : Int) : rcmp cfI [vI a, vI b] [vI c, vI d] = if Lib.compareInt a c = 0 then Lib.compareInt b d else Lib.compareInt a c := by
  simp only [rcmp, cfI_vI]
  by_cases h1 : Lib.compareInt a c = 0
  · rw [if_pos h1, if_pos h1]
    by_cases h2 : Lib.compareInt b d = 0
    · rw [if_pos h2, h2]; rfl
    · rw [if_neg h2]
  · rw [if_neg h1, if_neg h1]
/-- the tables of live -/
abbrev r2 (a b : Int) : Row := [vI a, vI b]
def tA : Tb := ⟨[nmX, nmY], [r2 1 1, r2 1 2, r2 2 1]⟩
def tB : Tb := ⟨[nmY, nmZ], [r2 1 1, r2 1 2, r2 2 1]⟩
def tC : Tb := ⟨[nmX, nmY], [r2 1 2]⟩
def tD : Tb := ⟨[nmX, nmY], [r2 1 1, r2 2 1]⟩
def tE : Tb := ⟨[nmX, nmY], [r2 2 1, r2 1 1]⟩
theorem pairXY : [nmX, nmY].Pairwise fun a b => ltS a b = true := by simp [ltXY]
theorem pairYZ : [nmY, nmZ].Pairwise fun a b => ltS a b = true := by simp [ltYZ]
theorem row2 (a b : Int) : rowCheck 2 (r2 a b) = 0 := by simp [rowCheck, vchecks, vI_chk]
theorem tcheck_of {vars : List BA} (h : vars.Pairwise fun a b => ltS a b = true) (hl : vars.length = 2) {rows : List Row} : tcheck cfI ⟨vars, rows⟩ = rowsCheck cfI 2 none rows := by
  unfold tcheck
  rw [if_neg (by simp [hl]), if_pos (risesB_true (rises_of_pair h)), hl]
theorem tA_chk : tcheck cfI tA = 0 := by
  unfold tA; rw [tcheck_of pairXY rfl]; simp [rowsCheck, row2, rc2, Lib.compareInt]
theorem tB_chk : tcheck cfI tB = 0 := by
  unfold tB; rw [tcheck_of pairYZ rfl]; simp [rowsCheck, row2, rc2, Lib.compareInt]
theorem tC_chk : tcheck cfI tC = 0 := by
  unfold tC; rw [tcheck_of pairXY rfl]; simp [rowsCheck, row2]
theorem tE_chk : tcheck cfI tE = 1 := by
  unfold tE; rw [tcheck_of pairXY rfl]; simp [rowsCheck, row2, rc2, Lib.compareInt]
theorem okRow {l : List Int} {r : Row} (h : r = l.map vI) : ∀ x, x ∈ r → okI x := by
  subst h; intro x hx; obtain ⟨n, _, rfl⟩ := List.mem_map.1 hx; exact vI_ok n
theorem ok_r2 (a b : Int) : ∀ x, x ∈ r2 a b → okI x := okRow (l := [a, b]) rfl
theorem idxXX : idx [nmX, nmY] nmX = 0 := idx_cons_self _ _
theorem idxXY : idx [nmX, nmY] nmY = 1 := by rw [idx_cons_ne _ (fun e => neXY e.symm) (by rw [idx_cons_self]; decide), idx_cons_self]; rfl
theorem idxYY : idx [nmY, nmZ] nmY = 0 := idx_cons_self _ _
theorem idxYZ : idx [nmY, nmZ] nmZ = 1 := by rw [idx_cons_ne _ (fun e => neYZ e.symm) (by rw [idx_cons_self]; decide), idx_cons_self]; rfl
theorem pickXY (a b : Int) : pick [nmX, nmY] (r2 a b) [nmX, nmY] = r2 a b := by simp [pick, idxXX, idxXY]
theorem pickYZ (a b : Int) : pick [nmY, nmZ] (r2 a b) [nmY, nmZ] = r2 a b := by simp [pick, idxYY, idxYZ]
/-- rows that rise already are what is made of them -/
theorem made_same {vars : List BA} (hv : vars.Pairwise fun a b => ltS a b = true) {rows : List Row} (hp : ∀ r, r ∈ rows → pick vars r vars = r) (hr : rows.Pairwise (rlt cfI)) (ho : ∀ r, r ∈ rows → ∀ x, x ∈ r → okI x) : madeT cfI vars rows = ⟨vars, rows⟩ := by
  unfold madeT
  rw [sortS_of_pair hv]
  have : (rows.map fun r => pick vars r vars) = rows := by
    conv => rhs; rw [← List.map_id rows]
    exact List.map_congr_left hp
  rw [this, canon_eq ordI ho hr (fun _ => Iff.rfl)]
theorem up3 : [r2 1 1, r2 1 2, r2 2 1].Pairwise (rlt cfI) := by simp [rlt, rc2, Lib.compareInt]
theorem rename_ab : renameT cfI tA [nmX, nmY] [nmY, nmZ] = (0, tB) := by
  unfold renameT
  have e1 : renL tA.vars tA.vars [nmX, nmY] [nmY, nmZ] = [nmY, nmZ] := by
    simp only [tA, renL, idxXX, idxXY]; rfl
  rw [if_neg (by rw [tA_chk]; simp), if_neg (by simp), if_neg (by
    rintro (h | h)
    · exact h (nodup_of_pair pairXY)
    · exact h (fun x hx => hx)), e1, if_neg (by simp [nodup_of_pair pairYZ])]
  rw [made_same pairYZ (rows := tA.rows) (by simp [tA, pickYZ]) up3 (by simp only [tA, List.mem_cons, List.not_mem_nil, or_false]; rintro r (rfl | rfl | rfl) <;> exact ok_r2 _ _)]
  rfl
theorem hasS_true {l : List BA} {x : BA} (h : x ∈ l) : hasS l x = true := by unfold hasS; simp [h]
theorem hasS_false {l : List BA} {x : BA} (h : x ∉ l) : hasS l x = false := by unfold hasS; simp [h]
theorem shared_ab : sharedL [nmX, nmY] [nmY, nmZ] = [nmY] := by
  simp [sharedL, hasS_true (l := [nmY, nmZ]) (x := nmY) (by simp), hasS_false (l := [nmY, nmZ]) (x := nmX) (by simp [neXY, neXZ])]
theorem left_ba : leftL [nmY, nmZ] [nmX, nmY] = [nmZ] := by
  simp [leftL, hasS_true (l := [nmX, nmY]) (x := nmY) (by simp), hasS_false (l := [nmX, nmY]) (x := nmZ) (by simp [neXZ.symm, neYZ.symm])]
theorem vI_inj {a b : Int} (h : vI a = vI b) : a = b := congrArg V.n h
abbrev r3 (a b c : Int) : Row := [vI a, vI b, vI c]
theorem join_rows : joinRows tA tB = [r3 1 1 1, r3 1 1 2, r3 1 2 1, r3 2 1 1, r3 2 1 2] := by
  have h1 : ∀ a b : Int, pick [nmY, nmZ] (r2 a b) [nmY] = [vI a] := fun a b => by simp [pick, idxYY]
  have h2 : ∀ a b : Int, pick [nmX, nmY] (r2 a b) [nmY] = [vI b] := fun a b => by simp [pick, idxXY]
  have h3 : ∀ a b : Int, pick [nmY, nmZ] (r2 a b) [nmZ] = [vI b] := fun a b => by simp [pick, idxYZ]
  have n12 : vI 1 ≠ vI 2 := fun h => by have := vI_inj h; omega
  have n21 : vI 2 ≠ vI 1 := fun h => by have := vI_inj h; omega
  simp [joinRows, fitRows, tA, tB, shared_ab, left_ba, h1, h2, h3, n12, n21]
theorem join_ab : ∃ T, joinT cfI tA tB = (0, T) ∧ T.rows.length = 5 ∧ T.vars.length = 3 := by
  have hb : bothE cfI tA tB = 0 := by unfold bothE; rw [if_pos tA_chk, tB_chk]
  have hv : tA.vars ++ leftL tB.vars tA.vars = [nmX, nmY, nmZ] := by simp [tA, tB, left_ba]
  have hpr : [nmX, nmY, nmZ].Pairwise fun a b => ltS a b = true := by simp [ltXY, ltYZ, ltS_trans ltXY ltYZ]
  have i1 : idx [nmX, nmY, nmZ] nmX = 0 := idx_cons_self _ _
  have i2 : idx [nmX, nmY, nmZ] nmY = 1 := by rw [idx_cons_ne _ (fun e => neXY e.symm) (by rw [idx_cons_self]; decide), idx_cons_self]; rfl
  have i3 : idx [nmX, nmY, nmZ] nmZ = 2 := by rw [idx_cons_ne _ (fun e => neXZ e.symm) (by rw [idxYZ]; decide), idxYZ]; rfl
  have hp : ∀ a b c : Int, pick [nmX, nmY, nmZ] (r3 a b c) [nmX, nmY, nmZ] = r3 a b c := fun a b c => by simp [pick, i1, i2, i3]
  have hup : [r3 1 1 1, r3 1 1 2, r3 1 2 1, r3 2 1 1, r3 2 1 2].Pairwise (rlt cfI) := by simp [rlt, rcmp, cfI_vI, Lib.compareInt]
  have ho : ∀ r, r ∈ [r3 1 1 1, r3 1 1 2, r3 1 2 1, r3 2 1 1, r3 2 1 2] → ∀ x, x ∈ r → okI x := by
    simp only [List.mem_cons, List.not_mem_nil, or_false]
    rintro r (rfl | rfl | rfl | rfl | rfl) <;> exact okRow (l := [_, _, _]) rfl
  refine ⟨⟨[nmX, nmY, nmZ], [r3 1 1 1, r3 1 1 2, r3 1 2 1, r3 2 1 1, r3 2 1 2]⟩, ?_, rfl, rfl⟩
  unfold joinT
  rw [if_neg (by simp [hb]), hv, if_neg (by simp), join_rows, made_same hpr (by simp [hp]) hup ho]
theorem anti_ac : antiT cfI tA tC = (0, tD) := by
  have hb : bothE cfI tA tC = 0 := by unfold bothE; rw [if_pos tA_chk, tC_chk]
  have hs : sharedL [nmX, nmY] [nmX, nmY] = [nmX, nmY] := by
    simp [sharedL, hasS_true (l := [nmX, nmY]) (x := nmY) (by simp), hasS_true (l := [nmX, nmY]) (x := nmX) (by simp)]
  have n12 : vI 1 ≠ vI 2 := fun h => by have := vI_inj h; omega
  have n21 : vI 2 ≠ vI 1 := fun h => by have := vI_inj h; omega
  have hr : antiRows tA tC = [r2 1 1, r2 2 1] := by
    simp [antiRows, tA, tC, hs, pickXY, n12, n21]
  unfold antiT
  rw [if_neg (by simp [hb]), hr]
  have : tA.vars = [nmX, nmY] := rfl
  rw [this, made_same pairXY (by simp [pickXY]) (by simp [rlt, rc2, Lib.compareInt]) (by simp only [List.mem_cons, List.not_mem_nil, or_false]; rintro r (rfl | rfl) <;> exact ok_r2 _ _)]
  rfl
theorem project_none : projectT cfI tA [] = (0, tTrue) := by
  unfold projectT
  rw [if_neg (by simp [tA_chk]), if_neg (by simp)]
  have : madeT cfI [] (tA.rows.map fun r => pick tA.vars r []) = tTrue := by
    unfold madeT
    rw [sortS_of_pair List.Pairwise.nil, canon_eq (m := [[]]) ordI (fun r hr x hx => by obtain ⟨r0, _, rfl⟩ := List.mem_map.1 hr; simp [pick] at hx) (by simp) (by simp [tA, pick])]
    rfl
  rw [this]
theorem of_xx : (ofT cfI [nmX, nmX] []).1 = 30 := by
  unfold ofT
  rw [if_pos (.inr (by simp))]
theorem has_a : hasB tA.rows (r2 2 1) = true := by unfold hasB; simp [tA]
end Go.Proofs.YtikodapgceokhaaGreat
