/-
  No cell of these rows narrows 'for every input' (looked for: loops, veiled, ifaces, maps, wideKeys, modest, calm, conditions, laid).
  DERIVED. THE GIVEN ROWS OF THIS SEAT. 11 by the template 'for every input the law returns true; each argument reads behind the call as it read before'; 0 by the template 'total and deterministic' (their statements: YtbejmdlncnkaaaaGreatTotals.lean).
  GIVEN WITH THE SEED: the statements are not yours to turn. If you find one false, say at which input.
  Laid BY PROGRAM, IN A SANDBOX (cutbox-rows.mjs): the forced cells as the released guide's own fill.sh prints them over the translation df4bb48d01e02d0b… (all of the seat's roots in one cut). By AI agents, Wed Nov 11 2026. No macro, syntax, notation, axiom, sorry.
-/
import Derived.Test.YtbejmdlncnkaaaaGreatChecked
import GoSem.Claim
import GoSem.ClaimJoined
import GoSem.ClaimMapViews
import Derived.JoinedTies
import Derived.KernelRfl
namespace Go.Proofs.YtbejmdlncnkaaaaGreat
/- THE CELL 'sum', in the pinned program and in every row, IS THE sha256 OF THE DUMP (.gsa) THAT YtbejmdlncnkaaaaGreatProg.lean LOADS. Nothing in Lean hashes anything: it is a label: what it is worth is what the hold of that sum in a sandbox is worth. -/
noncomputable def Tryz.pinned : Pinned := { name := "ytbejmdlncnkaaaagreat", sum := "df4bb48d01e02d0bb9077c91ad98f6aa46deeb7dd3625a1bbe38b9e2d8696565", checked := Tryz.checked }
namespace Rows
def none {H : Type} : Left H := { results := [], args := [] }

/-- 'custoslaw13.PastPrev': WHATEVER THE INPUT: true; the input reads as it did. -/
def pastPrevSpec : ChangeSpec := { name := "pastPrev", fn := fun _ => fun
  | [d1, d2, d3] => { results := [.lit (.bool true)], args := [d1, d2, d3] }
  | _ => none }
def pastPrevRow : OpenClaim := { program := "ytbejmdlncnkaaaagreat", sum := "df4bb48d01e02d0bb9077c91ad98f6aa46deeb7dd3625a1bbe38b9e2d8696565", func := "custos/custoslaw13.PastPrev", spec := "pastPrev", inPlace := ["math/bits.Add64", "math/bits.Sub64", "internal/bytealg.abigen_runtime_cmpstring"], unfollowed := true, recurses := true, apart := false }
def PastPrevSaid : Prop := pastPrevRow.holds Tryz.pinned (OpenSpec.ofChange pastPrevSpec)

/-- ITS FALSE NEIGHBOUR: 'it returns false'. Refute it at one input. -/
def pastPrevWrong : ChangeSpec := { name := "pastPrev", fn := fun _ => fun
  | [d1, d2, d3] => { results := [.lit (.bool false)], args := [d1, d2, d3] }
  | _ => none }
def PastPrevWrongFalsely : Prop := pastPrevRow.holds Tryz.pinned (OpenSpec.ofChange pastPrevWrong)

/-- 'custoslaw13.PastOnce': WHATEVER THE INPUT: true; the input reads as it did. -/
def pastOnceSpec : ChangeSpec := { name := "pastOnce", fn := fun _ => fun
  | [d1, d2, d3] => { results := [.lit (.bool true)], args := [d1, d2, d3] }
  | _ => none }
def pastOnceRow : OpenClaim := { program := "ytbejmdlncnkaaaagreat", sum := "df4bb48d01e02d0bb9077c91ad98f6aa46deeb7dd3625a1bbe38b9e2d8696565", func := "custos/custoslaw13.PastOnce", spec := "pastOnce", inPlace := ["math/bits.Add64", "math/bits.Sub64", "internal/bytealg.abigen_runtime_cmpstring"], unfollowed := true, recurses := true, apart := false }
def PastOnceSaid : Prop := pastOnceRow.holds Tryz.pinned (OpenSpec.ofChange pastOnceSpec)

/-- ITS FALSE NEIGHBOUR: 'it returns false'. Refute it at one input. -/
def pastOnceWrong : ChangeSpec := { name := "pastOnce", fn := fun _ => fun
  | [d1, d2, d3] => { results := [.lit (.bool false)], args := [d1, d2, d3] }
  | _ => none }
def PastOnceWrongFalsely : Prop := pastOnceRow.holds Tryz.pinned (OpenSpec.ofChange pastOnceWrong)

/-- 'custoslaw13.PastGrows': WHATEVER THE INPUT: true; the input reads as it did. -/
def pastGrowsSpec : ChangeSpec := { name := "pastGrows", fn := fun _ => fun
  | [d1, d2, d3, d4] => { results := [.lit (.bool true)], args := [d1, d2, d3, d4] }
  | _ => none }
def pastGrowsRow : OpenClaim := { program := "ytbejmdlncnkaaaagreat", sum := "df4bb48d01e02d0bb9077c91ad98f6aa46deeb7dd3625a1bbe38b9e2d8696565", func := "custos/custoslaw13.PastGrows", spec := "pastGrows", inPlace := ["math/bits.Add64", "math/bits.Sub64", "internal/bytealg.abigen_runtime_cmpstring"], unfollowed := true, recurses := true, apart := false }
def PastGrowsSaid : Prop := pastGrowsRow.holds Tryz.pinned (OpenSpec.ofChange pastGrowsSpec)

/-- ITS FALSE NEIGHBOUR: 'it returns false'. Refute it at one input. -/
def pastGrowsWrong : ChangeSpec := { name := "pastGrows", fn := fun _ => fun
  | [d1, d2, d3, d4] => { results := [.lit (.bool false)], args := [d1, d2, d3, d4] }
  | _ => none }
def PastGrowsWrongFalsely : Prop := pastGrowsRow.holds Tryz.pinned (OpenSpec.ofChange pastGrowsWrong)

/-- 'custoslaw13.PastSteps': WHATEVER THE INPUT: true; the input reads as it did. -/
def pastStepsSpec : ChangeSpec := { name := "pastSteps", fn := fun _ => fun
  | [d1, d2] => { results := [.lit (.bool true)], args := [d1, d2] }
  | _ => none }
def pastStepsRow : OpenClaim := { program := "ytbejmdlncnkaaaagreat", sum := "df4bb48d01e02d0bb9077c91ad98f6aa46deeb7dd3625a1bbe38b9e2d8696565", func := "custos/custoslaw13.PastSteps", spec := "pastSteps", inPlace := ["math/bits.Add64", "math/bits.Sub64", "internal/bytealg.abigen_runtime_cmpstring"], unfollowed := true, recurses := true, apart := false }
def PastStepsSaid : Prop := pastStepsRow.holds Tryz.pinned (OpenSpec.ofChange pastStepsSpec)

/-- ITS FALSE NEIGHBOUR: 'it returns false'. Refute it at one input. -/
def pastStepsWrong : ChangeSpec := { name := "pastSteps", fn := fun _ => fun
  | [d1, d2] => { results := [.lit (.bool false)], args := [d1, d2] }
  | _ => none }
def PastStepsWrongFalsely : Prop := pastStepsRow.holds Tryz.pinned (OpenSpec.ofChange pastStepsWrong)

/-- 'custoslaw14.FutureSoon': WHATEVER THE INPUT: true; the input reads as it did. -/
def futureSoonSpec : ChangeSpec := { name := "futureSoon", fn := fun _ => fun
  | [d1, d2, d3] => { results := [.lit (.bool true)], args := [d1, d2, d3] }
  | _ => none }
def futureSoonRow : OpenClaim := { program := "ytbejmdlncnkaaaagreat", sum := "df4bb48d01e02d0bb9077c91ad98f6aa46deeb7dd3625a1bbe38b9e2d8696565", func := "custos/custoslaw14.FutureSoon", spec := "futureSoon", inPlace := ["math/bits.Add64", "math/bits.Sub64", "internal/bytealg.abigen_runtime_cmpstring"], unfollowed := true, recurses := true, apart := false }
def FutureSoonSaid : Prop := futureSoonRow.holds Tryz.pinned (OpenSpec.ofChange futureSoonSpec)

/-- ITS FALSE NEIGHBOUR: 'it returns false'. Refute it at one input. -/
def futureSoonWrong : ChangeSpec := { name := "futureSoon", fn := fun _ => fun
  | [d1, d2, d3] => { results := [.lit (.bool false)], args := [d1, d2, d3] }
  | _ => none }
def FutureSoonWrongFalsely : Prop := futureSoonRow.holds Tryz.pinned (OpenSpec.ofChange futureSoonWrong)

/-- 'custoslaw14.FutureOrder': WHATEVER THE INPUT: true; the input reads as it did. -/
def futureOrderSpec : ChangeSpec := { name := "futureOrder", fn := fun _ => fun
  | [d1, d2] => { results := [.lit (.bool true)], args := [d1, d2] }
  | _ => none }
def futureOrderRow : OpenClaim := { program := "ytbejmdlncnkaaaagreat", sum := "df4bb48d01e02d0bb9077c91ad98f6aa46deeb7dd3625a1bbe38b9e2d8696565", func := "custos/custoslaw14.FutureOrder", spec := "futureOrder", inPlace := ["math/bits.Add64", "math/bits.Sub64", "internal/bytealg.abigen_runtime_cmpstring"], unfollowed := true, recurses := true, apart := false }
def FutureOrderSaid : Prop := futureOrderRow.holds Tryz.pinned (OpenSpec.ofChange futureOrderSpec)

/-- ITS FALSE NEIGHBOUR: 'it returns false'. Refute it at one input. -/
def futureOrderWrong : ChangeSpec := { name := "futureOrder", fn := fun _ => fun
  | [d1, d2] => { results := [.lit (.bool false)], args := [d1, d2] }
  | _ => none }
def FutureOrderWrongFalsely : Prop := futureOrderRow.holds Tryz.pinned (OpenSpec.ofChange futureOrderWrong)

/-- 'custoslaw14.FutureSteps': WHATEVER THE INPUT: true; the input reads as it did. -/
def futureStepsSpec : ChangeSpec := { name := "futureSteps", fn := fun _ => fun
  | [d1, d2] => { results := [.lit (.bool true)], args := [d1, d2] }
  | _ => none }
def futureStepsRow : OpenClaim := { program := "ytbejmdlncnkaaaagreat", sum := "df4bb48d01e02d0bb9077c91ad98f6aa46deeb7dd3625a1bbe38b9e2d8696565", func := "custos/custoslaw14.FutureSteps", spec := "futureSteps", inPlace := ["math/bits.Add64", "math/bits.Sub64", "internal/bytealg.abigen_runtime_cmpstring"], unfollowed := true, recurses := true, apart := false }
def FutureStepsSaid : Prop := futureStepsRow.holds Tryz.pinned (OpenSpec.ofChange futureStepsSpec)

/-- ITS FALSE NEIGHBOUR: 'it returns false'. Refute it at one input. -/
def futureStepsWrong : ChangeSpec := { name := "futureSteps", fn := fun _ => fun
  | [d1, d2] => { results := [.lit (.bool false)], args := [d1, d2] }
  | _ => none }
def FutureStepsWrongFalsely : Prop := futureStepsRow.holds Tryz.pinned (OpenSpec.ofChange futureStepsWrong)

/-- 'custoslaw04.MjoinNumbers': WHATEVER THE INPUT: true; the input reads as it did. -/
def mjoinNumbersSpec : ChangeSpec := { name := "mjoinNumbers", fn := fun _ => fun
  | [] => { results := [.lit (.bool true)], args := [] }
  | _ => none }
def mjoinNumbersRow : OpenClaim := { program := "ytbejmdlncnkaaaagreat", sum := "df4bb48d01e02d0bb9077c91ad98f6aa46deeb7dd3625a1bbe38b9e2d8696565", func := "custos/custoslaw04.MjoinNumbers", spec := "mjoinNumbers", inPlace := ["math/bits.Add64", "math/bits.Sub64", "internal/bytealg.abigen_runtime_cmpstring"], unfollowed := true, recurses := true, apart := false }
def MjoinNumbersSaid : Prop := mjoinNumbersRow.holds Tryz.pinned (OpenSpec.ofChange mjoinNumbersSpec)

/-- ITS FALSE NEIGHBOUR: 'it returns false'. Refute it at one input. -/
def mjoinNumbersWrong : ChangeSpec := { name := "mjoinNumbers", fn := fun _ => fun
  | [] => { results := [.lit (.bool false)], args := [] }
  | _ => none }
def MjoinNumbersWrongFalsely : Prop := mjoinNumbersRow.holds Tryz.pinned (OpenSpec.ofChange mjoinNumbersWrong)

/-- 'custoslaw04.MjoinJoins': WHATEVER THE INPUT: true; the input reads as it did. -/
def mjoinJoinsSpec : ChangeSpec := { name := "mjoinJoins", fn := fun _ => fun
  | [d1, d2] => { results := [.lit (.bool true)], args := [d1, d2] }
  | _ => none }
def mjoinJoinsRow : OpenClaim := { program := "ytbejmdlncnkaaaagreat", sum := "df4bb48d01e02d0bb9077c91ad98f6aa46deeb7dd3625a1bbe38b9e2d8696565", func := "custos/custoslaw04.MjoinJoins", spec := "mjoinJoins", inPlace := ["math/bits.Add64", "math/bits.Sub64", "internal/bytealg.abigen_runtime_cmpstring"], unfollowed := true, recurses := true, apart := false }
def MjoinJoinsSaid : Prop := mjoinJoinsRow.holds Tryz.pinned (OpenSpec.ofChange mjoinJoinsSpec)

/-- ITS FALSE NEIGHBOUR: 'it returns false'. Refute it at one input. -/
def mjoinJoinsWrong : ChangeSpec := { name := "mjoinJoins", fn := fun _ => fun
  | [d1, d2] => { results := [.lit (.bool false)], args := [d1, d2] }
  | _ => none }
def MjoinJoinsWrongFalsely : Prop := mjoinJoinsRow.holds Tryz.pinned (OpenSpec.ofChange mjoinJoinsWrong)

/-- 'custoslaw04.MjoinFewer': WHATEVER THE INPUT: true; the input reads as it did. -/
def mjoinFewerSpec : ChangeSpec := { name := "mjoinFewer", fn := fun _ => fun
  | [d1, d2, d3] => { results := [.lit (.bool true)], args := [d1, d2, d3] }
  | _ => none }
def mjoinFewerRow : OpenClaim := { program := "ytbejmdlncnkaaaagreat", sum := "df4bb48d01e02d0bb9077c91ad98f6aa46deeb7dd3625a1bbe38b9e2d8696565", func := "custos/custoslaw04.MjoinFewer", spec := "mjoinFewer", inPlace := ["math/bits.Add64", "math/bits.Sub64", "internal/bytealg.abigen_runtime_cmpstring"], unfollowed := true, recurses := true, apart := false }
def MjoinFewerSaid : Prop := mjoinFewerRow.holds Tryz.pinned (OpenSpec.ofChange mjoinFewerSpec)

/-- ITS FALSE NEIGHBOUR: 'it returns false'. Refute it at one input. -/
def mjoinFewerWrong : ChangeSpec := { name := "mjoinFewer", fn := fun _ => fun
  | [d1, d2, d3] => { results := [.lit (.bool false)], args := [d1, d2, d3] }
  | _ => none }
def MjoinFewerWrongFalsely : Prop := mjoinFewerRow.holds Tryz.pinned (OpenSpec.ofChange mjoinFewerWrong)

/-- 'custoslaw04.MjoinFolds': WHATEVER THE INPUT: true; the input reads as it did. -/
def mjoinFoldsSpec : ChangeSpec := { name := "mjoinFolds", fn := fun _ => fun
  | [d1, d2] => { results := [.lit (.bool true)], args := [d1, d2] }
  | _ => none }
def mjoinFoldsRow : OpenClaim := { program := "ytbejmdlncnkaaaagreat", sum := "df4bb48d01e02d0bb9077c91ad98f6aa46deeb7dd3625a1bbe38b9e2d8696565", func := "custos/custoslaw04.MjoinFolds", spec := "mjoinFolds", inPlace := ["math/bits.Add64", "math/bits.Sub64", "internal/bytealg.abigen_runtime_cmpstring"], unfollowed := true, recurses := true, apart := false }
def MjoinFoldsSaid : Prop := mjoinFoldsRow.holds Tryz.pinned (OpenSpec.ofChange mjoinFoldsSpec)

/-- ITS FALSE NEIGHBOUR: 'it returns false'. Refute it at one input. -/
def mjoinFoldsWrong : ChangeSpec := { name := "mjoinFolds", fn := fun _ => fun
  | [d1, d2] => { results := [.lit (.bool false)], args := [d1, d2] }
  | _ => none }
def MjoinFoldsWrongFalsely : Prop := mjoinFoldsRow.holds Tryz.pinned (OpenSpec.ofChange mjoinFoldsWrong)

/- THE SECOND FORM. 'bulk': how many values and letters a reading holds, each counted each time it is reached (what is shared counts as often as it is met; a slice's spare places count too). A statement '..UptoSaid' is the law's where the arguments, and the package variables that the reading takes, are together of bulk at most 1048576: NARROWER than '..Said'. Prove '..Said' where nothing that the law and all that it calls make is longer than what came in: it says more and counts as full. Else prove '..UptoSaid'. A law counts once. -/
mutual
def uptoBulk {H : Type} : DataW H → Nat
  | .lit (.string bytes) => bytes.length + 1
  | .lit _ => 1
  | .nil => 1
  | .ptr d => uptoBulk d + 1
  | .slice elems spare => uptoBulkAll elems + uptoBulkAll spare + 1
  | .agg parts => uptoBulkAll parts + 1
  | .iface _ d => uptoBulk d + 1
  | .map entries => uptoBulkEntries entries + 1
  | .held _ => 1
def uptoBulkAll {H : Type} : List (DataW H) → Nat
  | [] => 0
  | d :: r => uptoBulk d + uptoBulkAll r
def uptoBulkEntries {H : Type} : List (Lit × DataW H) → Nat
  | [] => 0
  | x :: r => uptoBulkEntry x + uptoBulkEntries r
def uptoBulkEntry {H : Type} : Lit × DataW H → Nat
  | (.string bytes, d) => bytes.length + uptoBulk d + 1
  | (_, d) => uptoBulk d + 1
 end
def uptoSmall : (H : Type) → List (DataW H) → Bool := fun _ ds => decide (uptoBulkAll ds ≤ 1048576)
def OpenSpec.upto (s : _root_.Go.ChangeSpec) : _root_.Go.OpenSpec := { _root_.Go.OpenSpec.ofChange s with cond := some uptoSmall }

/-- 'custoslaw13.PastPrev', WHERE WHAT IT READS IS OF BULK AT MOST 1048576: true; the input reads as it did. -/
def pastPrevUptoRow : OpenClaim := { program := "ytbejmdlncnkaaaagreat", sum := "df4bb48d01e02d0bb9077c91ad98f6aa46deeb7dd3625a1bbe38b9e2d8696565", func := "custos/custoslaw13.PastPrev", spec := "pastPrev", inPlace := ["math/bits.Add64", "math/bits.Sub64", "internal/bytealg.abigen_runtime_cmpstring"], unfollowed := true, recurses := true, apart := false, narrowed := true }
def PastPrevUptoSaid : Prop := pastPrevUptoRow.holds Tryz.pinned (OpenSpec.upto pastPrevSpec)

/-- 'custoslaw13.PastOnce', WHERE WHAT IT READS IS OF BULK AT MOST 1048576: true; the input reads as it did. -/
def pastOnceUptoRow : OpenClaim := { program := "ytbejmdlncnkaaaagreat", sum := "df4bb48d01e02d0bb9077c91ad98f6aa46deeb7dd3625a1bbe38b9e2d8696565", func := "custos/custoslaw13.PastOnce", spec := "pastOnce", inPlace := ["math/bits.Add64", "math/bits.Sub64", "internal/bytealg.abigen_runtime_cmpstring"], unfollowed := true, recurses := true, apart := false, narrowed := true }
def PastOnceUptoSaid : Prop := pastOnceUptoRow.holds Tryz.pinned (OpenSpec.upto pastOnceSpec)

/-- 'custoslaw13.PastGrows', WHERE WHAT IT READS IS OF BULK AT MOST 1048576: true; the input reads as it did. -/
def pastGrowsUptoRow : OpenClaim := { program := "ytbejmdlncnkaaaagreat", sum := "df4bb48d01e02d0bb9077c91ad98f6aa46deeb7dd3625a1bbe38b9e2d8696565", func := "custos/custoslaw13.PastGrows", spec := "pastGrows", inPlace := ["math/bits.Add64", "math/bits.Sub64", "internal/bytealg.abigen_runtime_cmpstring"], unfollowed := true, recurses := true, apart := false, narrowed := true }
def PastGrowsUptoSaid : Prop := pastGrowsUptoRow.holds Tryz.pinned (OpenSpec.upto pastGrowsSpec)

/-- 'custoslaw13.PastSteps', WHERE WHAT IT READS IS OF BULK AT MOST 1048576: true; the input reads as it did. -/
def pastStepsUptoRow : OpenClaim := { program := "ytbejmdlncnkaaaagreat", sum := "df4bb48d01e02d0bb9077c91ad98f6aa46deeb7dd3625a1bbe38b9e2d8696565", func := "custos/custoslaw13.PastSteps", spec := "pastSteps", inPlace := ["math/bits.Add64", "math/bits.Sub64", "internal/bytealg.abigen_runtime_cmpstring"], unfollowed := true, recurses := true, apart := false, narrowed := true }
def PastStepsUptoSaid : Prop := pastStepsUptoRow.holds Tryz.pinned (OpenSpec.upto pastStepsSpec)

/-- 'custoslaw14.FutureSoon', WHERE WHAT IT READS IS OF BULK AT MOST 1048576: true; the input reads as it did. -/
def futureSoonUptoRow : OpenClaim := { program := "ytbejmdlncnkaaaagreat", sum := "df4bb48d01e02d0bb9077c91ad98f6aa46deeb7dd3625a1bbe38b9e2d8696565", func := "custos/custoslaw14.FutureSoon", spec := "futureSoon", inPlace := ["math/bits.Add64", "math/bits.Sub64", "internal/bytealg.abigen_runtime_cmpstring"], unfollowed := true, recurses := true, apart := false, narrowed := true }
def FutureSoonUptoSaid : Prop := futureSoonUptoRow.holds Tryz.pinned (OpenSpec.upto futureSoonSpec)

/-- 'custoslaw14.FutureOrder', WHERE WHAT IT READS IS OF BULK AT MOST 1048576: true; the input reads as it did. -/
def futureOrderUptoRow : OpenClaim := { program := "ytbejmdlncnkaaaagreat", sum := "df4bb48d01e02d0bb9077c91ad98f6aa46deeb7dd3625a1bbe38b9e2d8696565", func := "custos/custoslaw14.FutureOrder", spec := "futureOrder", inPlace := ["math/bits.Add64", "math/bits.Sub64", "internal/bytealg.abigen_runtime_cmpstring"], unfollowed := true, recurses := true, apart := false, narrowed := true }
def FutureOrderUptoSaid : Prop := futureOrderUptoRow.holds Tryz.pinned (OpenSpec.upto futureOrderSpec)

/-- 'custoslaw14.FutureSteps', WHERE WHAT IT READS IS OF BULK AT MOST 1048576: true; the input reads as it did. -/
def futureStepsUptoRow : OpenClaim := { program := "ytbejmdlncnkaaaagreat", sum := "df4bb48d01e02d0bb9077c91ad98f6aa46deeb7dd3625a1bbe38b9e2d8696565", func := "custos/custoslaw14.FutureSteps", spec := "futureSteps", inPlace := ["math/bits.Add64", "math/bits.Sub64", "internal/bytealg.abigen_runtime_cmpstring"], unfollowed := true, recurses := true, apart := false, narrowed := true }
def FutureStepsUptoSaid : Prop := futureStepsUptoRow.holds Tryz.pinned (OpenSpec.upto futureStepsSpec)

/-- 'custoslaw04.MjoinNumbers', WHERE WHAT IT READS IS OF BULK AT MOST 1048576: true; the input reads as it did. -/
def mjoinNumbersUptoRow : OpenClaim := { program := "ytbejmdlncnkaaaagreat", sum := "df4bb48d01e02d0bb9077c91ad98f6aa46deeb7dd3625a1bbe38b9e2d8696565", func := "custos/custoslaw04.MjoinNumbers", spec := "mjoinNumbers", inPlace := ["math/bits.Add64", "math/bits.Sub64", "internal/bytealg.abigen_runtime_cmpstring"], unfollowed := true, recurses := true, apart := false, narrowed := true }
def MjoinNumbersUptoSaid : Prop := mjoinNumbersUptoRow.holds Tryz.pinned (OpenSpec.upto mjoinNumbersSpec)

/-- 'custoslaw04.MjoinJoins', WHERE WHAT IT READS IS OF BULK AT MOST 1048576: true; the input reads as it did. -/
def mjoinJoinsUptoRow : OpenClaim := { program := "ytbejmdlncnkaaaagreat", sum := "df4bb48d01e02d0bb9077c91ad98f6aa46deeb7dd3625a1bbe38b9e2d8696565", func := "custos/custoslaw04.MjoinJoins", spec := "mjoinJoins", inPlace := ["math/bits.Add64", "math/bits.Sub64", "internal/bytealg.abigen_runtime_cmpstring"], unfollowed := true, recurses := true, apart := false, narrowed := true }
def MjoinJoinsUptoSaid : Prop := mjoinJoinsUptoRow.holds Tryz.pinned (OpenSpec.upto mjoinJoinsSpec)

/-- 'custoslaw04.MjoinFewer', WHERE WHAT IT READS IS OF BULK AT MOST 1048576: true; the input reads as it did. -/
def mjoinFewerUptoRow : OpenClaim := { program := "ytbejmdlncnkaaaagreat", sum := "df4bb48d01e02d0bb9077c91ad98f6aa46deeb7dd3625a1bbe38b9e2d8696565", func := "custos/custoslaw04.MjoinFewer", spec := "mjoinFewer", inPlace := ["math/bits.Add64", "math/bits.Sub64", "internal/bytealg.abigen_runtime_cmpstring"], unfollowed := true, recurses := true, apart := false, narrowed := true }
def MjoinFewerUptoSaid : Prop := mjoinFewerUptoRow.holds Tryz.pinned (OpenSpec.upto mjoinFewerSpec)

/-- 'custoslaw04.MjoinFolds', WHERE WHAT IT READS IS OF BULK AT MOST 1048576: true; the input reads as it did. -/
def mjoinFoldsUptoRow : OpenClaim := { program := "ytbejmdlncnkaaaagreat", sum := "df4bb48d01e02d0bb9077c91ad98f6aa46deeb7dd3625a1bbe38b9e2d8696565", func := "custos/custoslaw04.MjoinFolds", spec := "mjoinFolds", inPlace := ["math/bits.Add64", "math/bits.Sub64", "internal/bytealg.abigen_runtime_cmpstring"], unfollowed := true, recurses := true, apart := false, narrowed := true }
def MjoinFoldsUptoSaid : Prop := mjoinFoldsUptoRow.holds Tryz.pinned (OpenSpec.upto mjoinFoldsSpec)

end Rows
end Go.Proofs.YtbejmdlncnkaaaaGreat
