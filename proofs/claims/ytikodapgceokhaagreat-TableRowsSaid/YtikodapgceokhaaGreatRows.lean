/-
  No cell of these rows narrows 'for every input' (looked for: loops, veiled, ifaces, maps, wideKeys, modest, calm, conditions, laid).
  DERIVED. THE GIVEN ROWS OF THIS SEAT. 11 by the template 'for every input the law returns true; each argument reads behind the call as it read before'; 0 by the template 'total and deterministic' (their statements: YtikodapgceokhaaGreatTotals.lean).
  GIVEN WITH THE SEED: the statements are not yours to turn. If you find one false, say at which input.
  Laid BY PROGRAM, IN A SANDBOX (cutbox-rows.mjs): the forced cells as the released guide's own fill.sh prints them over the translation 500867969b5b9381… (all of the seat's roots in one cut). By AI agents, Wed Nov 11 2026. No macro, syntax, notation, axiom, sorry.
-/
import Derived.Test.YtikodapgceokhaaGreatChecked
import GoSem.Claim
import GoSem.ClaimJoined
import GoSem.ClaimMapViews
import Derived.JoinedTies
import Derived.KernelRfl
namespace Go.Proofs.YtikodapgceokhaaGreat
/- THE CELL 'sum', in the pinned program and in every row, IS THE sha256 OF THE DUMP (.gsa) THAT YtikodapgceokhaaGreatProg.lean LOADS. Nothing in Lean hashes anything: it is a label: what it is worth is what the hold of that sum in a sandbox is worth. -/
noncomputable def Tryz.pinned : Pinned := { name := "ytikodapgceokhaagreat", sum := "500867969b5b9381e36c4ed838379fffca568cee8ebb736cab7a26245b91647a", checked := Tryz.checked }
namespace Rows
def none {H : Type} : Left H := { results := [], args := [] }

/-- 'custoslaw03.TableChecks': WHATEVER THE INPUT: true; the input reads as it did. -/
def tableChecksSpec : ChangeSpec := { name := "tableChecks", fn := fun _ => fun
  | [d] => { results := [.lit (.bool true)], args := [d] }
  | _ => none }
def tableChecksRow : OpenClaim := { program := "ytikodapgceokhaagreat", sum := "500867969b5b9381e36c4ed838379fffca568cee8ebb736cab7a26245b91647a", func := "custos/custoslaw03.TableChecks", spec := "tableChecks", inPlace := ["math/bits.Add64", "math/bits.Sub64", "internal/bytealg.abigen_runtime_cmpstring"], unfollowed := true, recurses := true, apart := false }
def TableChecksSaid : Prop := tableChecksRow.holds Tryz.pinned (OpenSpec.ofChange tableChecksSpec)

/-- ITS FALSE NEIGHBOUR: 'it returns false'. Refute it at one input. -/
def tableChecksWrong : ChangeSpec := { name := "tableChecks", fn := fun _ => fun
  | [d] => { results := [.lit (.bool false)], args := [d] }
  | _ => none }
def TableChecksWrongFalsely : Prop := tableChecksRow.holds Tryz.pinned (OpenSpec.ofChange tableChecksWrong)

/-- 'custoslaw03.TableAsks': WHATEVER THE INPUT: true; the input reads as it did. -/
def tableAsksSpec : ChangeSpec := { name := "tableAsks", fn := fun _ => fun
  | [d1, d2, d3] => { results := [.lit (.bool true)], args := [d1, d2, d3] }
  | _ => none }
def tableAsksRow : OpenClaim := { program := "ytikodapgceokhaagreat", sum := "500867969b5b9381e36c4ed838379fffca568cee8ebb736cab7a26245b91647a", func := "custos/custoslaw03.TableAsks", spec := "tableAsks", inPlace := ["math/bits.Add64", "math/bits.Sub64", "internal/bytealg.abigen_runtime_cmpstring"], unfollowed := true, recurses := true, apart := false }
def TableAsksSaid : Prop := tableAsksRow.holds Tryz.pinned (OpenSpec.ofChange tableAsksSpec)

/-- ITS FALSE NEIGHBOUR: 'it returns false'. Refute it at one input. -/
def tableAsksWrong : ChangeSpec := { name := "tableAsks", fn := fun _ => fun
  | [d1, d2, d3] => { results := [.lit (.bool false)], args := [d1, d2, d3] }
  | _ => none }
def TableAsksWrongFalsely : Prop := tableAsksRow.holds Tryz.pinned (OpenSpec.ofChange tableAsksWrong)

/-- 'custoslaw03.TableJoins': WHATEVER THE INPUT: true; the input reads as it did. -/
def tableJoinsSpec : ChangeSpec := { name := "tableJoins", fn := fun _ => fun
  | [d1, d2] => { results := [.lit (.bool true)], args := [d1, d2] }
  | _ => none }
def tableJoinsRow : OpenClaim := { program := "ytikodapgceokhaagreat", sum := "500867969b5b9381e36c4ed838379fffca568cee8ebb736cab7a26245b91647a", func := "custos/custoslaw03.TableJoins", spec := "tableJoins", inPlace := ["math/bits.Add64", "math/bits.Sub64", "internal/bytealg.abigen_runtime_cmpstring"], unfollowed := true, recurses := true, apart := false }
def TableJoinsSaid : Prop := tableJoinsRow.holds Tryz.pinned (OpenSpec.ofChange tableJoinsSpec)

/-- ITS FALSE NEIGHBOUR: 'it returns false'. Refute it at one input. -/
def tableJoinsWrong : ChangeSpec := { name := "tableJoins", fn := fun _ => fun
  | [d1, d2] => { results := [.lit (.bool false)], args := [d1, d2] }
  | _ => none }
def TableJoinsWrongFalsely : Prop := tableJoinsRow.holds Tryz.pinned (OpenSpec.ofChange tableJoinsWrong)

/-- 'custoslaw03.TableRenames': WHATEVER THE INPUT: true; the input reads as it did. -/
def tableRenamesSpec : ChangeSpec := { name := "tableRenames", fn := fun _ => fun
  | [d1, d2, d3] => { results := [.lit (.bool true)], args := [d1, d2, d3] }
  | _ => none }
def tableRenamesRow : OpenClaim := { program := "ytikodapgceokhaagreat", sum := "500867969b5b9381e36c4ed838379fffca568cee8ebb736cab7a26245b91647a", func := "custos/custoslaw03.TableRenames", spec := "tableRenames", inPlace := ["math/bits.Add64", "math/bits.Sub64", "internal/bytealg.abigen_runtime_cmpstring"], unfollowed := true, recurses := true, apart := false }
def TableRenamesSaid : Prop := tableRenamesRow.holds Tryz.pinned (OpenSpec.ofChange tableRenamesSpec)

/-- ITS FALSE NEIGHBOUR: 'it returns false'. Refute it at one input. -/
def tableRenamesWrong : ChangeSpec := { name := "tableRenames", fn := fun _ => fun
  | [d1, d2, d3] => { results := [.lit (.bool false)], args := [d1, d2, d3] }
  | _ => none }
def TableRenamesWrongFalsely : Prop := tableRenamesRow.holds Tryz.pinned (OpenSpec.ofChange tableRenamesWrong)

/-- 'custoslaw03.TableNumbers': WHATEVER THE INPUT: true; the input reads as it did. -/
def tableNumbersSpec : ChangeSpec := { name := "tableNumbers", fn := fun _ => fun
  | [] => { results := [.lit (.bool true)], args := [] }
  | _ => none }
def tableNumbersRow : OpenClaim := { program := "ytikodapgceokhaagreat", sum := "500867969b5b9381e36c4ed838379fffca568cee8ebb736cab7a26245b91647a", func := "custos/custoslaw03.TableNumbers", spec := "tableNumbers", inPlace := ["math/bits.Add64", "math/bits.Sub64", "internal/bytealg.abigen_runtime_cmpstring"], unfollowed := true, recurses := true, apart := false }
def TableNumbersSaid : Prop := tableNumbersRow.holds Tryz.pinned (OpenSpec.ofChange tableNumbersSpec)

/-- ITS FALSE NEIGHBOUR: 'it returns false'. Refute it at one input. -/
def tableNumbersWrong : ChangeSpec := { name := "tableNumbers", fn := fun _ => fun
  | [] => { results := [.lit (.bool false)], args := [] }
  | _ => none }
def TableNumbersWrongFalsely : Prop := tableNumbersRow.holds Tryz.pinned (OpenSpec.ofChange tableNumbersWrong)

/-- 'custoslaw03.TableMakes': WHATEVER THE INPUT: true; the input reads as it did. -/
def tableMakesSpec : ChangeSpec := { name := "tableMakes", fn := fun _ => fun
  | [d1, d2] => { results := [.lit (.bool true)], args := [d1, d2] }
  | _ => none }
def tableMakesRow : OpenClaim := { program := "ytikodapgceokhaagreat", sum := "500867969b5b9381e36c4ed838379fffca568cee8ebb736cab7a26245b91647a", func := "custos/custoslaw03.TableMakes", spec := "tableMakes", inPlace := ["math/bits.Add64", "math/bits.Sub64", "internal/bytealg.abigen_runtime_cmpstring"], unfollowed := true, recurses := true, apart := false }
def TableMakesSaid : Prop := tableMakesRow.holds Tryz.pinned (OpenSpec.ofChange tableMakesSpec)

/-- ITS FALSE NEIGHBOUR: 'it returns false'. Refute it at one input. -/
def tableMakesWrong : ChangeSpec := { name := "tableMakes", fn := fun _ => fun
  | [d1, d2] => { results := [.lit (.bool false)], args := [d1, d2] }
  | _ => none }
def TableMakesWrongFalsely : Prop := tableMakesRow.holds Tryz.pinned (OpenSpec.ofChange tableMakesWrong)

/-- 'custoslaw03.TableCuts': WHATEVER THE INPUT: true; the input reads as it did. -/
def tableCutsSpec : ChangeSpec := { name := "tableCuts", fn := fun _ => fun
  | [d1, d2] => { results := [.lit (.bool true)], args := [d1, d2] }
  | _ => none }
def tableCutsRow : OpenClaim := { program := "ytikodapgceokhaagreat", sum := "500867969b5b9381e36c4ed838379fffca568cee8ebb736cab7a26245b91647a", func := "custos/custoslaw03.TableCuts", spec := "tableCuts", inPlace := ["math/bits.Add64", "math/bits.Sub64", "internal/bytealg.abigen_runtime_cmpstring"], unfollowed := true, recurses := true, apart := false }
def TableCutsSaid : Prop := tableCutsRow.holds Tryz.pinned (OpenSpec.ofChange tableCutsSpec)

/-- ITS FALSE NEIGHBOUR: 'it returns false'. Refute it at one input. -/
def tableCutsWrong : ChangeSpec := { name := "tableCuts", fn := fun _ => fun
  | [d1, d2] => { results := [.lit (.bool false)], args := [d1, d2] }
  | _ => none }
def TableCutsWrongFalsely : Prop := tableCutsRow.holds Tryz.pinned (OpenSpec.ofChange tableCutsWrong)

/-- 'custoslaw03.TableAlgebra': WHATEVER THE INPUT: true; the input reads as it did. -/
def tableAlgebraSpec : ChangeSpec := { name := "tableAlgebra", fn := fun _ => fun
  | [d1, d2, d3] => { results := [.lit (.bool true)], args := [d1, d2, d3] }
  | _ => none }
def tableAlgebraRow : OpenClaim := { program := "ytikodapgceokhaagreat", sum := "500867969b5b9381e36c4ed838379fffca568cee8ebb736cab7a26245b91647a", func := "custos/custoslaw03.TableAlgebra", spec := "tableAlgebra", inPlace := ["math/bits.Add64", "math/bits.Sub64", "internal/bytealg.abigen_runtime_cmpstring"], unfollowed := true, recurses := true, apart := false }
def TableAlgebraSaid : Prop := tableAlgebraRow.holds Tryz.pinned (OpenSpec.ofChange tableAlgebraSpec)

/-- ITS FALSE NEIGHBOUR: 'it returns false'. Refute it at one input. -/
def tableAlgebraWrong : ChangeSpec := { name := "tableAlgebra", fn := fun _ => fun
  | [d1, d2, d3] => { results := [.lit (.bool false)], args := [d1, d2, d3] }
  | _ => none }
def TableAlgebraWrongFalsely : Prop := tableAlgebraRow.holds Tryz.pinned (OpenSpec.ofChange tableAlgebraWrong)

/-- 'custoslaw03.TableSets': WHATEVER THE INPUT: true; the input reads as it did. -/
def tableSetsSpec : ChangeSpec := { name := "tableSets", fn := fun _ => fun
  | [d1, d2] => { results := [.lit (.bool true)], args := [d1, d2] }
  | _ => none }
def tableSetsRow : OpenClaim := { program := "ytikodapgceokhaagreat", sum := "500867969b5b9381e36c4ed838379fffca568cee8ebb736cab7a26245b91647a", func := "custos/custoslaw03.TableSets", spec := "tableSets", inPlace := ["math/bits.Add64", "math/bits.Sub64", "internal/bytealg.abigen_runtime_cmpstring"], unfollowed := true, recurses := true, apart := false }
def TableSetsSaid : Prop := tableSetsRow.holds Tryz.pinned (OpenSpec.ofChange tableSetsSpec)

/-- ITS FALSE NEIGHBOUR: 'it returns false'. Refute it at one input. -/
def tableSetsWrong : ChangeSpec := { name := "tableSets", fn := fun _ => fun
  | [d1, d2] => { results := [.lit (.bool false)], args := [d1, d2] }
  | _ => none }
def TableSetsWrongFalsely : Prop := tableSetsRow.holds Tryz.pinned (OpenSpec.ofChange tableSetsWrong)

/-- 'custoslaw03.TableApart': WHATEVER THE INPUT: true; the input reads as it did. -/
def tableApartSpec : ChangeSpec := { name := "tableApart", fn := fun _ => fun
  | [d1, d2] => { results := [.lit (.bool true)], args := [d1, d2] }
  | _ => none }
def tableApartRow : OpenClaim := { program := "ytikodapgceokhaagreat", sum := "500867969b5b9381e36c4ed838379fffca568cee8ebb736cab7a26245b91647a", func := "custos/custoslaw03.TableApart", spec := "tableApart", inPlace := ["math/bits.Add64", "math/bits.Sub64", "internal/bytealg.abigen_runtime_cmpstring"], unfollowed := true, recurses := true, apart := false }
def TableApartSaid : Prop := tableApartRow.holds Tryz.pinned (OpenSpec.ofChange tableApartSpec)

/-- ITS FALSE NEIGHBOUR: 'it returns false'. Refute it at one input. -/
def tableApartWrong : ChangeSpec := { name := "tableApart", fn := fun _ => fun
  | [d1, d2] => { results := [.lit (.bool false)], args := [d1, d2] }
  | _ => none }
def TableApartWrongFalsely : Prop := tableApartRow.holds Tryz.pinned (OpenSpec.ofChange tableApartWrong)

/-- 'custoslaw03.TableRows': WHATEVER THE INPUT: true; the input reads as it did. -/
def tableRowsSpec : ChangeSpec := { name := "tableRows", fn := fun _ => fun
  | [d1, d2, d3] => { results := [.lit (.bool true)], args := [d1, d2, d3] }
  | _ => none }
def tableRowsRow : OpenClaim := { program := "ytikodapgceokhaagreat", sum := "500867969b5b9381e36c4ed838379fffca568cee8ebb736cab7a26245b91647a", func := "custos/custoslaw03.TableRows", spec := "tableRows", inPlace := ["math/bits.Add64", "math/bits.Sub64", "internal/bytealg.abigen_runtime_cmpstring"], unfollowed := true, recurses := true, apart := false }
def TableRowsSaid : Prop := tableRowsRow.holds Tryz.pinned (OpenSpec.ofChange tableRowsSpec)

/-- ITS FALSE NEIGHBOUR: 'it returns false'. Refute it at one input. -/
def tableRowsWrong : ChangeSpec := { name := "tableRows", fn := fun _ => fun
  | [d1, d2, d3] => { results := [.lit (.bool false)], args := [d1, d2, d3] }
  | _ => none }
def TableRowsWrongFalsely : Prop := tableRowsRow.holds Tryz.pinned (OpenSpec.ofChange tableRowsWrong)

/- THE SECOND FORM. 'bulk': how many values and letters a reading holds, each counted each time it is reached (what is shared counts as often as it is met; a slice's spare places count too). A statement '..UptoSaid' is the law's where the arguments, and the package variables that the reading takes, are together of bulk at most 1048576: NARROWER than '..Said'. Prove '..Said' where nothing that the law and all that it calls make is longer than what came in: it says more and counts as full. Else prove '..UptoSaid'. A law counts once. -/
mutual
def uptoBulk {H : Type} : DataW H → Nat
  | .lit (.string bytes) => bytes.length + 1
  | .lit _ => 1
  | .nil => 1
  | .ptr d => uptoBulk d + 1
  | .slice elems spare => uptoBulkAll elems + uptoBulkAll spare + 1
  | .agg parts => uptoBulkAll parts + 1
  | .iface _ d => uptoBulk d + 1
  | .map entries => uptoBulkEntries entries + 1
  | .held _ => 1
def uptoBulkAll {H : Type} : List (DataW H) → Nat
  | [] => 0
  | d :: r => uptoBulk d + uptoBulkAll r
def uptoBulkEntries {H : Type} : List (Lit × DataW H) → Nat
  | [] => 0
  | x :: r => uptoBulkEntry x + uptoBulkEntries r
def uptoBulkEntry {H : Type} : Lit × DataW H → Nat
  | (.string bytes, d) => bytes.length + uptoBulk d + 1
  | (_, d) => uptoBulk d + 1
 end
def uptoSmall : (H : Type) → List (DataW H) → Bool := fun _ ds => decide (uptoBulkAll ds ≤ 1048576)
def OpenSpec.upto (s : _root_.Go.ChangeSpec) : _root_.Go.OpenSpec := { _root_.Go.OpenSpec.ofChange s with cond := some uptoSmall }

/-- 'custoslaw03.TableChecks', WHERE WHAT IT READS IS OF BULK AT MOST 1048576: true; the input reads as it did. -/
def tableChecksUptoRow : OpenClaim := { program := "ytikodapgceokhaagreat", sum := "500867969b5b9381e36c4ed838379fffca568cee8ebb736cab7a26245b91647a", func := "custos/custoslaw03.TableChecks", spec := "tableChecks", inPlace := ["math/bits.Add64", "math/bits.Sub64", "internal/bytealg.abigen_runtime_cmpstring"], unfollowed := true, recurses := true, apart := false, narrowed := true }
def TableChecksUptoSaid : Prop := tableChecksUptoRow.holds Tryz.pinned (OpenSpec.upto tableChecksSpec)

/-- 'custoslaw03.TableAsks', WHERE WHAT IT READS IS OF BULK AT MOST 1048576: true; the input reads as it did. -/
def tableAsksUptoRow : OpenClaim := { program := "ytikodapgceokhaagreat", sum := "500867969b5b9381e36c4ed838379fffca568cee8ebb736cab7a26245b91647a", func := "custos/custoslaw03.TableAsks", spec := "tableAsks", inPlace := ["math/bits.Add64", "math/bits.Sub64", "internal/bytealg.abigen_runtime_cmpstring"], unfollowed := true, recurses := true, apart := false, narrowed := true }
def TableAsksUptoSaid : Prop := tableAsksUptoRow.holds Tryz.pinned (OpenSpec.upto tableAsksSpec)

/-- 'custoslaw03.TableJoins', WHERE WHAT IT READS IS OF BULK AT MOST 1048576: true; the input reads as it did. -/
def tableJoinsUptoRow : OpenClaim := { program := "ytikodapgceokhaagreat", sum := "500867969b5b9381e36c4ed838379fffca568cee8ebb736cab7a26245b91647a", func := "custos/custoslaw03.TableJoins", spec := "tableJoins", inPlace := ["math/bits.Add64", "math/bits.Sub64", "internal/bytealg.abigen_runtime_cmpstring"], unfollowed := true, recurses := true, apart := false, narrowed := true }
def TableJoinsUptoSaid : Prop := tableJoinsUptoRow.holds Tryz.pinned (OpenSpec.upto tableJoinsSpec)

/-- 'custoslaw03.TableRenames', WHERE WHAT IT READS IS OF BULK AT MOST 1048576: true; the input reads as it did. -/
def tableRenamesUptoRow : OpenClaim := { program := "ytikodapgceokhaagreat", sum := "500867969b5b9381e36c4ed838379fffca568cee8ebb736cab7a26245b91647a", func := "custos/custoslaw03.TableRenames", spec := "tableRenames", inPlace := ["math/bits.Add64", "math/bits.Sub64", "internal/bytealg.abigen_runtime_cmpstring"], unfollowed := true, recurses := true, apart := false, narrowed := true }
def TableRenamesUptoSaid : Prop := tableRenamesUptoRow.holds Tryz.pinned (OpenSpec.upto tableRenamesSpec)

/-- 'custoslaw03.TableNumbers', WHERE WHAT IT READS IS OF BULK AT MOST 1048576: true; the input reads as it did. -/
def tableNumbersUptoRow : OpenClaim := { program := "ytikodapgceokhaagreat", sum := "500867969b5b9381e36c4ed838379fffca568cee8ebb736cab7a26245b91647a", func := "custos/custoslaw03.TableNumbers", spec := "tableNumbers", inPlace := ["math/bits.Add64", "math/bits.Sub64", "internal/bytealg.abigen_runtime_cmpstring"], unfollowed := true, recurses := true, apart := false, narrowed := true }
def TableNumbersUptoSaid : Prop := tableNumbersUptoRow.holds Tryz.pinned (OpenSpec.upto tableNumbersSpec)

/-- 'custoslaw03.TableMakes', WHERE WHAT IT READS IS OF BULK AT MOST 1048576: true; the input reads as it did. -/
def tableMakesUptoRow : OpenClaim := { program := "ytikodapgceokhaagreat", sum := "500867969b5b9381e36c4ed838379fffca568cee8ebb736cab7a26245b91647a", func := "custos/custoslaw03.TableMakes", spec := "tableMakes", inPlace := ["math/bits.Add64", "math/bits.Sub64", "internal/bytealg.abigen_runtime_cmpstring"], unfollowed := true, recurses := true, apart := false, narrowed := true }
def TableMakesUptoSaid : Prop := tableMakesUptoRow.holds Tryz.pinned (OpenSpec.upto tableMakesSpec)

/-- 'custoslaw03.TableCuts', WHERE WHAT IT READS IS OF BULK AT MOST 1048576: true; the input reads as it did. -/
def tableCutsUptoRow : OpenClaim := { program := "ytikodapgceokhaagreat", sum := "500867969b5b9381e36c4ed838379fffca568cee8ebb736cab7a26245b91647a", func := "custos/custoslaw03.TableCuts", spec := "tableCuts", inPlace := ["math/bits.Add64", "math/bits.Sub64", "internal/bytealg.abigen_runtime_cmpstring"], unfollowed := true, recurses := true, apart := false, narrowed := true }
def TableCutsUptoSaid : Prop := tableCutsUptoRow.holds Tryz.pinned (OpenSpec.upto tableCutsSpec)

/-- 'custoslaw03.TableAlgebra', WHERE WHAT IT READS IS OF BULK AT MOST 1048576: true; the input reads as it did. -/
def tableAlgebraUptoRow : OpenClaim := { program := "ytikodapgceokhaagreat", sum := "500867969b5b9381e36c4ed838379fffca568cee8ebb736cab7a26245b91647a", func := "custos/custoslaw03.TableAlgebra", spec := "tableAlgebra", inPlace := ["math/bits.Add64", "math/bits.Sub64", "internal/bytealg.abigen_runtime_cmpstring"], unfollowed := true, recurses := true, apart := false, narrowed := true }
def TableAlgebraUptoSaid : Prop := tableAlgebraUptoRow.holds Tryz.pinned (OpenSpec.upto tableAlgebraSpec)

/-- 'custoslaw03.TableSets', WHERE WHAT IT READS IS OF BULK AT MOST 1048576: true; the input reads as it did. -/
def tableSetsUptoRow : OpenClaim := { program := "ytikodapgceokhaagreat", sum := "500867969b5b9381e36c4ed838379fffca568cee8ebb736cab7a26245b91647a", func := "custos/custoslaw03.TableSets", spec := "tableSets", inPlace := ["math/bits.Add64", "math/bits.Sub64", "internal/bytealg.abigen_runtime_cmpstring"], unfollowed := true, recurses := true, apart := false, narrowed := true }
def TableSetsUptoSaid : Prop := tableSetsUptoRow.holds Tryz.pinned (OpenSpec.upto tableSetsSpec)

/-- 'custoslaw03.TableApart', WHERE WHAT IT READS IS OF BULK AT MOST 1048576: true; the input reads as it did. -/
def tableApartUptoRow : OpenClaim := { program := "ytikodapgceokhaagreat", sum := "500867969b5b9381e36c4ed838379fffca568cee8ebb736cab7a26245b91647a", func := "custos/custoslaw03.TableApart", spec := "tableApart", inPlace := ["math/bits.Add64", "math/bits.Sub64", "internal/bytealg.abigen_runtime_cmpstring"], unfollowed := true, recurses := true, apart := false, narrowed := true }
def TableApartUptoSaid : Prop := tableApartUptoRow.holds Tryz.pinned (OpenSpec.upto tableApartSpec)

/-- 'custoslaw03.TableRows', WHERE WHAT IT READS IS OF BULK AT MOST 1048576: true; the input reads as it did. -/
def tableRowsUptoRow : OpenClaim := { program := "ytikodapgceokhaagreat", sum := "500867969b5b9381e36c4ed838379fffca568cee8ebb736cab7a26245b91647a", func := "custos/custoslaw03.TableRows", spec := "tableRows", inPlace := ["math/bits.Add64", "math/bits.Sub64", "internal/bytealg.abigen_runtime_cmpstring"], unfollowed := true, recurses := true, apart := false, narrowed := true }
def TableRowsUptoSaid : Prop := tableRowsUptoRow.holds Tryz.pinned (OpenSpec.upto tableRowsSpec)

end Rows
end Go.Proofs.YtikodapgceokhaaGreat
