/-
  NARROWER THAN 'FOR EVERY INPUT', by the rows' own cells (each row's printed sentence says how): SegMay: loops · ExprParts: loops · ExprStrict: loops · ExprFolds: loops · ExprOver: loops · ExprPuts: loops · ExprPutIn: loops · ExprMemory: loops.
  DERIVED. THE GIVEN ROWS OF THIS SEAT. 16 by the template 'for every input the law returns true; each argument reads behind the call as it read before'; 0 by the template 'total and deterministic' (their statements: YtnhmnfokbinplaaTotals.lean).
  GIVEN WITH THE SEED: the statements are not yours to turn. If you find one false, say at which input.
  Laid BY PROGRAM, IN A SANDBOX (cutbox-rows.mjs): the forced cells as the released guide's own fill.sh prints them over the translation d6f6616b03f628b5… (all of the seat's roots in one cut). By AI agents, Wed Nov 11 2026. No macro, syntax, notation, axiom, sorry.
-/
import Derived.Test.YtnhmnfokbinplaaChecked
import GoSem.Claim
import GoSem.ClaimJoined
import GoSem.ClaimMapViews
import Derived.JoinedTies
import Derived.KernelRfl
namespace Go.Proofs.Ytnhmnfokbinplaa
/- THE CELL 'sum', in the pinned program and in every row, IS THE sha256 OF THE DUMP (.gsa) THAT YtnhmnfokbinplaaProg.lean LOADS. Nothing in Lean hashes anything: it is a label: what it is worth is what the hold of that sum in a sandbox is worth. -/
noncomputable def Try.pinned : Pinned := { name := "ytnhmnfokbinplaa", sum := "d6f6616b03f628b5b84c024efe187cd584773148827e5670a41e9d1274c145c9", checked := Try.checked }
namespace Rows
def none {H : Type} : Left H := { results := [], args := [] }

/-- 'tallylaw.Names': WHATEVER THE INPUT: true; the input reads as it did. -/
def namesSpec : ChangeSpec := { name := "names", fn := fun _ => fun
  | [] => { results := [.lit (.bool true)], args := [] }
  | _ => none }
def namesRow : OpenClaim := { program := "ytnhmnfokbinplaa", sum := "d6f6616b03f628b5b84c024efe187cd584773148827e5670a41e9d1274c145c9", func := "tallyhouse/tallylaw.Names", spec := "names", apart := false }
def NamesSaid : Prop := namesRow.holds Try.pinned (OpenSpec.ofChange namesSpec)

/-- ITS FALSE NEIGHBOUR: 'it returns false'. Refute it at one input. -/
def namesWrong : ChangeSpec := { name := "names", fn := fun _ => fun
  | [] => { results := [.lit (.bool false)], args := [] }
  | _ => none }
def NamesWrongFalsely : Prop := namesRow.holds Try.pinned (OpenSpec.ofChange namesWrong)

/-- 'tallykeep.CellBoth': WHATEVER THE INPUT: true; the input reads as it did. -/
def cellBothSpec : ChangeSpec := { name := "cellBoth", fn := fun _ => fun
  | [d1, d2] => { results := [.lit (.bool true)], args := [d1, d2] }
  | _ => none }
def cellBothRow : OpenClaim := { program := "ytnhmnfokbinplaa", sum := "d6f6616b03f628b5b84c024efe187cd584773148827e5670a41e9d1274c145c9", func := "tallyhouse/tallykeep.CellBoth", spec := "cellBoth", unfollowed := true, recurses := true, apart := false }
def CellBothSaid : Prop := cellBothRow.holds Try.pinned (OpenSpec.ofChange cellBothSpec)

/-- ITS FALSE NEIGHBOUR: 'it returns false'. Refute it at one input. -/
def cellBothWrong : ChangeSpec := { name := "cellBoth", fn := fun _ => fun
  | [d1, d2] => { results := [.lit (.bool false)], args := [d1, d2] }
  | _ => none }
def CellBothWrongFalsely : Prop := cellBothRow.holds Try.pinned (OpenSpec.ofChange cellBothWrong)

/-- 'tallylaw.VecMakes': WHATEVER THE INPUT: true; the input reads as it did. -/
def vecMakesSpec : ChangeSpec := { name := "vecMakes", fn := fun _ => fun
  | [d1, d2] => { results := [.lit (.bool true)], args := [d1, d2] }
  | _ => none }
def vecMakesRow : OpenClaim := { program := "ytnhmnfokbinplaa", sum := "d6f6616b03f628b5b84c024efe187cd584773148827e5670a41e9d1274c145c9", func := "tallyhouse/tallylaw.VecMakes", spec := "vecMakes", apart := false }
def VecMakesSaid : Prop := vecMakesRow.holds Try.pinned (OpenSpec.ofChange vecMakesSpec)

/-- ITS FALSE NEIGHBOUR: 'it returns false'. Refute it at one input. -/
def vecMakesWrong : ChangeSpec := { name := "vecMakes", fn := fun _ => fun
  | [d1, d2] => { results := [.lit (.bool false)], args := [d1, d2] }
  | _ => none }
def VecMakesWrongFalsely : Prop := vecMakesRow.holds Try.pinned (OpenSpec.ofChange vecMakesWrong)

/-- 'tallylaw.VecTables': WHATEVER THE INPUT: true; the input reads as it did. -/
def vecTablesSpec : ChangeSpec := { name := "vecTables", fn := fun _ => fun
  | [d] => { results := [.lit (.bool true)], args := [d] }
  | _ => none }
def vecTablesRow : OpenClaim := { program := "ytnhmnfokbinplaa", sum := "d6f6616b03f628b5b84c024efe187cd584773148827e5670a41e9d1274c145c9", func := "tallyhouse/tallylaw.VecTables", spec := "vecTables", apart := false }
def VecTablesSaid : Prop := vecTablesRow.holds Try.pinned (OpenSpec.ofChange vecTablesSpec)

/-- ITS FALSE NEIGHBOUR: 'it returns false'. Refute it at one input. -/
def vecTablesWrong : ChangeSpec := { name := "vecTables", fn := fun _ => fun
  | [d] => { results := [.lit (.bool false)], args := [d] }
  | _ => none }
def VecTablesWrongFalsely : Prop := vecTablesRow.holds Try.pinned (OpenSpec.ofChange vecTablesWrong)

/-- 'tallykeep.CellReckons': WHATEVER THE INPUT: true; the input reads as it did. -/
def cellReckonsSpec : ChangeSpec := { name := "cellReckons", fn := fun _ => fun
  | [d1, d2] => { results := [.lit (.bool true)], args := [d1, d2] }
  | _ => none }
def cellReckonsRow : OpenClaim := { program := "ytnhmnfokbinplaa", sum := "d6f6616b03f628b5b84c024efe187cd584773148827e5670a41e9d1274c145c9", func := "tallyhouse/tallykeep.CellReckons", spec := "cellReckons", unfollowed := true, recurses := true, apart := false }
def CellReckonsSaid : Prop := cellReckonsRow.holds Try.pinned (OpenSpec.ofChange cellReckonsSpec)

/-- ITS FALSE NEIGHBOUR: 'it returns false'. Refute it at one input. -/
def cellReckonsWrong : ChangeSpec := { name := "cellReckons", fn := fun _ => fun
  | [d1, d2] => { results := [.lit (.bool false)], args := [d1, d2] }
  | _ => none }
def CellReckonsWrongFalsely : Prop := cellReckonsRow.holds Try.pinned (OpenSpec.ofChange cellReckonsWrong)

/-- 'tallylaw.CellReads': WHATEVER THE INPUT: true; the input reads as it did. -/
def cellReadsSpec : ChangeSpec := { name := "cellReads", fn := fun _ => fun
  | [d] => { results := [.lit (.bool true)], args := [d] }
  | _ => none }
def cellReadsRow : OpenClaim := { program := "ytnhmnfokbinplaa", sum := "d6f6616b03f628b5b84c024efe187cd584773148827e5670a41e9d1274c145c9", func := "tallyhouse/tallylaw.CellReads", spec := "cellReads", inPlace := ["internal/bytealg.IndexByteString", "internal/abi.NoEscape"], apart := false }
def CellReadsSaid : Prop := cellReadsRow.holds Try.pinned (OpenSpec.ofChange cellReadsSpec)

/-- ITS FALSE NEIGHBOUR: 'it returns false'. Refute it at one input. -/
def cellReadsWrong : ChangeSpec := { name := "cellReads", fn := fun _ => fun
  | [d] => { results := [.lit (.bool false)], args := [d] }
  | _ => none }
def CellReadsWrongFalsely : Prop := cellReadsRow.holds Try.pinned (OpenSpec.ofChange cellReadsWrong)

/-- 'tallylaw.VecSays': WHATEVER THE INPUT: true; the input reads as it did. -/
def vecSaysSpec : ChangeSpec := { name := "vecSays", fn := fun _ => fun
  | [d1, d2, d3, d4] => { results := [.lit (.bool true)], args := [d1, d2, d3, d4] }
  | _ => none }
def vecSaysRow : OpenClaim := { program := "ytnhmnfokbinplaa", sum := "d6f6616b03f628b5b84c024efe187cd584773148827e5670a41e9d1274c145c9", func := "tallyhouse/tallylaw.VecSays", spec := "vecSays", apart := false }
def VecSaysSaid : Prop := vecSaysRow.holds Try.pinned (OpenSpec.ofChange vecSaysSpec)

/-- ITS FALSE NEIGHBOUR: 'it returns false'. Refute it at one input. -/
def vecSaysWrong : ChangeSpec := { name := "vecSays", fn := fun _ => fun
  | [d1, d2, d3, d4] => { results := [.lit (.bool false)], args := [d1, d2, d3, d4] }
  | _ => none }
def VecSaysWrongFalsely : Prop := vecSaysRow.holds Try.pinned (OpenSpec.ofChange vecSaysWrong)

/-- 'tallylaw.CellSays': WHATEVER THE INPUT: true; the input reads as it did. -/
def cellSaysSpec : ChangeSpec := { name := "cellSays", fn := fun _ => fun
  | [d1, d2, d3] => { results := [.lit (.bool true)], args := [d1, d2, d3] }
  | _ => none }
def cellSaysRow : OpenClaim := { program := "ytnhmnfokbinplaa", sum := "d6f6616b03f628b5b84c024efe187cd584773148827e5670a41e9d1274c145c9", func := "tallyhouse/tallylaw.CellSays", spec := "cellSays", inPlace := ["internal/bytealg.abigen_runtime_cmpstring"], unfollowed := true, recurses := true, apart := false }
def CellSaysSaid : Prop := cellSaysRow.holds Try.pinned (OpenSpec.ofChange cellSaysSpec)

/-- ITS FALSE NEIGHBOUR: 'it returns false'. Refute it at one input. -/
def cellSaysWrong : ChangeSpec := { name := "cellSays", fn := fun _ => fun
  | [d1, d2, d3] => { results := [.lit (.bool false)], args := [d1, d2, d3] }
  | _ => none }
def CellSaysWrongFalsely : Prop := cellSaysRow.holds Try.pinned (OpenSpec.ofChange cellSaysWrong)

/-- 'tallylaw.SegMay': WHATEVER THE INPUT: true; the input reads as it did. -/
def segMaySpec : ChangeSpec := { name := "segMay", fn := fun _ => fun
  | [d1, d2, d3] => { results := [.lit (.bool true)], args := [d1, d2, d3] }
  | _ => none }
def segMayRow : OpenClaim := { program := "ytnhmnfokbinplaa", sum := "d6f6616b03f628b5b84c024efe187cd584773148827e5670a41e9d1274c145c9", func := "tallyhouse/tallylaw.SegMay", spec := "segMay", inPlace := ["internal/bytealg.abigen_runtime_cmpstring"], unfollowed := true, recurses := true, loops := true, apart := false }
def SegMaySaid : Prop := segMayRow.holds Try.pinned (OpenSpec.ofChange segMaySpec)

/-- ITS FALSE NEIGHBOUR: 'it returns false'. Refute it at one input. -/
def segMayWrong : ChangeSpec := { name := "segMay", fn := fun _ => fun
  | [d1, d2, d3] => { results := [.lit (.bool false)], args := [d1, d2, d3] }
  | _ => none }
def SegMayWrongFalsely : Prop := segMayRow.holds Try.pinned (OpenSpec.ofChange segMayWrong)

/-- 'tallykeep.ExprParts': WHATEVER THE INPUT: true; the input reads as it did. -/
def exprPartsSpec : ChangeSpec := { name := "exprParts", fn := fun _ => fun
  | [d1, d2] => { results := [.lit (.bool true)], args := [d1, d2] }
  | _ => none }
def exprPartsRow : OpenClaim := { program := "ytnhmnfokbinplaa", sum := "d6f6616b03f628b5b84c024efe187cd584773148827e5670a41e9d1274c145c9", func := "tallyhouse/tallykeep.ExprParts", spec := "exprParts", inPlace := ["internal/bytealg.abigen_runtime_cmpstring"], unfollowed := true, recurses := true, loops := true, apart := false }
def ExprPartsSaid : Prop := exprPartsRow.holds Try.pinned (OpenSpec.ofChange exprPartsSpec)

/-- ITS FALSE NEIGHBOUR: 'it returns false'. Refute it at one input. -/
def exprPartsWrong : ChangeSpec := { name := "exprParts", fn := fun _ => fun
  | [d1, d2] => { results := [.lit (.bool false)], args := [d1, d2] }
  | _ => none }
def ExprPartsWrongFalsely : Prop := exprPartsRow.holds Try.pinned (OpenSpec.ofChange exprPartsWrong)

/-- 'tallykeep.ExprStrict': WHATEVER THE INPUT: true; the input reads as it did. -/
def exprStrictSpec : ChangeSpec := { name := "exprStrict", fn := fun _ => fun
  | [d1, d2, d3] => { results := [.lit (.bool true)], args := [d1, d2, d3] }
  | _ => none }
def exprStrictRow : OpenClaim := { program := "ytnhmnfokbinplaa", sum := "d6f6616b03f628b5b84c024efe187cd584773148827e5670a41e9d1274c145c9", func := "tallyhouse/tallykeep.ExprStrict", spec := "exprStrict", inPlace := ["internal/bytealg.abigen_runtime_cmpstring"], unfollowed := true, recurses := true, loops := true, apart := false }
def ExprStrictSaid : Prop := exprStrictRow.holds Try.pinned (OpenSpec.ofChange exprStrictSpec)

/-- ITS FALSE NEIGHBOUR: 'it returns false'. Refute it at one input. -/
def exprStrictWrong : ChangeSpec := { name := "exprStrict", fn := fun _ => fun
  | [d1, d2, d3] => { results := [.lit (.bool false)], args := [d1, d2, d3] }
  | _ => none }
def ExprStrictWrongFalsely : Prop := exprStrictRow.holds Try.pinned (OpenSpec.ofChange exprStrictWrong)

/-- 'tallykeep.ExprFolds': WHATEVER THE INPUT: true; the input reads as it did. -/
def exprFoldsSpec : ChangeSpec := { name := "exprFolds", fn := fun _ => fun
  | [d1, d2] => { results := [.lit (.bool true)], args := [d1, d2] }
  | _ => none }
def exprFoldsRow : OpenClaim := { program := "ytnhmnfokbinplaa", sum := "d6f6616b03f628b5b84c024efe187cd584773148827e5670a41e9d1274c145c9", func := "tallyhouse/tallykeep.ExprFolds", spec := "exprFolds", inPlace := ["internal/bytealg.abigen_runtime_cmpstring"], unfollowed := true, recurses := true, loops := true, apart := false }
def ExprFoldsSaid : Prop := exprFoldsRow.holds Try.pinned (OpenSpec.ofChange exprFoldsSpec)

/-- ITS FALSE NEIGHBOUR: 'it returns false'. Refute it at one input. -/
def exprFoldsWrong : ChangeSpec := { name := "exprFolds", fn := fun _ => fun
  | [d1, d2] => { results := [.lit (.bool false)], args := [d1, d2] }
  | _ => none }
def ExprFoldsWrongFalsely : Prop := exprFoldsRow.holds Try.pinned (OpenSpec.ofChange exprFoldsWrong)

/-- 'tallylaw.ExprOver': WHATEVER THE INPUT: true; the input reads as it did. -/
def exprOverSpec : ChangeSpec := { name := "exprOver", fn := fun _ => fun
  | [d1, d2, d3] => { results := [.lit (.bool true)], args := [d1, d2, d3] }
  | _ => none }
def exprOverRow : OpenClaim := { program := "ytnhmnfokbinplaa", sum := "d6f6616b03f628b5b84c024efe187cd584773148827e5670a41e9d1274c145c9", func := "tallyhouse/tallylaw.ExprOver", spec := "exprOver", inPlace := ["internal/bytealg.abigen_runtime_cmpstring"], unfollowed := true, recurses := true, loops := true, apart := false }
def ExprOverSaid : Prop := exprOverRow.holds Try.pinned (OpenSpec.ofChange exprOverSpec)

/-- ITS FALSE NEIGHBOUR: 'it returns false'. Refute it at one input. -/
def exprOverWrong : ChangeSpec := { name := "exprOver", fn := fun _ => fun
  | [d1, d2, d3] => { results := [.lit (.bool false)], args := [d1, d2, d3] }
  | _ => none }
def ExprOverWrongFalsely : Prop := exprOverRow.holds Try.pinned (OpenSpec.ofChange exprOverWrong)

/-- 'tallylaw.ExprPuts': WHATEVER THE INPUT: true; the input reads as it did. -/
def exprPutsSpec : ChangeSpec := { name := "exprPuts", fn := fun _ => fun
  | [d1, d2, d3] => { results := [.lit (.bool true)], args := [d1, d2, d3] }
  | _ => none }
def exprPutsRow : OpenClaim := { program := "ytnhmnfokbinplaa", sum := "d6f6616b03f628b5b84c024efe187cd584773148827e5670a41e9d1274c145c9", func := "tallyhouse/tallylaw.ExprPuts", spec := "exprPuts", unfollowed := true, recurses := true, loops := true, apart := false }
def ExprPutsSaid : Prop := exprPutsRow.holds Try.pinned (OpenSpec.ofChange exprPutsSpec)

/-- ITS FALSE NEIGHBOUR: 'it returns false'. Refute it at one input. -/
def exprPutsWrong : ChangeSpec := { name := "exprPuts", fn := fun _ => fun
  | [d1, d2, d3] => { results := [.lit (.bool false)], args := [d1, d2, d3] }
  | _ => none }
def ExprPutsWrongFalsely : Prop := exprPutsRow.holds Try.pinned (OpenSpec.ofChange exprPutsWrong)

/-- 'tallykeep.ExprPutIn': WHATEVER THE INPUT: true; the input reads as it did. -/
def exprPutInSpec : ChangeSpec := { name := "exprPutIn", fn := fun _ => fun
  | [d1, d2, d3] => { results := [.lit (.bool true)], args := [d1, d2, d3] }
  | _ => none }
def exprPutInRow : OpenClaim := { program := "ytnhmnfokbinplaa", sum := "d6f6616b03f628b5b84c024efe187cd584773148827e5670a41e9d1274c145c9", func := "tallyhouse/tallykeep.ExprPutIn", spec := "exprPutIn", inPlace := ["internal/bytealg.abigen_runtime_cmpstring"], unfollowed := true, recurses := true, loops := true, apart := false }
def ExprPutInSaid : Prop := exprPutInRow.holds Try.pinned (OpenSpec.ofChange exprPutInSpec)

/-- ITS FALSE NEIGHBOUR: 'it returns false'. Refute it at one input. -/
def exprPutInWrong : ChangeSpec := { name := "exprPutIn", fn := fun _ => fun
  | [d1, d2, d3] => { results := [.lit (.bool false)], args := [d1, d2, d3] }
  | _ => none }
def ExprPutInWrongFalsely : Prop := exprPutInRow.holds Try.pinned (OpenSpec.ofChange exprPutInWrong)

/-- 'tallykeep.ExprMemory': WHATEVER THE INPUT: true; the input reads as it did. -/
def exprMemorySpec : ChangeSpec := { name := "exprMemory", fn := fun _ => fun
  | [d1, d2, d3, d4] => { results := [.lit (.bool true)], args := [d1, d2, d3, d4] }
  | _ => none }
def exprMemoryRow : OpenClaim := { program := "ytnhmnfokbinplaa", sum := "d6f6616b03f628b5b84c024efe187cd584773148827e5670a41e9d1274c145c9", func := "tallyhouse/tallykeep.ExprMemory", spec := "exprMemory", inPlace := ["internal/bytealg.abigen_runtime_cmpstring"], unfollowed := true, recurses := true, loops := true, apart := false }
def ExprMemorySaid : Prop := exprMemoryRow.holds Try.pinned (OpenSpec.ofChange exprMemorySpec)

/-- ITS FALSE NEIGHBOUR: 'it returns false'. Refute it at one input. -/
def exprMemoryWrong : ChangeSpec := { name := "exprMemory", fn := fun _ => fun
  | [d1, d2, d3, d4] => { results := [.lit (.bool false)], args := [d1, d2, d3, d4] }
  | _ => none }
def ExprMemoryWrongFalsely : Prop := exprMemoryRow.holds Try.pinned (OpenSpec.ofChange exprMemoryWrong)

/- THE SECOND FORM. 'bulk': how many values and letters a reading holds, each counted each time it is reached (what is shared counts as often as it is met; a slice's spare places count too). A statement '..UptoSaid' is the law's where the arguments, and the package variables that the reading takes, are together of bulk at most 1048576: NARROWER than '..Said'. Prove '..Said' where nothing that the law and all that it calls make is longer than what came in: it says more and counts as full. Else prove '..UptoSaid'. A law counts once. -/
mutual
def uptoBulk {H : Type} : DataW H → Nat
  | .lit (.string bytes) => bytes.length + 1
  | .lit _ => 1
  | .nil => 1
  | .ptr d => uptoBulk d + 1
  | .slice elems spare => uptoBulkAll elems + uptoBulkAll spare + 1
  | .agg parts => uptoBulkAll parts + 1
  | .iface _ d => uptoBulk d + 1
  | .map entries => uptoBulkEntries entries + 1
  | .held _ => 1
def uptoBulkAll {H : Type} : List (DataW H) → Nat
  | [] => 0
  | d :: r => uptoBulk d + uptoBulkAll r
def uptoBulkEntries {H : Type} : List (Lit × DataW H) → Nat
  | [] => 0
  | x :: r => uptoBulkEntry x + uptoBulkEntries r
def uptoBulkEntry {H : Type} : Lit × DataW H → Nat
  | (.string bytes, d) => bytes.length + uptoBulk d + 1
  | (_, d) => uptoBulk d + 1
 end
def uptoSmall : (H : Type) → List (DataW H) → Bool := fun _ ds => decide (uptoBulkAll ds ≤ 1048576)
def OpenSpec.upto (s : _root_.Go.ChangeSpec) : _root_.Go.OpenSpec := { _root_.Go.OpenSpec.ofChange s with cond := some uptoSmall }

/-- 'tallylaw.Names', WHERE WHAT IT READS IS OF BULK AT MOST 1048576: true; the input reads as it did. -/
def namesUptoRow : OpenClaim := { program := "ytnhmnfokbinplaa", sum := "d6f6616b03f628b5b84c024efe187cd584773148827e5670a41e9d1274c145c9", func := "tallyhouse/tallylaw.Names", spec := "names", apart := false, narrowed := true }
def NamesUptoSaid : Prop := namesUptoRow.holds Try.pinned (OpenSpec.upto namesSpec)

/-- 'tallykeep.CellBoth', WHERE WHAT IT READS IS OF BULK AT MOST 1048576: true; the input reads as it did. -/
def cellBothUptoRow : OpenClaim := { program := "ytnhmnfokbinplaa", sum := "d6f6616b03f628b5b84c024efe187cd584773148827e5670a41e9d1274c145c9", func := "tallyhouse/tallykeep.CellBoth", spec := "cellBoth", unfollowed := true, recurses := true, apart := false, narrowed := true }
def CellBothUptoSaid : Prop := cellBothUptoRow.holds Try.pinned (OpenSpec.upto cellBothSpec)

/-- 'tallylaw.VecMakes', WHERE WHAT IT READS IS OF BULK AT MOST 1048576: true; the input reads as it did. -/
def vecMakesUptoRow : OpenClaim := { program := "ytnhmnfokbinplaa", sum := "d6f6616b03f628b5b84c024efe187cd584773148827e5670a41e9d1274c145c9", func := "tallyhouse/tallylaw.VecMakes", spec := "vecMakes", apart := false, narrowed := true }
def VecMakesUptoSaid : Prop := vecMakesUptoRow.holds Try.pinned (OpenSpec.upto vecMakesSpec)

/-- 'tallylaw.VecTables', WHERE WHAT IT READS IS OF BULK AT MOST 1048576: true; the input reads as it did. -/
def vecTablesUptoRow : OpenClaim := { program := "ytnhmnfokbinplaa", sum := "d6f6616b03f628b5b84c024efe187cd584773148827e5670a41e9d1274c145c9", func := "tallyhouse/tallylaw.VecTables", spec := "vecTables", apart := false, narrowed := true }
def VecTablesUptoSaid : Prop := vecTablesUptoRow.holds Try.pinned (OpenSpec.upto vecTablesSpec)

/-- 'tallykeep.CellReckons', WHERE WHAT IT READS IS OF BULK AT MOST 1048576: true; the input reads as it did. -/
def cellReckonsUptoRow : OpenClaim := { program := "ytnhmnfokbinplaa", sum := "d6f6616b03f628b5b84c024efe187cd584773148827e5670a41e9d1274c145c9", func := "tallyhouse/tallykeep.CellReckons", spec := "cellReckons", unfollowed := true, recurses := true, apart := false, narrowed := true }
def CellReckonsUptoSaid : Prop := cellReckonsUptoRow.holds Try.pinned (OpenSpec.upto cellReckonsSpec)

/-- 'tallylaw.CellReads', WHERE WHAT IT READS IS OF BULK AT MOST 1048576: true; the input reads as it did. -/
def cellReadsUptoRow : OpenClaim := { program := "ytnhmnfokbinplaa", sum := "d6f6616b03f628b5b84c024efe187cd584773148827e5670a41e9d1274c145c9", func := "tallyhouse/tallylaw.CellReads", spec := "cellReads", inPlace := ["internal/bytealg.IndexByteString", "internal/abi.NoEscape"], apart := false, narrowed := true }
def CellReadsUptoSaid : Prop := cellReadsUptoRow.holds Try.pinned (OpenSpec.upto cellReadsSpec)

/-- 'tallylaw.VecSays', WHERE WHAT IT READS IS OF BULK AT MOST 1048576: true; the input reads as it did. -/
def vecSaysUptoRow : OpenClaim := { program := "ytnhmnfokbinplaa", sum := "d6f6616b03f628b5b84c024efe187cd584773148827e5670a41e9d1274c145c9", func := "tallyhouse/tallylaw.VecSays", spec := "vecSays", apart := false, narrowed := true }
def VecSaysUptoSaid : Prop := vecSaysUptoRow.holds Try.pinned (OpenSpec.upto vecSaysSpec)

/-- 'tallylaw.CellSays', WHERE WHAT IT READS IS OF BULK AT MOST 1048576: true; the input reads as it did. -/
def cellSaysUptoRow : OpenClaim := { program := "ytnhmnfokbinplaa", sum := "d6f6616b03f628b5b84c024efe187cd584773148827e5670a41e9d1274c145c9", func := "tallyhouse/tallylaw.CellSays", spec := "cellSays", inPlace := ["internal/bytealg.abigen_runtime_cmpstring"], unfollowed := true, recurses := true, apart := false, narrowed := true }
def CellSaysUptoSaid : Prop := cellSaysUptoRow.holds Try.pinned (OpenSpec.upto cellSaysSpec)

/-- 'tallylaw.SegMay', WHERE WHAT IT READS IS OF BULK AT MOST 1048576: true; the input reads as it did. -/
def segMayUptoRow : OpenClaim := { program := "ytnhmnfokbinplaa", sum := "d6f6616b03f628b5b84c024efe187cd584773148827e5670a41e9d1274c145c9", func := "tallyhouse/tallylaw.SegMay", spec := "segMay", inPlace := ["internal/bytealg.abigen_runtime_cmpstring"], unfollowed := true, recurses := true, loops := true, apart := false, narrowed := true }
def SegMayUptoSaid : Prop := segMayUptoRow.holds Try.pinned (OpenSpec.upto segMaySpec)

/-- 'tallykeep.ExprParts', WHERE WHAT IT READS IS OF BULK AT MOST 1048576: true; the input reads as it did. -/
def exprPartsUptoRow : OpenClaim := { program := "ytnhmnfokbinplaa", sum := "d6f6616b03f628b5b84c024efe187cd584773148827e5670a41e9d1274c145c9", func := "tallyhouse/tallykeep.ExprParts", spec := "exprParts", inPlace := ["internal/bytealg.abigen_runtime_cmpstring"], unfollowed := true, recurses := true, loops := true, apart := false, narrowed := true }
def ExprPartsUptoSaid : Prop := exprPartsUptoRow.holds Try.pinned (OpenSpec.upto exprPartsSpec)

/-- 'tallykeep.ExprStrict', WHERE WHAT IT READS IS OF BULK AT MOST 1048576: true; the input reads as it did. -/
def exprStrictUptoRow : OpenClaim := { program := "ytnhmnfokbinplaa", sum := "d6f6616b03f628b5b84c024efe187cd584773148827e5670a41e9d1274c145c9", func := "tallyhouse/tallykeep.ExprStrict", spec := "exprStrict", inPlace := ["internal/bytealg.abigen_runtime_cmpstring"], unfollowed := true, recurses := true, loops := true, apart := false, narrowed := true }
def ExprStrictUptoSaid : Prop := exprStrictUptoRow.holds Try.pinned (OpenSpec.upto exprStrictSpec)

/-- 'tallykeep.ExprFolds', WHERE WHAT IT READS IS OF BULK AT MOST 1048576: true; the input reads as it did. -/
def exprFoldsUptoRow : OpenClaim := { program := "ytnhmnfokbinplaa", sum := "d6f6616b03f628b5b84c024efe187cd584773148827e5670a41e9d1274c145c9", func := "tallyhouse/tallykeep.ExprFolds", spec := "exprFolds", inPlace := ["internal/bytealg.abigen_runtime_cmpstring"], unfollowed := true, recurses := true, loops := true, apart := false, narrowed := true }
def ExprFoldsUptoSaid : Prop := exprFoldsUptoRow.holds Try.pinned (OpenSpec.upto exprFoldsSpec)

/-- 'tallylaw.ExprOver', WHERE WHAT IT READS IS OF BULK AT MOST 1048576: true; the input reads as it did. -/
def exprOverUptoRow : OpenClaim := { program := "ytnhmnfokbinplaa", sum := "d6f6616b03f628b5b84c024efe187cd584773148827e5670a41e9d1274c145c9", func := "tallyhouse/tallylaw.ExprOver", spec := "exprOver", inPlace := ["internal/bytealg.abigen_runtime_cmpstring"], unfollowed := true, recurses := true, loops := true, apart := false, narrowed := true }
def ExprOverUptoSaid : Prop := exprOverUptoRow.holds Try.pinned (OpenSpec.upto exprOverSpec)

/-- 'tallylaw.ExprPuts', WHERE WHAT IT READS IS OF BULK AT MOST 1048576: true; the input reads as it did. -/
def exprPutsUptoRow : OpenClaim := { program := "ytnhmnfokbinplaa", sum := "d6f6616b03f628b5b84c024efe187cd584773148827e5670a41e9d1274c145c9", func := "tallyhouse/tallylaw.ExprPuts", spec := "exprPuts", unfollowed := true, recurses := true, loops := true, apart := false, narrowed := true }
def ExprPutsUptoSaid : Prop := exprPutsUptoRow.holds Try.pinned (OpenSpec.upto exprPutsSpec)

/-- 'tallykeep.ExprPutIn', WHERE WHAT IT READS IS OF BULK AT MOST 1048576: true; the input reads as it did. -/
def exprPutInUptoRow : OpenClaim := { program := "ytnhmnfokbinplaa", sum := "d6f6616b03f628b5b84c024efe187cd584773148827e5670a41e9d1274c145c9", func := "tallyhouse/tallykeep.ExprPutIn", spec := "exprPutIn", inPlace := ["internal/bytealg.abigen_runtime_cmpstring"], unfollowed := true, recurses := true, loops := true, apart := false, narrowed := true }
def ExprPutInUptoSaid : Prop := exprPutInUptoRow.holds Try.pinned (OpenSpec.upto exprPutInSpec)

/-- 'tallykeep.ExprMemory', WHERE WHAT IT READS IS OF BULK AT MOST 1048576: true; the input reads as it did. -/
def exprMemoryUptoRow : OpenClaim := { program := "ytnhmnfokbinplaa", sum := "d6f6616b03f628b5b84c024efe187cd584773148827e5670a41e9d1274c145c9", func := "tallyhouse/tallykeep.ExprMemory", spec := "exprMemory", inPlace := ["internal/bytealg.abigen_runtime_cmpstring"], unfollowed := true, recurses := true, loops := true, apart := false, narrowed := true }
def ExprMemoryUptoSaid : Prop := exprMemoryUptoRow.holds Try.pinned (OpenSpec.upto exprMemorySpec)

end Rows
end Go.Proofs.Ytnhmnfokbinplaa
