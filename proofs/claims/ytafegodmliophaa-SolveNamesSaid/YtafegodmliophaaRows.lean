/-
  No cell of these rows narrows 'for every input' (looked for: loops, veiled, ifaces, maps, wideKeys, modest, calm, conditions, laid).
  DERIVED. THE GIVEN ROWS OF THIS SEAT. 7 by the template 'for every input the law returns true; each argument reads behind the call as it read before'; 0 by the template 'total and deterministic' (their statements: YtafegodmliophaaTotals.lean).
  GIVEN WITH THE SEED: the statements are not yours to turn. If you find one false, say at which input.
  Laid BY PROGRAM, IN A SANDBOX (cutbox-rows.mjs): the forced cells as the released guide's own fill.sh prints them over the translation 4b1fd9dede8c8688… (all of the seat's roots in one cut). By AI agents, Wed Nov 11 2026. No macro, syntax, notation, axiom, sorry.
-/
import Derived.Test.YtafegodmliophaaChecked
import GoSem.Claim
import GoSem.ClaimJoined
import GoSem.ClaimMapViews
import Derived.JoinedTies
import Derived.KernelRfl
namespace Go.Proofs.Ytafegodmliophaa
/- THE CELL 'sum', in the pinned program and in every row, IS THE sha256 OF THE DUMP (.gsa) THAT YtafegodmliophaaProg.lean LOADS. Nothing in Lean hashes anything: it is a label: what it is worth is what the hold of that sum in a sandbox is worth. -/
noncomputable def Try.pinned : Pinned := { name := "ytafegodmliophaa", sum := "4b1fd9dede8c8688bb200fd761d30d3d87c12c87fc4a590f79964042bbe88339", checked := Try.checked }
namespace Rows
def none {H : Type} : Left H := { results := [], args := [] }

/-- 'hallmarklaw5.TextNames': WHATEVER THE INPUT: true; the input reads as it did. -/
def textNamesSpec : ChangeSpec := { name := "textNames", fn := fun _ => fun
  | [] => { results := [.lit (.bool true)], args := [] }
  | _ => none }
def textNamesRow : OpenClaim := { program := "ytafegodmliophaa", sum := "4b1fd9dede8c8688bb200fd761d30d3d87c12c87fc4a590f79964042bbe88339", func := "hallmark/hallmarklaw5.TextNames", spec := "textNames", apart := false }
def TextNamesSaid : Prop := textNamesRow.holds Try.pinned (OpenSpec.ofChange textNamesSpec)

/-- ITS FALSE NEIGHBOUR: 'it returns false'. Refute it at one input. -/
def textNamesWrong : ChangeSpec := { name := "textNames", fn := fun _ => fun
  | [] => { results := [.lit (.bool false)], args := [] }
  | _ => none }
def TextNamesWrongFalsely : Prop := textNamesRow.holds Try.pinned (OpenSpec.ofChange textNamesWrong)

/-- 'hallmarklaw8.ProofNames': WHATEVER THE INPUT: true; the input reads as it did. -/
def proofNamesSpec : ChangeSpec := { name := "proofNames", fn := fun _ => fun
  | [] => { results := [.lit (.bool true)], args := [] }
  | _ => none }
def proofNamesRow : OpenClaim := { program := "ytafegodmliophaa", sum := "4b1fd9dede8c8688bb200fd761d30d3d87c12c87fc4a590f79964042bbe88339", func := "hallmark/hallmarklaw8.ProofNames", spec := "proofNames", apart := false }
def ProofNamesSaid : Prop := proofNamesRow.holds Try.pinned (OpenSpec.ofChange proofNamesSpec)

/-- ITS FALSE NEIGHBOUR: 'it returns false'. Refute it at one input. -/
def proofNamesWrong : ChangeSpec := { name := "proofNames", fn := fun _ => fun
  | [] => { results := [.lit (.bool false)], args := [] }
  | _ => none }
def ProofNamesWrongFalsely : Prop := proofNamesRow.holds Try.pinned (OpenSpec.ofChange proofNamesWrong)

/-- 'hallmarklaw16.WriteNames': WHATEVER THE INPUT: true; the input reads as it did. -/
def writeNamesSpec : ChangeSpec := { name := "writeNames", fn := fun _ => fun
  | [] => { results := [.lit (.bool true)], args := [] }
  | _ => none }
def writeNamesRow : OpenClaim := { program := "ytafegodmliophaa", sum := "4b1fd9dede8c8688bb200fd761d30d3d87c12c87fc4a590f79964042bbe88339", func := "hallmark/hallmarklaw16.WriteNames", spec := "writeNames", apart := false }
def WriteNamesSaid : Prop := writeNamesRow.holds Try.pinned (OpenSpec.ofChange writeNamesSpec)

/-- ITS FALSE NEIGHBOUR: 'it returns false'. Refute it at one input. -/
def writeNamesWrong : ChangeSpec := { name := "writeNames", fn := fun _ => fun
  | [] => { results := [.lit (.bool false)], args := [] }
  | _ => none }
def WriteNamesWrongFalsely : Prop := writeNamesRow.holds Try.pinned (OpenSpec.ofChange writeNamesWrong)

/-- 'hallmarklaw21.AuditNames': WHATEVER THE INPUT: true; the input reads as it did. -/
def auditNamesSpec : ChangeSpec := { name := "auditNames", fn := fun _ => fun
  | [] => { results := [.lit (.bool true)], args := [] }
  | _ => none }
def auditNamesRow : OpenClaim := { program := "ytafegodmliophaa", sum := "4b1fd9dede8c8688bb200fd761d30d3d87c12c87fc4a590f79964042bbe88339", func := "hallmark/hallmarklaw21.AuditNames", spec := "auditNames", apart := false }
def AuditNamesSaid : Prop := auditNamesRow.holds Try.pinned (OpenSpec.ofChange auditNamesSpec)

/-- ITS FALSE NEIGHBOUR: 'it returns false'. Refute it at one input. -/
def auditNamesWrong : ChangeSpec := { name := "auditNames", fn := fun _ => fun
  | [] => { results := [.lit (.bool false)], args := [] }
  | _ => none }
def AuditNamesWrongFalsely : Prop := auditNamesRow.holds Try.pinned (OpenSpec.ofChange auditNamesWrong)

/-- 'hallmarklaw10.CheckNames': WHATEVER THE INPUT: true; the input reads as it did. -/
def checkNamesSpec : ChangeSpec := { name := "checkNames", fn := fun _ => fun
  | [] => { results := [.lit (.bool true)], args := [] }
  | _ => none }
def checkNamesRow : OpenClaim := { program := "ytafegodmliophaa", sum := "4b1fd9dede8c8688bb200fd761d30d3d87c12c87fc4a590f79964042bbe88339", func := "hallmark/hallmarklaw10.CheckNames", spec := "checkNames", apart := false }
def CheckNamesSaid : Prop := checkNamesRow.holds Try.pinned (OpenSpec.ofChange checkNamesSpec)

/-- ITS FALSE NEIGHBOUR: 'it returns false'. Refute it at one input. -/
def checkNamesWrong : ChangeSpec := { name := "checkNames", fn := fun _ => fun
  | [] => { results := [.lit (.bool false)], args := [] }
  | _ => none }
def CheckNamesWrongFalsely : Prop := checkNamesRow.holds Try.pinned (OpenSpec.ofChange checkNamesWrong)

/-- 'hallmarklaw18.SolveNames': WHATEVER THE INPUT: true; the input reads as it did. -/
def solveNamesSpec : ChangeSpec := { name := "solveNames", fn := fun _ => fun
  | [] => { results := [.lit (.bool true)], args := [] }
  | _ => none }
def solveNamesRow : OpenClaim := { program := "ytafegodmliophaa", sum := "4b1fd9dede8c8688bb200fd761d30d3d87c12c87fc4a590f79964042bbe88339", func := "hallmark/hallmarklaw18.SolveNames", spec := "solveNames", apart := false }
def SolveNamesSaid : Prop := solveNamesRow.holds Try.pinned (OpenSpec.ofChange solveNamesSpec)

/-- ITS FALSE NEIGHBOUR: 'it returns false'. Refute it at one input. -/
def solveNamesWrong : ChangeSpec := { name := "solveNames", fn := fun _ => fun
  | [] => { results := [.lit (.bool false)], args := [] }
  | _ => none }
def SolveNamesWrongFalsely : Prop := solveNamesRow.holds Try.pinned (OpenSpec.ofChange solveNamesWrong)

/-- 'hallmarklaw20.ScriptNames': WHATEVER THE INPUT: true; the input reads as it did. -/
def scriptNamesSpec : ChangeSpec := { name := "scriptNames", fn := fun _ => fun
  | [] => { results := [.lit (.bool true)], args := [] }
  | _ => none }
def scriptNamesRow : OpenClaim := { program := "ytafegodmliophaa", sum := "4b1fd9dede8c8688bb200fd761d30d3d87c12c87fc4a590f79964042bbe88339", func := "hallmark/hallmarklaw20.ScriptNames", spec := "scriptNames", apart := false }
def ScriptNamesSaid : Prop := scriptNamesRow.holds Try.pinned (OpenSpec.ofChange scriptNamesSpec)

/-- ITS FALSE NEIGHBOUR: 'it returns false'. Refute it at one input. -/
def scriptNamesWrong : ChangeSpec := { name := "scriptNames", fn := fun _ => fun
  | [] => { results := [.lit (.bool false)], args := [] }
  | _ => none }
def ScriptNamesWrongFalsely : Prop := scriptNamesRow.holds Try.pinned (OpenSpec.ofChange scriptNamesWrong)

/- THE SECOND FORM. 'bulk': how many values and letters a reading holds, each counted each time it is reached (what is shared counts as often as it is met; a slice's spare places count too). A statement '..UptoSaid' is the law's where the arguments, and the package variables that the reading takes, are together of bulk at most 1048576: NARROWER than '..Said'. Prove '..Said' where nothing that the law and all that it calls make is longer than what came in: it says more and counts as full. Else prove '..UptoSaid'. A law counts once. -/
mutual
def uptoBulk {H : Type} : DataW H → Nat
  | .lit (.string bytes) => bytes.length + 1
  | .lit _ => 1
  | .nil => 1
  | .ptr d => uptoBulk d + 1
  | .slice elems spare => uptoBulkAll elems + uptoBulkAll spare + 1
  | .agg parts => uptoBulkAll parts + 1
  | .iface _ d => uptoBulk d + 1
  | .map entries => uptoBulkEntries entries + 1
  | .held _ => 1
def uptoBulkAll {H : Type} : List (DataW H) → Nat
  | [] => 0
  | d :: r => uptoBulk d + uptoBulkAll r
def uptoBulkEntries {H : Type} : List (Lit × DataW H) → Nat
  | [] => 0
  | x :: r => uptoBulkEntry x + uptoBulkEntries r
def uptoBulkEntry {H : Type} : Lit × DataW H → Nat
  | (.string bytes, d) => bytes.length + uptoBulk d + 1
  | (_, d) => uptoBulk d + 1
 end
def uptoSmall : (H : Type) → List (DataW H) → Bool := fun _ ds => decide (uptoBulkAll ds ≤ 1048576)
def OpenSpec.upto (s : _root_.Go.ChangeSpec) : _root_.Go.OpenSpec := { _root_.Go.OpenSpec.ofChange s with cond := some uptoSmall }

/-- 'hallmarklaw5.TextNames', WHERE WHAT IT READS IS OF BULK AT MOST 1048576: true; the input reads as it did. -/
def textNamesUptoRow : OpenClaim := { program := "ytafegodmliophaa", sum := "4b1fd9dede8c8688bb200fd761d30d3d87c12c87fc4a590f79964042bbe88339", func := "hallmark/hallmarklaw5.TextNames", spec := "textNames", apart := false, narrowed := true }
def TextNamesUptoSaid : Prop := textNamesUptoRow.holds Try.pinned (OpenSpec.upto textNamesSpec)

/-- 'hallmarklaw8.ProofNames', WHERE WHAT IT READS IS OF BULK AT MOST 1048576: true; the input reads as it did. -/
def proofNamesUptoRow : OpenClaim := { program := "ytafegodmliophaa", sum := "4b1fd9dede8c8688bb200fd761d30d3d87c12c87fc4a590f79964042bbe88339", func := "hallmark/hallmarklaw8.ProofNames", spec := "proofNames", apart := false, narrowed := true }
def ProofNamesUptoSaid : Prop := proofNamesUptoRow.holds Try.pinned (OpenSpec.upto proofNamesSpec)

/-- 'hallmarklaw16.WriteNames', WHERE WHAT IT READS IS OF BULK AT MOST 1048576: true; the input reads as it did. -/
def writeNamesUptoRow : OpenClaim := { program := "ytafegodmliophaa", sum := "4b1fd9dede8c8688bb200fd761d30d3d87c12c87fc4a590f79964042bbe88339", func := "hallmark/hallmarklaw16.WriteNames", spec := "writeNames", apart := false, narrowed := true }
def WriteNamesUptoSaid : Prop := writeNamesUptoRow.holds Try.pinned (OpenSpec.upto writeNamesSpec)

/-- 'hallmarklaw21.AuditNames', WHERE WHAT IT READS IS OF BULK AT MOST 1048576: true; the input reads as it did. -/
def auditNamesUptoRow : OpenClaim := { program := "ytafegodmliophaa", sum := "4b1fd9dede8c8688bb200fd761d30d3d87c12c87fc4a590f79964042bbe88339", func := "hallmark/hallmarklaw21.AuditNames", spec := "auditNames", apart := false, narrowed := true }
def AuditNamesUptoSaid : Prop := auditNamesUptoRow.holds Try.pinned (OpenSpec.upto auditNamesSpec)

/-- 'hallmarklaw10.CheckNames', WHERE WHAT IT READS IS OF BULK AT MOST 1048576: true; the input reads as it did. -/
def checkNamesUptoRow : OpenClaim := { program := "ytafegodmliophaa", sum := "4b1fd9dede8c8688bb200fd761d30d3d87c12c87fc4a590f79964042bbe88339", func := "hallmark/hallmarklaw10.CheckNames", spec := "checkNames", apart := false, narrowed := true }
def CheckNamesUptoSaid : Prop := checkNamesUptoRow.holds Try.pinned (OpenSpec.upto checkNamesSpec)

/-- 'hallmarklaw18.SolveNames', WHERE WHAT IT READS IS OF BULK AT MOST 1048576: true; the input reads as it did. -/
def solveNamesUptoRow : OpenClaim := { program := "ytafegodmliophaa", sum := "4b1fd9dede8c8688bb200fd761d30d3d87c12c87fc4a590f79964042bbe88339", func := "hallmark/hallmarklaw18.SolveNames", spec := "solveNames", apart := false, narrowed := true }
def SolveNamesUptoSaid : Prop := solveNamesUptoRow.holds Try.pinned (OpenSpec.upto solveNamesSpec)

/-- 'hallmarklaw20.ScriptNames', WHERE WHAT IT READS IS OF BULK AT MOST 1048576: true; the input reads as it did. -/
def scriptNamesUptoRow : OpenClaim := { program := "ytafegodmliophaa", sum := "4b1fd9dede8c8688bb200fd761d30d3d87c12c87fc4a590f79964042bbe88339", func := "hallmark/hallmarklaw20.ScriptNames", spec := "scriptNames", apart := false, narrowed := true }
def ScriptNamesUptoSaid : Prop := scriptNamesUptoRow.holds Try.pinned (OpenSpec.upto scriptNamesSpec)

end Rows
end Go.Proofs.Ytafegodmliophaa
