/-
  DERIVED. GIVEN WITH THE SEED: THE CARDS: each row of YtogipknpafkfpaaGreatDoorRows.lean that lists a variable, with what it lists TIED to the program's text (the seventh form; the later family's looks); each row that meets fmt, with fmt's text TOLD by the authors' own Lean function (tested against real Go, not proved from fmt's source: count such statements apart). THE CARD IS WHAT COUNTS. Prove the row's statement (the work); the ties are given (YtogipknpafkfpaaGreatDoorTie.lean); close each card by the builder's one call (the guide's Derived/Test/ToyasCard.lean, 'card_holds'). Laid BY PROGRAM, IN A SANDBOX (cutbox-door.mjs). By AI agents, Wed Nov 11 2026. No macro, syntax, notation, axiom, sorry.
-/
import Derived.Test.YtogipknpafkfpaaGreatDoorRows
import GoSem.ClaimSeven
namespace Go.Proofs.YtogipknpafkfpaaGreatDoor
namespace Rows

/-- THE TIED CARD OF 'hallmarklaw8.ProofPrints'. -/
def proofPrintsCard : Claim7 := { stood := { row := proofPrintsRow, standIns := [], harness := (true, "bbb66720317442279b782f1405dafdcd23adf7e1e55f7aae2f5945799b197f18"), looks := true }, kinds := [], alts := [], laidByText := true, laidKinds := [.data, .data, .data, .handle, .sentinel, .sentinel], laidTests := true, laidLooks := .later }
def ProofPrintsCardSaid : Prop := Claim7.holds Tryz.pinned (.plain (OpenSpec.ofChange proofPrintsSpec)) proofPrintsCard

/-- THE TIED CARD OF 'hallmarklaw8.ProofWrites'. -/
def proofWritesCard : Claim7 := { stood := { row := proofWritesRow, standIns := [], harness := (true, "bbb66720317442279b782f1405dafdcd23adf7e1e55f7aae2f5945799b197f18"), looks := true }, kinds := [], alts := [], laidByText := true, laidKinds := [.data, .data, .data, .handle, .sentinel, .sentinel], laidTests := true, laidLooks := .later }
def ProofWritesCardSaid : Prop := Claim7.holds Tryz.pinned (.plain (OpenSpec.ofChange proofWritesSpec)) proofWritesCard

/-- THE SECOND FORM's CARD OF 'hallmarklaw8.ProofPrints'. -/
def proofPrintsUptoCard : Claim7 := { stood := { row := proofPrintsUptoRow, standIns := [], harness := (true, "bbb66720317442279b782f1405dafdcd23adf7e1e55f7aae2f5945799b197f18"), looks := true }, kinds := [], alts := [], laidByText := true, laidKinds := [.data, .data, .data, .handle, .sentinel, .sentinel], laidTests := true, laidLooks := .later }
def ProofPrintsUptoCardSaid : Prop := Claim7.holds Tryz.pinned (.plain (OpenSpec.upto proofPrintsSpec)) proofPrintsUptoCard

/-- THE SECOND FORM's CARD OF 'hallmarklaw8.ProofWrites'. -/
def proofWritesUptoCard : Claim7 := { stood := { row := proofWritesUptoRow, standIns := [], harness := (true, "bbb66720317442279b782f1405dafdcd23adf7e1e55f7aae2f5945799b197f18"), looks := true }, kinds := [], alts := [], laidByText := true, laidKinds := [.data, .data, .data, .handle, .sentinel, .sentinel], laidTests := true, laidLooks := .later }
def ProofWritesUptoCardSaid : Prop := Claim7.holds Tryz.pinned (.plain (OpenSpec.upto proofWritesSpec)) proofWritesUptoCard
end Rows
end Go.Proofs.YtogipknpafkfpaaGreatDoor
