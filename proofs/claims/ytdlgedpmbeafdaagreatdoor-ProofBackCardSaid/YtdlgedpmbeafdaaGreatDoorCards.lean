/-
  DERIVED. GIVEN WITH THE SEED: THE CARDS: each row of YtdlgedpmbeafdaaGreatDoorRows.lean that lists a variable, with what it lists TIED to the program's text (the seventh form; the later family's looks); each row that meets fmt, with fmt's text TOLD by the authors' own Lean function (tested against real Go, not proved from fmt's source: count such statements apart). THE CARD IS WHAT COUNTS. Prove the row's statement (the work); the ties are given (YtdlgedpmbeafdaaGreatDoorTie.lean); close each card by the builder's one call (the guide's Derived/Test/ToyasCard.lean, 'card_holds'). Laid BY PROGRAM, IN A SANDBOX (cutbox-door.mjs). By AI agents, Wed Nov 11 2026. No macro, syntax, notation, axiom, sorry.
-/
import Derived.Test.YtdlgedpmbeafdaaGreatDoorRows
import GoSem.ClaimSeven
namespace Go.Proofs.YtdlgedpmbeafdaaGreatDoor
namespace Rows

/-- THE TIED CARD OF 'hallmarklaw8.ProofAlone'. -/
def proofAloneCard : Claim7 := { stood := { row := proofAloneRow, standIns := [], harness := (true, "834bb0dd8cad775c5947b7b86f60cce33bbce4c65ec49f3d41a1eb60eac891a7"), looks := true }, kinds := [], alts := [], laidByText := true, laidKinds := [.data, .data, .data, .data, .handle, .sentinel, .sentinel, .pinned], laidTests := true, laidLooks := .later }
def ProofAloneCardSaid : Prop := Claim7.holds Tryz.pinned (.plain (OpenSpec.ofChange proofAloneSpec)) proofAloneCard

/-- THE TIED CARD OF 'hallmarklaw8.ProofBack'. -/
def proofBackCard : Claim7 := { stood := { row := proofBackRow, standIns := [], harness := (true, "834bb0dd8cad775c5947b7b86f60cce33bbce4c65ec49f3d41a1eb60eac891a7"), looks := true }, kinds := [], alts := [], laidByText := true, laidKinds := [.data, .data, .data, .data, .handle, .sentinel, .sentinel, .pinned], laidTests := true, laidLooks := .later }
def ProofBackCardSaid : Prop := Claim7.holds Tryz.pinned (.plain (OpenSpec.ofChange proofBackSpec)) proofBackCard

/-- THE TIED CARD OF 'hallmarklaw8.ProofAgain'. -/
def proofAgainCard : Claim7 := { stood := { row := proofAgainRow, standIns := [], harness := (true, "834bb0dd8cad775c5947b7b86f60cce33bbce4c65ec49f3d41a1eb60eac891a7"), looks := true }, kinds := [], alts := [], laidByText := true, laidKinds := [.data, .data, .data, .data, .handle, .sentinel, .sentinel, .pinned], laidTests := true, laidLooks := .later }
def ProofAgainCardSaid : Prop := Claim7.holds Tryz.pinned (.plain (OpenSpec.ofChange proofAgainSpec)) proofAgainCard

/-- THE SECOND FORM's CARD OF 'hallmarklaw8.ProofAlone'. -/
def proofAloneUptoCard : Claim7 := { stood := { row := proofAloneUptoRow, standIns := [], harness := (true, "834bb0dd8cad775c5947b7b86f60cce33bbce4c65ec49f3d41a1eb60eac891a7"), looks := true }, kinds := [], alts := [], laidByText := true, laidKinds := [.data, .data, .data, .data, .handle, .sentinel, .sentinel, .pinned], laidTests := true, laidLooks := .later }
def ProofAloneUptoCardSaid : Prop := Claim7.holds Tryz.pinned (.plain (OpenSpec.upto proofAloneSpec)) proofAloneUptoCard

/-- THE SECOND FORM's CARD OF 'hallmarklaw8.ProofBack'. -/
def proofBackUptoCard : Claim7 := { stood := { row := proofBackUptoRow, standIns := [], harness := (true, "834bb0dd8cad775c5947b7b86f60cce33bbce4c65ec49f3d41a1eb60eac891a7"), looks := true }, kinds := [], alts := [], laidByText := true, laidKinds := [.data, .data, .data, .data, .handle, .sentinel, .sentinel, .pinned], laidTests := true, laidLooks := .later }
def ProofBackUptoCardSaid : Prop := Claim7.holds Tryz.pinned (.plain (OpenSpec.upto proofBackSpec)) proofBackUptoCard

/-- THE SECOND FORM's CARD OF 'hallmarklaw8.ProofAgain'. -/
def proofAgainUptoCard : Claim7 := { stood := { row := proofAgainUptoRow, standIns := [], harness := (true, "834bb0dd8cad775c5947b7b86f60cce33bbce4c65ec49f3d41a1eb60eac891a7"), looks := true }, kinds := [], alts := [], laidByText := true, laidKinds := [.data, .data, .data, .data, .handle, .sentinel, .sentinel, .pinned], laidTests := true, laidLooks := .later }
def ProofAgainUptoCardSaid : Prop := Claim7.holds Tryz.pinned (.plain (OpenSpec.upto proofAgainSpec)) proofAgainUptoCard
end Rows
end Go.Proofs.YtdlgedpmbeafdaaGreatDoor
