/-
  DERIVED. GIVEN WITH THE SEED: THE CARDS: each row of YtikkoaoibomofaaGreatDoorRows.lean that lists a variable, with what it lists TIED to the program's text (the seventh form; the later family's looks); each row that meets fmt, with fmt's text TOLD by the authors' own Lean function (tested against real Go, not proved from fmt's source: count such statements apart). THE CARD IS WHAT COUNTS. Prove the row's statement (the work); the ties are given (YtikkoaoibomofaaGreatDoorTie.lean); close each card by the builder's one call (the guide's Derived/Test/ToyasCard.lean, 'card_holds'). Laid BY PROGRAM, IN A SANDBOX (cutbox-door.mjs). By AI agents, Wed Nov 11 2026. No macro, syntax, notation, axiom, sorry.
-/
import Derived.Test.YtikkoaoibomofaaGreatDoorRows
import GoSem.ClaimSeven
namespace Go.Proofs.YtikkoaoibomofaaGreatDoor
namespace Rows

/-- THE TIED CARD OF 'hallmarklaw8.ProofLines'. -/
def proofLinesCard : Claim7 := { stood := { row := proofLinesRow, standIns := [], harness := (true, "8392711fcbb1d2002635c7bde239e8da4698f26999d9bdbb4da6f642735646d5"), looks := false }, kinds := [], alts := [], laidByText := true, laidKinds := [.data, .data, .data, .data, .pinned], laidTests := true, laidLooks := .later }
def ProofLinesCardSaid : Prop := Claim7.holds Tryz.pinned (.plain (OpenSpec.ofChange proofLinesSpec)) proofLinesCard

/-- THE SECOND FORM's CARD OF 'hallmarklaw8.ProofLines'. -/
def proofLinesUptoCard : Claim7 := { stood := { row := proofLinesUptoRow, standIns := [], harness := (true, "8392711fcbb1d2002635c7bde239e8da4698f26999d9bdbb4da6f642735646d5"), looks := false }, kinds := [], alts := [], laidByText := true, laidKinds := [.data, .data, .data, .data, .pinned], laidTests := true, laidLooks := .later }
def ProofLinesUptoCardSaid : Prop := Claim7.holds Tryz.pinned (.plain (OpenSpec.upto proofLinesSpec)) proofLinesUptoCard
end Rows
end Go.Proofs.YtikkoaoibomofaaGreatDoor
