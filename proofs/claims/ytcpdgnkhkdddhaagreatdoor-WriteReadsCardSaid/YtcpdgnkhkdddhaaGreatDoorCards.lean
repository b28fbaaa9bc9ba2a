/-
  DERIVED. GIVEN WITH THE SEED: THE CARDS: each row of YtcpdgnkhkdddhaaGreatDoorRows.lean that lists a variable, with what it lists TIED to the program's text (the seventh form; the later family's looks); each row that meets fmt, with fmt's text TOLD by the authors' own Lean function (tested against real Go, not proved from fmt's source: count such statements apart). THE CARD IS WHAT COUNTS. Prove the row's statement (the work); the ties are given (YtcpdgnkhkdddhaaGreatDoorTie.lean); close each card by the builder's one call (the guide's Derived/Test/ToyasCard.lean, 'card_holds'). Laid BY PROGRAM, IN A SANDBOX (cutbox-door.mjs). By AI agents, Wed Nov 11 2026. No macro, syntax, notation, axiom, sorry.
-/
import Derived.Test.YtcpdgnkhkdddhaaGreatDoorRows
import GoSem.ClaimSeven
namespace Go.Proofs.YtcpdgnkhkdddhaaGreatDoor
namespace Rows

/-- THE TIED CARD OF 'hallmarklaw8.ProofPrints'. -/
def proofPrintsCard : Claim7 := { stood := { row := proofPrintsRow, standIns := [], harness := (true, "eb9b3500540eedfc9701de1939ade082c8bc645db8c5aff98fbf398531b91fa4"), looks := true }, kinds := [], alts := [], laidByText := true, laidKinds := [.data, .data, .data, .handle, .sentinel, .sentinel], laidTests := true, laidLooks := .later }
def ProofPrintsCardSaid : Prop := Claim7.holds Tryz.pinned (.plain (OpenSpec.ofChange proofPrintsSpec)) proofPrintsCard

/-- THE TIED CARD OF 'hallmarklaw21.AuditWeighs'. -/
def auditWeighsCard : Claim7 := { stood := { row := auditWeighsRow, standIns := [], harness := (true, "eb9b3500540eedfc9701de1939ade082c8bc645db8c5aff98fbf398531b91fa4"), looks := true }, kinds := [], alts := [], laidByText := true, laidKinds := [.data, .data, .data, .data, .handle, .sentinel, .sentinel, .pinned], laidTests := true, laidLooks := .later }
def AuditWeighsCardSaid : Prop := Claim7.holds Tryz.pinned (.plain (OpenSpec.ofChange auditWeighsSpec)) auditWeighsCard

/-- THE TIED CARD OF 'hallmarklaw8.ProofWrites'. -/
def proofWritesCard : Claim7 := { stood := { row := proofWritesRow, standIns := [], harness := (true, "eb9b3500540eedfc9701de1939ade082c8bc645db8c5aff98fbf398531b91fa4"), looks := true }, kinds := [], alts := [], laidByText := true, laidKinds := [.data, .data, .data, .handle, .sentinel, .sentinel], laidTests := true, laidLooks := .later }
def ProofWritesCardSaid : Prop := Claim7.holds Tryz.pinned (.plain (OpenSpec.ofChange proofWritesSpec)) proofWritesCard

/-- THE TIED CARD OF 'hallmarklaw16.WriteReads'. -/
def writeReadsCard : Claim7 := { stood := { row := writeReadsRow, standIns := [], harness := (true, "eb9b3500540eedfc9701de1939ade082c8bc645db8c5aff98fbf398531b91fa4"), looks := true }, kinds := [], alts := [], laidByText := true, laidKinds := [.data, .data, .data, .data, .handle, .sentinel, .sentinel, .pinned], laidTests := true, laidLooks := .later }
def WriteReadsCardSaid : Prop := Claim7.holds Tryz.pinned (.plain (OpenSpec.ofChange writeReadsSpec)) writeReadsCard

/-- THE SECOND FORM's CARD OF 'hallmarklaw8.ProofPrints'. -/
def proofPrintsUptoCard : Claim7 := { stood := { row := proofPrintsUptoRow, standIns := [], harness := (true, "eb9b3500540eedfc9701de1939ade082c8bc645db8c5aff98fbf398531b91fa4"), looks := true }, kinds := [], alts := [], laidByText := true, laidKinds := [.data, .data, .data, .handle, .sentinel, .sentinel], laidTests := true, laidLooks := .later }
def ProofPrintsUptoCardSaid : Prop := Claim7.holds Tryz.pinned (.plain (OpenSpec.upto proofPrintsSpec)) proofPrintsUptoCard

/-- THE SECOND FORM's CARD OF 'hallmarklaw21.AuditWeighs'. -/
def auditWeighsUptoCard : Claim7 := { stood := { row := auditWeighsUptoRow, standIns := [], harness := (true, "eb9b3500540eedfc9701de1939ade082c8bc645db8c5aff98fbf398531b91fa4"), looks := true }, kinds := [], alts := [], laidByText := true, laidKinds := [.data, .data, .data, .data, .handle, .sentinel, .sentinel, .pinned], laidTests := true, laidLooks := .later }
def AuditWeighsUptoCardSaid : Prop := Claim7.holds Tryz.pinned (.plain (OpenSpec.upto auditWeighsSpec)) auditWeighsUptoCard

/-- THE SECOND FORM's CARD OF 'hallmarklaw8.ProofWrites'. -/
def proofWritesUptoCard : Claim7 := { stood := { row := proofWritesUptoRow, standIns := [], harness := (true, "eb9b3500540eedfc9701de1939ade082c8bc645db8c5aff98fbf398531b91fa4"), looks := true }, kinds := [], alts := [], laidByText := true, laidKinds := [.data, .data, .data, .handle, .sentinel, .sentinel], laidTests := true, laidLooks := .later }
def ProofWritesUptoCardSaid : Prop := Claim7.holds Tryz.pinned (.plain (OpenSpec.upto proofWritesSpec)) proofWritesUptoCard

/-- THE SECOND FORM's CARD OF 'hallmarklaw16.WriteReads'. -/
def writeReadsUptoCard : Claim7 := { stood := { row := writeReadsUptoRow, standIns := [], harness := (true, "eb9b3500540eedfc9701de1939ade082c8bc645db8c5aff98fbf398531b91fa4"), looks := true }, kinds := [], alts := [], laidByText := true, laidKinds := [.data, .data, .data, .data, .handle, .sentinel, .sentinel, .pinned], laidTests := true, laidLooks := .later }
def WriteReadsUptoCardSaid : Prop := Claim7.holds Tryz.pinned (.plain (OpenSpec.upto writeReadsSpec)) writeReadsUptoCard
end Rows
end Go.Proofs.YtcpdgnkhkdddhaaGreatDoor
