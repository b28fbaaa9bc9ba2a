/-
  DERIVED. GIVEN WITH THE SEED: THE CARDS: each row of YtjpboanohpaibaaGreatDoorRows.lean that lists a variable, with what it lists TIED to the program's text (the seventh form; the later family's looks); each row that meets fmt, with fmt's text TOLD by the authors' own Lean function (tested against real Go, not proved from fmt's source: count such statements apart). THE CARD IS WHAT COUNTS. Prove the row's statement (the work); the ties are given (YtjpboanohpaibaaGreatDoorTie.lean); close each card by the builder's one call (the guide's Derived/Test/ToyasCard.lean, 'card_holds'). Laid BY PROGRAM, IN A SANDBOX (cutbox-door.mjs). By AI agents, Wed Nov 11 2026. No macro, syntax, notation, axiom, sorry.
-/
import Derived.Test.YtjpboanohpaibaaGreatDoorRows
import GoSem.ClaimSeven
namespace Go.Proofs.YtjpboanohpaibaaGreatDoor
namespace Rows

/-- THE TIED CARD OF 'hallmarklaw21.AuditTrue'. -/
def auditTrueCard : Claim7 := { stood := { row := auditTrueRow, standIns := [], harness := (true, "eac9fa2e6e5b199a72ccaa570ea30da224e6ed0c19a09a72faa970ac3cd8fada"), looks := true }, kinds := [], alts := [], laidByText := true, laidKinds := [.data, .data, .data, .data, .handle, .sentinel, .sentinel, .pinned], laidTests := true, laidLooks := .later }
def AuditTrueCardSaid : Prop := Claim7.holds Tryz.pinned (.plain (OpenSpec.ofChange auditTrueSpec)) auditTrueCard

/-- THE TIED CARD OF 'hallmarklaw21.AuditPlain'. -/
def auditPlainCard : Claim7 := { stood := { row := auditPlainRow, standIns := [], harness := (true, "eac9fa2e6e5b199a72ccaa570ea30da224e6ed0c19a09a72faa970ac3cd8fada"), looks := true }, kinds := [], alts := [], laidByText := true, laidKinds := [.data, .data, .data, .data, .handle, .sentinel, .sentinel, .pinned], laidTests := true, laidLooks := .later }
def AuditPlainCardSaid : Prop := Claim7.holds Tryz.pinned (.plain (OpenSpec.ofChange auditPlainSpec)) auditPlainCard

/-- THE TIED CARD OF 'hallmarklaw21.AuditMore'. -/
def auditMoreCard : Claim7 := { stood := { row := auditMoreRow, standIns := [], harness := (true, "eac9fa2e6e5b199a72ccaa570ea30da224e6ed0c19a09a72faa970ac3cd8fada"), looks := true }, kinds := [], alts := [], laidByText := true, laidKinds := [.data, .data, .data, .data, .handle, .sentinel, .sentinel, .pinned], laidTests := true, laidLooks := .later }
def AuditMoreCardSaid : Prop := Claim7.holds Tryz.pinned (.plain (OpenSpec.ofChange auditMoreSpec)) auditMoreCard

/-- THE TIED CARD OF 'hallmarklaw21.AuditLines'. -/
def auditLinesCard : Claim7 := { stood := { row := auditLinesRow, standIns := [], harness := (true, "eac9fa2e6e5b199a72ccaa570ea30da224e6ed0c19a09a72faa970ac3cd8fada"), looks := true }, kinds := [], alts := [], laidByText := true, laidKinds := [.data, .data, .data, .data, .handle, .sentinel, .sentinel, .pinned], laidTests := true, laidLooks := .later }
def AuditLinesCardSaid : Prop := Claim7.holds Tryz.pinned (.plain (OpenSpec.ofChange auditLinesSpec)) auditLinesCard

/-- THE SECOND FORM's CARD OF 'hallmarklaw21.AuditTrue'. -/
def auditTrueUptoCard : Claim7 := { stood := { row := auditTrueUptoRow, standIns := [], harness := (true, "eac9fa2e6e5b199a72ccaa570ea30da224e6ed0c19a09a72faa970ac3cd8fada"), looks := true }, kinds := [], alts := [], laidByText := true, laidKinds := [.data, .data, .data, .data, .handle, .sentinel, .sentinel, .pinned], laidTests := true, laidLooks := .later }
def AuditTrueUptoCardSaid : Prop := Claim7.holds Tryz.pinned (.plain (OpenSpec.upto auditTrueSpec)) auditTrueUptoCard

/-- THE SECOND FORM's CARD OF 'hallmarklaw21.AuditPlain'. -/
def auditPlainUptoCard : Claim7 := { stood := { row := auditPlainUptoRow, standIns := [], harness := (true, "eac9fa2e6e5b199a72ccaa570ea30da224e6ed0c19a09a72faa970ac3cd8fada"), looks := true }, kinds := [], alts := [], laidByText := true, laidKinds := [.data, .data, .data, .data, .handle, .sentinel, .sentinel, .pinned], laidTests := true, laidLooks := .later }
def AuditPlainUptoCardSaid : Prop := Claim7.holds Tryz.pinned (.plain (OpenSpec.upto auditPlainSpec)) auditPlainUptoCard

/-- THE SECOND FORM's CARD OF 'hallmarklaw21.AuditMore'. -/
def auditMoreUptoCard : Claim7 := { stood := { row := auditMoreUptoRow, standIns := [], harness := (true, "eac9fa2e6e5b199a72ccaa570ea30da224e6ed0c19a09a72faa970ac3cd8fada"), looks := true }, kinds := [], alts := [], laidByText := true, laidKinds := [.data, .data, .data, .data, .handle, .sentinel, .sentinel, .pinned], laidTests := true, laidLooks := .later }
def AuditMoreUptoCardSaid : Prop := Claim7.holds Tryz.pinned (.plain (OpenSpec.upto auditMoreSpec)) auditMoreUptoCard

/-- THE SECOND FORM's CARD OF 'hallmarklaw21.AuditLines'. -/
def auditLinesUptoCard : Claim7 := { stood := { row := auditLinesUptoRow, standIns := [], harness := (true, "eac9fa2e6e5b199a72ccaa570ea30da224e6ed0c19a09a72faa970ac3cd8fada"), looks := true }, kinds := [], alts := [], laidByText := true, laidKinds := [.data, .data, .data, .data, .handle, .sentinel, .sentinel, .pinned], laidTests := true, laidLooks := .later }
def AuditLinesUptoCardSaid : Prop := Claim7.holds Tryz.pinned (.plain (OpenSpec.upto auditLinesSpec)) auditLinesUptoCard
end Rows
end Go.Proofs.YtjpboanohpaibaaGreatDoor
