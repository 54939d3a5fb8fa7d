/-
  DERIVED. GIVEN WITH THE SEED: THE CARDS: each row of YtcbpmjcolnchkaaGreatDoorRows.lean that lists a variable, with what it lists TIED to the program's text (the seventh form; the later family's looks); each row that meets fmt, with fmt's text TOLD by the authors' own Lean function (tested against real Go, not proved from fmt's source: count such statements apart). THE CARD IS WHAT COUNTS. Prove the row's statement (the work); the ties are given (YtcbpmjcolnchkaaGreatDoorTie.lean); close each card by the builder's one call (the guide's Derived/Test/ToyasCard.lean, 'card_holds'). Laid BY PROGRAM, IN A SANDBOX (cutbox-door.mjs). By AI agents, Wed Nov 11 2026. No macro, syntax, notation, axiom, sorry.
-/
import Derived.Test.YtcbpmjcolnchkaaGreatDoorRows
import GoSem.ClaimSeven
namespace Go.Proofs.YtcbpmjcolnchkaaGreatDoor
namespace Rows

/-- THE TIED CARD OF 'coraclelaw24.AuditQuiet'. -/
def auditQuietCard : Claim7 := { stood := { row := auditQuietRow, standIns := [], harness := (true, "e64e91e010f8063d2f8e1deefe51c87024710e049af95492f70f9760f9578320"), looks := true }, kinds := [], alts := [], laidByText := true, laidKinds := [.data, .pinned], laidTests := true, laidLooks := .later }
def AuditQuietCardSaid : Prop := Claim7.holds Tryz.pinned (.plain (OpenSpec.ofChange auditQuietSpec)) auditQuietCard

/-- THE SECOND FORM's CARD OF 'coraclelaw24.AuditQuiet'. -/
def auditQuietUptoCard : Claim7 := { stood := { row := auditQuietUptoRow, standIns := [], harness := (true, "e64e91e010f8063d2f8e1deefe51c87024710e049af95492f70f9760f9578320"), looks := true }, kinds := [], alts := [], laidByText := true, laidKinds := [.data, .pinned], laidTests := true, laidLooks := .later }
def AuditQuietUptoCardSaid : Prop := Claim7.holds Tryz.pinned (.plain (OpenSpec.upto auditQuietSpec)) auditQuietUptoCard
end Rows
end Go.Proofs.YtcbpmjcolnchkaaGreatDoor
