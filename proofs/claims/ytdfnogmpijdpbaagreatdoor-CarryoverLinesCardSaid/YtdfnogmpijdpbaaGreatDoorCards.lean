/-
  DERIVED. GIVEN WITH THE SEED: THE CARDS: each row of YtdfnogmpijdpbaaGreatDoorRows.lean that lists a variable, with what it lists TIED to the program's text (the seventh form; the later family's looks); each row that meets fmt, with fmt's text TOLD by the authors' own Lean function (tested against real Go, not proved from fmt's source: count such statements apart). THE CARD IS WHAT COUNTS. Prove the row's statement (the work); the ties are given (YtdfnogmpijdpbaaGreatDoorTie.lean); close each card by the builder's one call (the guide's Derived/Test/ToyasCard.lean, 'card_holds'). Laid BY PROGRAM, IN A SANDBOX (cutbox-door.mjs). By AI agents, Wed Nov 11 2026. No macro, syntax, notation, axiom, sorry.
-/
import Derived.Test.YtdfnogmpijdpbaaGreatDoorRows
import GoSem.ClaimSeven
namespace Go.Proofs.YtdfnogmpijdpbaaGreatDoor
namespace Rows

/-- THE TIED CARD OF 'treasurylaw42.CarryoverLines'. -/
def carryoverLinesCard : Claim7 := { stood := { row := carryoverLinesRow, standIns := [], harness := (true, "8dbcacc54bf0ae2808dd93468972e4d6c0a92b10e18286bc46495de5fd6b9865"), looks := true }, kinds := [], alts := [], laidByText := true, laidKinds := [.data, .data, .data, .data, .sentinel, .sentinel, .pinned], laidTests := true, laidLooks := .later }
def CarryoverLinesCardSaid : Prop := Claim7.holds Tryz.pinned (.plain (OpenSpec.ofChange carryoverLinesSpec)) carryoverLinesCard

/-- THE SECOND FORM's CARD OF 'treasurylaw42.CarryoverLines'. -/
def carryoverLinesUptoCard : Claim7 := { stood := { row := carryoverLinesUptoRow, standIns := [], harness := (true, "8dbcacc54bf0ae2808dd93468972e4d6c0a92b10e18286bc46495de5fd6b9865"), looks := true }, kinds := [], alts := [], laidByText := true, laidKinds := [.data, .data, .data, .data, .sentinel, .sentinel, .pinned], laidTests := true, laidLooks := .later }
def CarryoverLinesUptoCardSaid : Prop := Claim7.holds Tryz.pinned (.plain (OpenSpec.upto carryoverLinesSpec)) carryoverLinesUptoCard
end Rows
end Go.Proofs.YtdfnogmpijdpbaaGreatDoor
