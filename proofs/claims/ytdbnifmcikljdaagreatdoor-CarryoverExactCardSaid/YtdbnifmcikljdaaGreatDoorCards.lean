/-
  DERIVED. GIVEN WITH THE SEED: THE CARDS: each row of YtdbnifmcikljdaaGreatDoorRows.lean that lists a variable, with what it lists TIED to the program's text (the seventh form; the later family's looks); each row that meets fmt, with fmt's text TOLD by the authors' own Lean function (tested against real Go, not proved from fmt's source: count such statements apart). THE CARD IS WHAT COUNTS. Prove the row's statement (the work); the ties are given (YtdbnifmcikljdaaGreatDoorTie.lean); close each card by the builder's one call (the guide's Derived/Test/ToyasCard.lean, 'card_holds'). Laid BY PROGRAM, IN A SANDBOX (cutbox-door.mjs). By AI agents, Wed Nov 11 2026. No macro, syntax, notation, axiom, sorry.
-/
import Derived.Test.YtdbnifmcikljdaaGreatDoorRows
import GoSem.ClaimSeven
namespace Go.Proofs.YtdbnifmcikljdaaGreatDoor
namespace Rows

/-- THE TIED CARD OF 'treasurylaw42.CarryoverExact'. -/
def carryoverExactCard : Claim7 := { stood := { row := carryoverExactRow, standIns := [], harness := (true, "fba9c00b9d618e9680ab7cecf942c9cbf5f7e2a87f5ae5d30048ba689254c804"), looks := true }, kinds := [], alts := [], laidByText := true, laidKinds := [.data, .data, .data, .data, .sentinel, .sentinel, .pinned], laidTests := true, laidLooks := .later }
def CarryoverExactCardSaid : Prop := Claim7.holds Tryz.pinned (.plain (OpenSpec.ofChange carryoverExactSpec)) carryoverExactCard

/-- THE SECOND FORM's CARD OF 'treasurylaw42.CarryoverExact'. -/
def carryoverExactUptoCard : Claim7 := { stood := { row := carryoverExactUptoRow, standIns := [], harness := (true, "fba9c00b9d618e9680ab7cecf942c9cbf5f7e2a87f5ae5d30048ba689254c804"), looks := true }, kinds := [], alts := [], laidByText := true, laidKinds := [.data, .data, .data, .data, .sentinel, .sentinel, .pinned], laidTests := true, laidLooks := .later }
def CarryoverExactUptoCardSaid : Prop := Claim7.holds Tryz.pinned (.plain (OpenSpec.upto carryoverExactSpec)) carryoverExactUptoCard
end Rows
end Go.Proofs.YtdbnifmcikljdaaGreatDoor
