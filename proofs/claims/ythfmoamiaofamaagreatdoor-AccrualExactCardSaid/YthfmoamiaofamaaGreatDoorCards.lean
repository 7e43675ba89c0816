/-
  DERIVED. GIVEN WITH THE SEED: THE CARDS: each row of YthfmoamiaofamaaGreatDoorRows.lean that lists a variable, with what it lists TIED to the program's text (the seventh form; the later family's looks); each row that meets fmt, with fmt's text TOLD by the authors' own Lean function (tested against real Go, not proved from fmt's source: count such statements apart). THE CARD IS WHAT COUNTS. Prove the row's statement (the work); the ties are given (YthfmoamiaofamaaGreatDoorTie.lean); close each card by the builder's one call (the guide's Derived/Test/ToyasCard.lean, 'card_holds'). Laid BY PROGRAM, IN A SANDBOX (cutbox-door.mjs). By AI agents, Wed Nov 11 2026. No macro, syntax, notation, axiom, sorry.
-/
import Derived.Test.YthfmoamiaofamaaGreatDoorRows
import GoSem.ClaimSeven
namespace Go.Proofs.YthfmoamiaofamaaGreatDoor
namespace Rows

/-- THE TIED CARD OF 'treasurylaw41.AccrualExact'. -/
def accrualExactCard : Claim7 := { stood := { row := accrualExactRow, standIns := [], harness := (true, "51082f6fd6e00c1b4f889eef85539115e7f3d4051c831b88717c37bff27aab83"), looks := true }, kinds := [], alts := [], laidByText := true, laidKinds := [.data, .data, .data, .data, .sentinel, .sentinel, .pinned], laidTests := true, laidLooks := .later }
def AccrualExactCardSaid : Prop := Claim7.holds Tryz.pinned (.plain (OpenSpec.ofChange accrualExactSpec)) accrualExactCard

/-- THE SECOND FORM's CARD OF 'treasurylaw41.AccrualExact'. -/
def accrualExactUptoCard : Claim7 := { stood := { row := accrualExactUptoRow, standIns := [], harness := (true, "51082f6fd6e00c1b4f889eef85539115e7f3d4051c831b88717c37bff27aab83"), looks := true }, kinds := [], alts := [], laidByText := true, laidKinds := [.data, .data, .data, .data, .sentinel, .sentinel, .pinned], laidTests := true, laidLooks := .later }
def AccrualExactUptoCardSaid : Prop := Claim7.holds Tryz.pinned (.plain (OpenSpec.upto accrualExactSpec)) accrualExactUptoCard
end Rows
end Go.Proofs.YthfmoamiaofamaaGreatDoor
