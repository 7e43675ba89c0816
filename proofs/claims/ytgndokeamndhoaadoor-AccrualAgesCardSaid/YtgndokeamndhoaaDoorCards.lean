/-
  DERIVED. GIVEN WITH THE SEED: THE CARDS: each row of YtgndokeamndhoaaDoorRows.lean that lists a variable, with what it lists TIED to the program's text (the seventh form; the later family's looks); each row that meets fmt, with fmt's text TOLD by the authors' own Lean function (tested against real Go, not proved from fmt's source: count such statements apart). THE CARD IS WHAT COUNTS. Prove the row's statement (the work); the ties are given (YtgndokeamndhoaaDoorTie.lean); close each card by the builder's one call (the guide's Derived/Test/ToyasCard.lean, 'card_holds'). Laid BY PROGRAM, IN A SANDBOX (cutbox-door.mjs). By AI agents, Wed Nov 11 2026. No macro, syntax, notation, axiom, sorry.
-/
import Derived.Test.YtgndokeamndhoaaDoorRows
import GoSem.ClaimSeven
namespace Go.Proofs.YtgndokeamndhoaaDoor
namespace Rows

/-- THE TIED CARD OF 'treasurylaw41.AccrualAges'. -/
def accrualAgesCard : Claim7 := { stood := { row := accrualAgesRow, standIns := [], harness := (true, "ccff0b75d67266bbd562f7d96d00d508bad0ba2d6a0ee5acaa5d8ec838fd274e"), looks := true }, kinds := [], alts := [], laidByText := true, laidKinds := [.data, .data, .data, .data, .sentinel, .sentinel, .pinned], laidTests := true, laidLooks := .later }
def AccrualAgesCardSaid : Prop := Claim7.holds Tryd.pinned (.plain (OpenSpec.ofChange accrualAgesSpec)) accrualAgesCard

/-- THE SECOND FORM's CARD OF 'treasurylaw41.AccrualAges'. -/
def accrualAgesUptoCard : Claim7 := { stood := { row := accrualAgesUptoRow, standIns := [], harness := (true, "ccff0b75d67266bbd562f7d96d00d508bad0ba2d6a0ee5acaa5d8ec838fd274e"), looks := true }, kinds := [], alts := [], laidByText := true, laidKinds := [.data, .data, .data, .data, .sentinel, .sentinel, .pinned], laidTests := true, laidLooks := .later }
def AccrualAgesUptoCardSaid : Prop := Claim7.holds Tryd.pinned (.plain (OpenSpec.upto accrualAgesSpec)) accrualAgesUptoCard
end Rows
end Go.Proofs.YtgndokeamndhoaaDoor
