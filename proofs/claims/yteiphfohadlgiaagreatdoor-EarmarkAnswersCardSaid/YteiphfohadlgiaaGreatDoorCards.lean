/-
  DERIVED. GIVEN WITH THE SEED: THE CARDS: each row of YteiphfohadlgiaaGreatDoorRows.lean that lists a variable, with what it lists TIED to the program's text (the seventh form; the later family's looks); each row that meets fmt, with fmt's text TOLD by the authors' own Lean function (tested against real Go, not proved from fmt's source: count such statements apart). THE CARD IS WHAT COUNTS. Prove the row's statement (the work); the ties are given (YteiphfohadlgiaaGreatDoorTie.lean); close each card by the builder's one call (the guide's Derived/Test/ToyasCard.lean, 'card_holds'). Laid BY PROGRAM, IN A SANDBOX (cutbox-door.mjs). By AI agents, Wed Nov 11 2026. No macro, syntax, notation, axiom, sorry.
-/
import Derived.Test.YteiphfohadlgiaaGreatDoorRows
import GoSem.ClaimSeven
namespace Go.Proofs.YteiphfohadlgiaaGreatDoor
namespace Rows

/-- THE TIED CARD OF 'treasurylaw11.EarmarkAnswers'. -/
def earmarkAnswersCard : Claim7 := { stood := { row := earmarkAnswersRow, standIns := [], harness := (true, "a595eb402361d2ee8c3b566d34ca5e1082e64618365854b54ccacc4edde4c575"), looks := true }, kinds := [], alts := [], laidByText := true, laidKinds := [.data, .data, .data, .data, .sentinel, .sentinel, .pinned], laidTests := true, laidLooks := .later }
def EarmarkAnswersCardSaid : Prop := Claim7.holds Tryz.pinned (.plain (OpenSpec.ofChange earmarkAnswersSpec)) earmarkAnswersCard

/-- THE SECOND FORM's CARD OF 'treasurylaw11.EarmarkAnswers'. -/
def earmarkAnswersUptoCard : Claim7 := { stood := { row := earmarkAnswersUptoRow, standIns := [], harness := (true, "a595eb402361d2ee8c3b566d34ca5e1082e64618365854b54ccacc4edde4c575"), looks := true }, kinds := [], alts := [], laidByText := true, laidKinds := [.data, .data, .data, .data, .sentinel, .sentinel, .pinned], laidTests := true, laidLooks := .later }
def EarmarkAnswersUptoCardSaid : Prop := Claim7.holds Tryz.pinned (.plain (OpenSpec.upto earmarkAnswersSpec)) earmarkAnswersUptoCard
end Rows
end Go.Proofs.YteiphfohadlgiaaGreatDoor
