/-
  DERIVED. GIVEN WITH THE SEED: THE CARDS: each row of YthdlbokgbkejnaaGreatDoorRows.lean that lists a variable, with what it lists TIED to the program's text (the seventh form; the later family's looks); each row that meets fmt, with fmt's text TOLD by the authors' own Lean function (tested against real Go, not proved from fmt's source: count such statements apart). THE CARD IS WHAT COUNTS. Prove the row's statement (the work); the ties are given (YthdlbokgbkejnaaGreatDoorTie.lean); close each card by the builder's one call (the guide's Derived/Test/ToyasCard.lean, 'card_holds'). Laid BY PROGRAM, IN A SANDBOX (cutbox-door.mjs). By AI agents, Wed Nov 11 2026. No macro, syntax, notation, axiom, sorry.
-/
import Derived.Test.YthdlbokgbkejnaaGreatDoorRows
import GoSem.ClaimSeven
namespace Go.Proofs.YthdlbokgbkejnaaGreatDoor
namespace Rows

/-- THE TIED CARD OF 'treasurylaw03.ClassificationAnswers'. -/
def classificationAnswersCard : Claim7 := { stood := { row := classificationAnswersRow, standIns := [], harness := (true, "22a9087d58a2510b534aa66784395d4b09b524eae032f38a70471c2352d94289"), looks := true }, kinds := [], alts := [], laidByText := true, laidKinds := [.data, .data, .data, .data, .sentinel, .sentinel, .pinned], laidTests := true, laidLooks := .later }
def ClassificationAnswersCardSaid : Prop := Claim7.holds Tryz.pinned (.plain (OpenSpec.ofChange classificationAnswersSpec)) classificationAnswersCard

/-- THE SECOND FORM's CARD OF 'treasurylaw03.ClassificationAnswers'. -/
def classificationAnswersUptoCard : Claim7 := { stood := { row := classificationAnswersUptoRow, standIns := [], harness := (true, "22a9087d58a2510b534aa66784395d4b09b524eae032f38a70471c2352d94289"), looks := true }, kinds := [], alts := [], laidByText := true, laidKinds := [.data, .data, .data, .data, .sentinel, .sentinel, .pinned], laidTests := true, laidLooks := .later }
def ClassificationAnswersUptoCardSaid : Prop := Claim7.holds Tryz.pinned (.plain (OpenSpec.upto classificationAnswersSpec)) classificationAnswersUptoCard
end Rows
end Go.Proofs.YthdlbokgbkejnaaGreatDoor
