/-
  DERIVED. GIVEN WITH THE SEED: THE CARDS: each row of YtkajgkbhkkgdbaaGreatDoorRows.lean that lists a variable, with what it lists TIED to the program's text (the seventh form; the later family's looks); each row that meets fmt, with fmt's text TOLD by the authors' own Lean function (tested against real Go, not proved from fmt's source: count such statements apart). THE CARD IS WHAT COUNTS. Prove the row's statement (the work); the ties are given (YtkajgkbhkkgdbaaGreatDoorTie.lean); close each card by the builder's one call (the guide's Derived/Test/ToyasCard.lean, 'card_holds'). Laid BY PROGRAM, IN A SANDBOX (cutbox-door.mjs). By AI agents, Wed Nov 11 2026. No macro, syntax, notation, axiom, sorry.
-/
import Derived.Test.YtkajgkbhkkgdbaaGreatDoorRows
import GoSem.ClaimSeven
namespace Go.Proofs.YtkajgkbhkkgdbaaGreatDoor
namespace Rows

/-- THE TIED CARD OF 'treasurylaw07.ConstraintBreaches'. -/
def constraintBreachesCard : Claim7 := { stood := { row := constraintBreachesRow, standIns := [], harness := (true, "a1b0fed7b0308302c060f3b1695a3c273d906dfce1662c6f7abbf05fe5df52dd"), looks := true }, kinds := [], alts := [], laidByText := true, laidKinds := [.data, .data, .data, .data, .sentinel, .sentinel, .pinned], laidTests := true, laidLooks := .later }
def ConstraintBreachesCardSaid : Prop := Claim7.holds Tryz.pinned (.plain (OpenSpec.ofChange constraintBreachesSpec)) constraintBreachesCard

/-- THE TIED CARD OF 'treasurylaw07.ConstraintKept'. -/
def constraintKeptCard : Claim7 := { stood := { row := constraintKeptRow, standIns := [], harness := (true, "a1b0fed7b0308302c060f3b1695a3c273d906dfce1662c6f7abbf05fe5df52dd"), looks := true }, kinds := [], alts := [], laidByText := true, laidKinds := [.data, .data, .data, .data, .sentinel, .sentinel, .pinned], laidTests := true, laidLooks := .later }
def ConstraintKeptCardSaid : Prop := Claim7.holds Tryz.pinned (.plain (OpenSpec.ofChange constraintKeptSpec)) constraintKeptCard

/-- THE TIED CARD OF 'treasurylaw07.ConstraintAnswers'. -/
def constraintAnswersCard : Claim7 := { stood := { row := constraintAnswersRow, standIns := [], harness := (true, "a1b0fed7b0308302c060f3b1695a3c273d906dfce1662c6f7abbf05fe5df52dd"), looks := true }, kinds := [], alts := [], laidByText := true, laidKinds := [.data, .data, .data, .data, .sentinel, .sentinel, .pinned], laidTests := true, laidLooks := .later }
def ConstraintAnswersCardSaid : Prop := Claim7.holds Tryz.pinned (.plain (OpenSpec.ofChange constraintAnswersSpec)) constraintAnswersCard

/-- THE TIED CARD OF 'treasurylaw07.ConstraintFlow'. -/
def constraintFlowCard : Claim7 := { stood := { row := constraintFlowRow, standIns := [], harness := (true, "a1b0fed7b0308302c060f3b1695a3c273d906dfce1662c6f7abbf05fe5df52dd"), looks := true }, kinds := [], alts := [], laidByText := true, laidKinds := [.data, .data, .data, .data, .sentinel, .sentinel, .pinned], laidTests := true, laidLooks := .later }
def ConstraintFlowCardSaid : Prop := Claim7.holds Tryz.pinned (.plain (OpenSpec.ofChange constraintFlowSpec)) constraintFlowCard

/-- THE SECOND FORM's CARD OF 'treasurylaw07.ConstraintBreaches'. -/
def constraintBreachesUptoCard : Claim7 := { stood := { row := constraintBreachesUptoRow, standIns := [], harness := (true, "a1b0fed7b0308302c060f3b1695a3c273d906dfce1662c6f7abbf05fe5df52dd"), looks := true }, kinds := [], alts := [], laidByText := true, laidKinds := [.data, .data, .data, .data, .sentinel, .sentinel, .pinned], laidTests := true, laidLooks := .later }
def ConstraintBreachesUptoCardSaid : Prop := Claim7.holds Tryz.pinned (.plain (OpenSpec.upto constraintBreachesSpec)) constraintBreachesUptoCard

/-- THE SECOND FORM's CARD OF 'treasurylaw07.ConstraintKept'. -/
def constraintKeptUptoCard : Claim7 := { stood := { row := constraintKeptUptoRow, standIns := [], harness := (true, "a1b0fed7b0308302c060f3b1695a3c273d906dfce1662c6f7abbf05fe5df52dd"), looks := true }, kinds := [], alts := [], laidByText := true, laidKinds := [.data, .data, .data, .data, .sentinel, .sentinel, .pinned], laidTests := true, laidLooks := .later }
def ConstraintKeptUptoCardSaid : Prop := Claim7.holds Tryz.pinned (.plain (OpenSpec.upto constraintKeptSpec)) constraintKeptUptoCard

/-- THE SECOND FORM's CARD OF 'treasurylaw07.ConstraintAnswers'. -/
def constraintAnswersUptoCard : Claim7 := { stood := { row := constraintAnswersUptoRow, standIns := [], harness := (true, "a1b0fed7b0308302c060f3b1695a3c273d906dfce1662c6f7abbf05fe5df52dd"), looks := true }, kinds := [], alts := [], laidByText := true, laidKinds := [.data, .data, .data, .data, .sentinel, .sentinel, .pinned], laidTests := true, laidLooks := .later }
def ConstraintAnswersUptoCardSaid : Prop := Claim7.holds Tryz.pinned (.plain (OpenSpec.upto constraintAnswersSpec)) constraintAnswersUptoCard

/-- THE SECOND FORM's CARD OF 'treasurylaw07.ConstraintFlow'. -/
def constraintFlowUptoCard : Claim7 := { stood := { row := constraintFlowUptoRow, standIns := [], harness := (true, "a1b0fed7b0308302c060f3b1695a3c273d906dfce1662c6f7abbf05fe5df52dd"), looks := true }, kinds := [], alts := [], laidByText := true, laidKinds := [.data, .data, .data, .data, .sentinel, .sentinel, .pinned], laidTests := true, laidLooks := .later }
def ConstraintFlowUptoCardSaid : Prop := Claim7.holds Tryz.pinned (.plain (OpenSpec.upto constraintFlowSpec)) constraintFlowUptoCard
end Rows
end Go.Proofs.YtkajgkbhkkgdbaaGreatDoor
