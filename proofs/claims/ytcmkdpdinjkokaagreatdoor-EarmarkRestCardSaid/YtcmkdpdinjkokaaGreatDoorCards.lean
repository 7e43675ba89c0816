/-
  DERIVED. GIVEN WITH THE SEED: THE CARDS: each row of YtcmkdpdinjkokaaGreatDoorRows.lean that lists a variable, with what it lists TIED to the program's text (the seventh form; the later family's looks); each row that meets fmt, with fmt's text TOLD by the authors' own Lean function (tested against real Go, not proved from fmt's source: count such statements apart). THE CARD IS WHAT COUNTS. Prove the row's statement (the work); the ties are given (YtcmkdpdinjkokaaGreatDoorTie.lean); close each card by the builder's one call (the guide's Derived/Test/ToyasCard.lean, 'card_holds'). Laid BY PROGRAM, IN A SANDBOX (cutbox-door.mjs). By AI agents, Wed Nov 11 2026. No macro, syntax, notation, axiom, sorry.
-/
import Derived.Test.YtcmkdpdinjkokaaGreatDoorRows
import GoSem.ClaimSeven
namespace Go.Proofs.YtcmkdpdinjkokaaGreatDoor
namespace Rows

/-- THE TIED CARD OF 'treasurylaw11.EarmarkCuts'. -/
def earmarkCutsCard : Claim7 := { stood := { row := earmarkCutsRow, standIns := [], harness := (true, "7dadc1ad250acc5005478b555866757279208a91b55232816553c79d44d72847"), looks := true }, kinds := [], alts := [], laidByText := true, laidKinds := [.data, .data, .data, .data, .sentinel, .sentinel, .pinned], laidTests := true, laidLooks := .later }
def EarmarkCutsCardSaid : Prop := Claim7.holds Tryz.pinned (.plain (OpenSpec.ofChange earmarkCutsSpec)) earmarkCutsCard

/-- THE TIED CARD OF 'treasurylaw10.ConditionStays'. -/
def conditionStaysCard : Claim7 := { stood := { row := conditionStaysRow, standIns := [], harness := (true, "7dadc1ad250acc5005478b555866757279208a91b55232816553c79d44d72847"), looks := true }, kinds := [], alts := [], laidByText := true, laidKinds := [.data, .data, .data, .data, .sentinel, .sentinel, .pinned], laidTests := true, laidLooks := .later }
def ConditionStaysCardSaid : Prop := Claim7.holds Tryz.pinned (.plain (OpenSpec.ofChange conditionStaysSpec)) conditionStaysCard

/-- THE TIED CARD OF 'treasurylaw10.ConditionReleased'. -/
def conditionReleasedCard : Claim7 := { stood := { row := conditionReleasedRow, standIns := [], harness := (true, "7dadc1ad250acc5005478b555866757279208a91b55232816553c79d44d72847"), looks := true }, kinds := [], alts := [], laidByText := true, laidKinds := [.data, .data, .data, .data, .sentinel, .sentinel, .pinned], laidTests := true, laidLooks := .later }
def ConditionReleasedCardSaid : Prop := Claim7.holds Tryz.pinned (.plain (OpenSpec.ofChange conditionReleasedSpec)) conditionReleasedCard

/-- THE TIED CARD OF 'treasurylaw11.EarmarkRest'. -/
def earmarkRestCard : Claim7 := { stood := { row := earmarkRestRow, standIns := [], harness := (true, "7dadc1ad250acc5005478b555866757279208a91b55232816553c79d44d72847"), looks := true }, kinds := [], alts := [], laidByText := true, laidKinds := [.data, .data, .data, .data, .sentinel, .sentinel, .pinned], laidTests := true, laidLooks := .later }
def EarmarkRestCardSaid : Prop := Claim7.holds Tryz.pinned (.plain (OpenSpec.ofChange earmarkRestSpec)) earmarkRestCard

/-- THE SECOND FORM's CARD OF 'treasurylaw11.EarmarkCuts'. -/
def earmarkCutsUptoCard : Claim7 := { stood := { row := earmarkCutsUptoRow, standIns := [], harness := (true, "7dadc1ad250acc5005478b555866757279208a91b55232816553c79d44d72847"), looks := true }, kinds := [], alts := [], laidByText := true, laidKinds := [.data, .data, .data, .data, .sentinel, .sentinel, .pinned], laidTests := true, laidLooks := .later }
def EarmarkCutsUptoCardSaid : Prop := Claim7.holds Tryz.pinned (.plain (OpenSpec.upto earmarkCutsSpec)) earmarkCutsUptoCard

/-- THE SECOND FORM's CARD OF 'treasurylaw10.ConditionStays'. -/
def conditionStaysUptoCard : Claim7 := { stood := { row := conditionStaysUptoRow, standIns := [], harness := (true, "7dadc1ad250acc5005478b555866757279208a91b55232816553c79d44d72847"), looks := true }, kinds := [], alts := [], laidByText := true, laidKinds := [.data, .data, .data, .data, .sentinel, .sentinel, .pinned], laidTests := true, laidLooks := .later }
def ConditionStaysUptoCardSaid : Prop := Claim7.holds Tryz.pinned (.plain (OpenSpec.upto conditionStaysSpec)) conditionStaysUptoCard

/-- THE SECOND FORM's CARD OF 'treasurylaw10.ConditionReleased'. -/
def conditionReleasedUptoCard : Claim7 := { stood := { row := conditionReleasedUptoRow, standIns := [], harness := (true, "7dadc1ad250acc5005478b555866757279208a91b55232816553c79d44d72847"), looks := true }, kinds := [], alts := [], laidByText := true, laidKinds := [.data, .data, .data, .data, .sentinel, .sentinel, .pinned], laidTests := true, laidLooks := .later }
def ConditionReleasedUptoCardSaid : Prop := Claim7.holds Tryz.pinned (.plain (OpenSpec.upto conditionReleasedSpec)) conditionReleasedUptoCard

/-- THE SECOND FORM's CARD OF 'treasurylaw11.EarmarkRest'. -/
def earmarkRestUptoCard : Claim7 := { stood := { row := earmarkRestUptoRow, standIns := [], harness := (true, "7dadc1ad250acc5005478b555866757279208a91b55232816553c79d44d72847"), looks := true }, kinds := [], alts := [], laidByText := true, laidKinds := [.data, .data, .data, .data, .sentinel, .sentinel, .pinned], laidTests := true, laidLooks := .later }
def EarmarkRestUptoCardSaid : Prop := Claim7.holds Tryz.pinned (.plain (OpenSpec.upto earmarkRestSpec)) earmarkRestUptoCard
end Rows
end Go.Proofs.YtcmkdpdinjkokaaGreatDoor
