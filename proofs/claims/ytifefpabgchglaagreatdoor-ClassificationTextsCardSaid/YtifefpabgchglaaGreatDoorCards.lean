/-
  DERIVED. GIVEN WITH THE SEED: THE CARDS: each row of YtifefpabgchglaaGreatDoorRows.lean that lists a variable, with what it lists TIED to the program's text (the seventh form; the later family's looks); each row that meets fmt, with fmt's text TOLD by the authors' own Lean function (tested against real Go, not proved from fmt's source: count such statements apart). THE CARD IS WHAT COUNTS. Prove the row's statement (the work); the ties are given (YtifefpabgchglaaGreatDoorTie.lean); close each card by the builder's one call (the guide's Derived/Test/ToyasCard.lean, 'card_holds'). Laid BY PROGRAM, IN A SANDBOX (cutbox-door.mjs). By AI agents, Wed Nov 11 2026. No macro, syntax, notation, axiom, sorry.
-/
import Derived.Test.YtifefpabgchglaaGreatDoorRows
import GoSem.ClaimSeven
namespace Go.Proofs.YtifefpabgchglaaGreatDoor
namespace Rows

/-- THE TIED CARD OF 'treasurylaw03.ClassificationOrders'. -/
def classificationOrdersCard : Claim7 := { stood := { row := classificationOrdersRow, standIns := [], harness := (true, "533b99cb44cc95566e3f8c95bfc91e413d3ecdf43b81a6a14eceebef7e671c21"), looks := true }, kinds := [], alts := [], laidByText := true, laidKinds := [.data, .data, .data, .data, .sentinel, .sentinel, .pinned], laidTests := true, laidLooks := .later }
def ClassificationOrdersCardSaid : Prop := Claim7.holds Tryz.pinned (.plain (OpenSpec.ofChange classificationOrdersSpec)) classificationOrdersCard

/-- THE TIED CARD OF 'treasurylaw03.ClassificationTexts'. -/
def classificationTextsCard : Claim7 := { stood := { row := classificationTextsRow, standIns := [], harness := (true, "533b99cb44cc95566e3f8c95bfc91e413d3ecdf43b81a6a14eceebef7e671c21"), looks := true }, kinds := [], alts := [], laidByText := true, laidKinds := [.data, .data, .data, .data, .sentinel, .sentinel, .pinned], laidTests := true, laidLooks := .later }
def ClassificationTextsCardSaid : Prop := Claim7.holds Tryz.pinned (.plain (OpenSpec.ofChange classificationTextsSpec)) classificationTextsCard

/-- THE SECOND FORM's CARD OF 'treasurylaw03.ClassificationOrders'. -/
def classificationOrdersUptoCard : Claim7 := { stood := { row := classificationOrdersUptoRow, standIns := [], harness := (true, "533b99cb44cc95566e3f8c95bfc91e413d3ecdf43b81a6a14eceebef7e671c21"), looks := true }, kinds := [], alts := [], laidByText := true, laidKinds := [.data, .data, .data, .data, .sentinel, .sentinel, .pinned], laidTests := true, laidLooks := .later }
def ClassificationOrdersUptoCardSaid : Prop := Claim7.holds Tryz.pinned (.plain (OpenSpec.upto classificationOrdersSpec)) classificationOrdersUptoCard

/-- THE SECOND FORM's CARD OF 'treasurylaw03.ClassificationTexts'. -/
def classificationTextsUptoCard : Claim7 := { stood := { row := classificationTextsUptoRow, standIns := [], harness := (true, "533b99cb44cc95566e3f8c95bfc91e413d3ecdf43b81a6a14eceebef7e671c21"), looks := true }, kinds := [], alts := [], laidByText := true, laidKinds := [.data, .data, .data, .data, .sentinel, .sentinel, .pinned], laidTests := true, laidLooks := .later }
def ClassificationTextsUptoCardSaid : Prop := Claim7.holds Tryz.pinned (.plain (OpenSpec.upto classificationTextsSpec)) classificationTextsUptoCard
end Rows
end Go.Proofs.YtifefpabgchglaaGreatDoor
