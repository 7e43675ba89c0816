/-
  DERIVED. GIVEN WITH THE SEED: THE CARDS: each row of YtolbfgiflhpjpaaDoorRows.lean that lists a variable, with what it lists TIED to the program's text (the seventh form; the later family's looks); each row that meets fmt, with fmt's text TOLD by the authors' own Lean function (tested against real Go, not proved from fmt's source: count such statements apart). THE CARD IS WHAT COUNTS. Prove the row's statement (the work); the ties are given (YtolbfgiflhpjpaaDoorTie.lean); close each card by the builder's one call (the guide's Derived/Test/ToyasCard.lean, 'card_holds'). Laid BY PROGRAM, IN A SANDBOX (cutbox-door.mjs). By AI agents, Wed Nov 11 2026. No macro, syntax, notation, axiom, sorry.
-/
import Derived.Test.YtolbfgiflhpjpaaDoorRows
import GoSem.ClaimSeven
namespace Go.Proofs.YtolbfgiflhpjpaaDoor
namespace Rows

/-- THE TIED CARD OF 'treasurylaw11.EarmarkGrows'. -/
def earmarkGrowsCard : Claim7 := { stood := { row := earmarkGrowsRow, standIns := [], harness := (true, "94a12a806627d33bf6517e9b691c1bfe766be7158ece7f88aa21244adb73c549"), looks := true }, kinds := [], alts := [], laidByText := true, laidKinds := [.data, .data, .data, .data, .sentinel, .sentinel, .pinned], laidTests := true, laidLooks := .later }
def EarmarkGrowsCardSaid : Prop := Claim7.holds Tryd.pinned (.plain (OpenSpec.ofChange earmarkGrowsSpec)) earmarkGrowsCard

/-- THE TIED CARD OF 'treasurylaw10.ConditionReceived'. -/
def conditionReceivedCard : Claim7 := { stood := { row := conditionReceivedRow, standIns := [], harness := (true, "94a12a806627d33bf6517e9b691c1bfe766be7158ece7f88aa21244adb73c549"), looks := true }, kinds := [], alts := [], laidByText := true, laidKinds := [.data, .data, .data, .data, .sentinel, .sentinel, .pinned], laidTests := true, laidLooks := .later }
def ConditionReceivedCardSaid : Prop := Claim7.holds Tryd.pinned (.plain (OpenSpec.ofChange conditionReceivedSpec)) conditionReceivedCard

/-- THE SECOND FORM's CARD OF 'treasurylaw11.EarmarkGrows'. -/
def earmarkGrowsUptoCard : Claim7 := { stood := { row := earmarkGrowsUptoRow, standIns := [], harness := (true, "94a12a806627d33bf6517e9b691c1bfe766be7158ece7f88aa21244adb73c549"), looks := true }, kinds := [], alts := [], laidByText := true, laidKinds := [.data, .data, .data, .data, .sentinel, .sentinel, .pinned], laidTests := true, laidLooks := .later }
def EarmarkGrowsUptoCardSaid : Prop := Claim7.holds Tryd.pinned (.plain (OpenSpec.upto earmarkGrowsSpec)) earmarkGrowsUptoCard

/-- THE SECOND FORM's CARD OF 'treasurylaw10.ConditionReceived'. -/
def conditionReceivedUptoCard : Claim7 := { stood := { row := conditionReceivedUptoRow, standIns := [], harness := (true, "94a12a806627d33bf6517e9b691c1bfe766be7158ece7f88aa21244adb73c549"), looks := true }, kinds := [], alts := [], laidByText := true, laidKinds := [.data, .data, .data, .data, .sentinel, .sentinel, .pinned], laidTests := true, laidLooks := .later }
def ConditionReceivedUptoCardSaid : Prop := Claim7.holds Tryd.pinned (.plain (OpenSpec.upto conditionReceivedSpec)) conditionReceivedUptoCard
end Rows
end Go.Proofs.YtolbfgiflhpjpaaDoor
