/-
  DERIVED. GIVEN WITH THE SEED: THE CARDS: each row of YtdfnogmpijdpbaaDoorRows.lean that lists a variable, with what it lists TIED to the program's text (the seventh form; the later family's looks); each row that meets fmt, with fmt's text TOLD by the authors' own Lean function (tested against real Go, not proved from fmt's source: count such statements apart). THE CARD IS WHAT COUNTS. Prove the row's statement (the work); the ties are given (YtdfnogmpijdpbaaDoorTie.lean); close each card by the builder's one call (the guide's Derived/Test/ToyasCard.lean, 'card_holds'). Laid BY PROGRAM, IN A SANDBOX (cutbox-door.mjs). By AI agents, Wed Nov 11 2026. No macro, syntax, notation, axiom, sorry.
-/
import Derived.Test.YtdfnogmpijdpbaaDoorRows
import GoSem.ClaimSeven
namespace Go.Proofs.YtdfnogmpijdpbaaDoor
namespace Rows

/-- THE TIED CARD OF 'treasurylaw42.CarryoverOrder'. -/
def carryoverOrderCard : Claim7 := { stood := { row := carryoverOrderRow, standIns := [], harness := (true, "d2afc0a540bbddda6e79e8c3587ea8c318687278a460fec016fd3b931c3731e8"), looks := true }, kinds := [], alts := [], laidByText := true, laidKinds := [.data, .data, .data, .data, .sentinel, .sentinel, .pinned], laidTests := true, laidLooks := .later }
def CarryoverOrderCardSaid : Prop := Claim7.holds Tryd.pinned (.plain (OpenSpec.ofChange carryoverOrderSpec)) carryoverOrderCard

/-- THE TIED CARD OF 'treasurylaw42.CarryoverMore'. -/
def carryoverMoreCard : Claim7 := { stood := { row := carryoverMoreRow, standIns := [], harness := (true, "d2afc0a540bbddda6e79e8c3587ea8c318687278a460fec016fd3b931c3731e8"), looks := true }, kinds := [], alts := [], laidByText := true, laidKinds := [.data, .data, .data, .data, .sentinel, .sentinel, .pinned], laidTests := true, laidLooks := .later }
def CarryoverMoreCardSaid : Prop := Claim7.holds Tryd.pinned (.plain (OpenSpec.ofChange carryoverMoreSpec)) carryoverMoreCard

/-- THE TIED CARD OF 'treasurylaw42.CarryoverCodes'. -/
def carryoverCodesCard : Claim7 := { stood := { row := carryoverCodesRow, standIns := [], harness := (true, "d2afc0a540bbddda6e79e8c3587ea8c318687278a460fec016fd3b931c3731e8"), looks := true }, kinds := [], alts := [], laidByText := true, laidKinds := [.data, .data, .data, .data, .sentinel, .sentinel, .pinned], laidTests := true, laidLooks := .later }
def CarryoverCodesCardSaid : Prop := Claim7.holds Tryd.pinned (.plain (OpenSpec.ofChange carryoverCodesSpec)) carryoverCodesCard

/-- THE TIED CARD OF 'treasurylaw42.CarryoverSums'. -/
def carryoverSumsCard : Claim7 := { stood := { row := carryoverSumsRow, standIns := [], harness := (true, "d2afc0a540bbddda6e79e8c3587ea8c318687278a460fec016fd3b931c3731e8"), looks := true }, kinds := [], alts := [], laidByText := true, laidKinds := [.data, .data, .data, .data, .sentinel, .sentinel, .pinned], laidTests := true, laidLooks := .later }
def CarryoverSumsCardSaid : Prop := Claim7.holds Tryd.pinned (.plain (OpenSpec.ofChange carryoverSumsSpec)) carryoverSumsCard

/-- THE SECOND FORM's CARD OF 'treasurylaw42.CarryoverOrder'. -/
def carryoverOrderUptoCard : Claim7 := { stood := { row := carryoverOrderUptoRow, standIns := [], harness := (true, "d2afc0a540bbddda6e79e8c3587ea8c318687278a460fec016fd3b931c3731e8"), looks := true }, kinds := [], alts := [], laidByText := true, laidKinds := [.data, .data, .data, .data, .sentinel, .sentinel, .pinned], laidTests := true, laidLooks := .later }
def CarryoverOrderUptoCardSaid : Prop := Claim7.holds Tryd.pinned (.plain (OpenSpec.upto carryoverOrderSpec)) carryoverOrderUptoCard

/-- THE SECOND FORM's CARD OF 'treasurylaw42.CarryoverMore'. -/
def carryoverMoreUptoCard : Claim7 := { stood := { row := carryoverMoreUptoRow, standIns := [], harness := (true, "d2afc0a540bbddda6e79e8c3587ea8c318687278a460fec016fd3b931c3731e8"), looks := true }, kinds := [], alts := [], laidByText := true, laidKinds := [.data, .data, .data, .data, .sentinel, .sentinel, .pinned], laidTests := true, laidLooks := .later }
def CarryoverMoreUptoCardSaid : Prop := Claim7.holds Tryd.pinned (.plain (OpenSpec.upto carryoverMoreSpec)) carryoverMoreUptoCard

/-- THE SECOND FORM's CARD OF 'treasurylaw42.CarryoverCodes'. -/
def carryoverCodesUptoCard : Claim7 := { stood := { row := carryoverCodesUptoRow, standIns := [], harness := (true, "d2afc0a540bbddda6e79e8c3587ea8c318687278a460fec016fd3b931c3731e8"), looks := true }, kinds := [], alts := [], laidByText := true, laidKinds := [.data, .data, .data, .data, .sentinel, .sentinel, .pinned], laidTests := true, laidLooks := .later }
def CarryoverCodesUptoCardSaid : Prop := Claim7.holds Tryd.pinned (.plain (OpenSpec.upto carryoverCodesSpec)) carryoverCodesUptoCard

/-- THE SECOND FORM's CARD OF 'treasurylaw42.CarryoverSums'. -/
def carryoverSumsUptoCard : Claim7 := { stood := { row := carryoverSumsUptoRow, standIns := [], harness := (true, "d2afc0a540bbddda6e79e8c3587ea8c318687278a460fec016fd3b931c3731e8"), looks := true }, kinds := [], alts := [], laidByText := true, laidKinds := [.data, .data, .data, .data, .sentinel, .sentinel, .pinned], laidTests := true, laidLooks := .later }
def CarryoverSumsUptoCardSaid : Prop := Claim7.holds Tryd.pinned (.plain (OpenSpec.upto carryoverSumsSpec)) carryoverSumsUptoCard
end Rows
end Go.Proofs.YtdfnogmpijdpbaaDoor
