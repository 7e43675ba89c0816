/-
  DERIVED. GIVEN WITH THE SEED: THE CARDS: each row of YtjeolgjiakpenaaDoorRows.lean that lists a variable, with what it lists TIED to the program's text (the seventh form; the later family's looks); each row that meets fmt, with fmt's text TOLD by the authors' own Lean function (tested against real Go, not proved from fmt's source: count such statements apart). THE CARD IS WHAT COUNTS. Prove the row's statement (the work); the ties are given (YtjeolgjiakpenaaDoorTie.lean); close each card by the builder's one call (the guide's Derived/Test/ToyasCard.lean, 'card_holds'). Laid BY PROGRAM, IN A SANDBOX (cutbox-door.mjs). By AI agents, Wed Nov 11 2026. No macro, syntax, notation, axiom, sorry.
-/
import Derived.Test.YtjeolgjiakpenaaDoorRows
import GoSem.ClaimSeven
namespace Go.Proofs.YtjeolgjiakpenaaDoor
namespace Rows

/-- THE TIED CARD OF 'treasurylaw02.CalendarBusiness'. -/
def calendarBusinessCard : Claim7 := { stood := { row := calendarBusinessRow, standIns := [], harness := (true, "d43eabd4a4d81ca5165c5d08ce8d8052b692bfd05fc4b10418cd82a4f2f35f7e"), looks := true }, kinds := [], alts := [], laidByText := true, laidKinds := [.data, .data, .data], laidTests := true, laidLooks := .later }
def CalendarBusinessCardSaid : Prop := Claim7.holds Tryd.pinned (.plain (OpenSpec.ofChange calendarBusinessSpec)) calendarBusinessCard

/-- THE TIED CARD OF 'treasurylaw02.CalendarMonths'. -/
def calendarMonthsCard : Claim7 := { stood := { row := calendarMonthsRow, standIns := [], harness := (true, "d43eabd4a4d81ca5165c5d08ce8d8052b692bfd05fc4b10418cd82a4f2f35f7e"), looks := true }, kinds := [], alts := [], laidByText := true, laidKinds := [.data, .data, .data], laidTests := true, laidLooks := .later }
def CalendarMonthsCardSaid : Prop := Claim7.holds Tryd.pinned (.plain (OpenSpec.ofChange calendarMonthsSpec)) calendarMonthsCard

/-- THE TIED CARD OF 'treasurylaw02.CalendarBack'. -/
def calendarBackCard : Claim7 := { stood := { row := calendarBackRow, standIns := [], harness := (true, "d43eabd4a4d81ca5165c5d08ce8d8052b692bfd05fc4b10418cd82a4f2f35f7e"), looks := true }, kinds := [], alts := [], laidByText := true, laidKinds := [.data, .data, .data, .data, .sentinel, .sentinel, .pinned], laidTests := true, laidLooks := .later }
def CalendarBackCardSaid : Prop := Claim7.holds Tryd.pinned (.plain (OpenSpec.ofChange calendarBackSpec)) calendarBackCard

/-- THE TIED CARD OF 'treasurylaw02.CalendarAnswers'. -/
def calendarAnswersCard : Claim7 := { stood := { row := calendarAnswersRow, standIns := [], harness := (true, "d43eabd4a4d81ca5165c5d08ce8d8052b692bfd05fc4b10418cd82a4f2f35f7e"), looks := true }, kinds := [], alts := [], laidByText := true, laidKinds := [.data, .data, .data, .data, .sentinel, .sentinel, .pinned], laidTests := true, laidLooks := .later }
def CalendarAnswersCardSaid : Prop := Claim7.holds Tryd.pinned (.plain (OpenSpec.ofChange calendarAnswersSpec)) calendarAnswersCard

/-- THE SECOND FORM's CARD OF 'treasurylaw02.CalendarBusiness'. -/
def calendarBusinessUptoCard : Claim7 := { stood := { row := calendarBusinessUptoRow, standIns := [], harness := (true, "d43eabd4a4d81ca5165c5d08ce8d8052b692bfd05fc4b10418cd82a4f2f35f7e"), looks := true }, kinds := [], alts := [], laidByText := true, laidKinds := [.data, .data, .data], laidTests := true, laidLooks := .later }
def CalendarBusinessUptoCardSaid : Prop := Claim7.holds Tryd.pinned (.plain (OpenSpec.upto calendarBusinessSpec)) calendarBusinessUptoCard

/-- THE SECOND FORM's CARD OF 'treasurylaw02.CalendarMonths'. -/
def calendarMonthsUptoCard : Claim7 := { stood := { row := calendarMonthsUptoRow, standIns := [], harness := (true, "d43eabd4a4d81ca5165c5d08ce8d8052b692bfd05fc4b10418cd82a4f2f35f7e"), looks := true }, kinds := [], alts := [], laidByText := true, laidKinds := [.data, .data, .data], laidTests := true, laidLooks := .later }
def CalendarMonthsUptoCardSaid : Prop := Claim7.holds Tryd.pinned (.plain (OpenSpec.upto calendarMonthsSpec)) calendarMonthsUptoCard

/-- THE SECOND FORM's CARD OF 'treasurylaw02.CalendarBack'. -/
def calendarBackUptoCard : Claim7 := { stood := { row := calendarBackUptoRow, standIns := [], harness := (true, "d43eabd4a4d81ca5165c5d08ce8d8052b692bfd05fc4b10418cd82a4f2f35f7e"), looks := true }, kinds := [], alts := [], laidByText := true, laidKinds := [.data, .data, .data, .data, .sentinel, .sentinel, .pinned], laidTests := true, laidLooks := .later }
def CalendarBackUptoCardSaid : Prop := Claim7.holds Tryd.pinned (.plain (OpenSpec.upto calendarBackSpec)) calendarBackUptoCard

/-- THE SECOND FORM's CARD OF 'treasurylaw02.CalendarAnswers'. -/
def calendarAnswersUptoCard : Claim7 := { stood := { row := calendarAnswersUptoRow, standIns := [], harness := (true, "d43eabd4a4d81ca5165c5d08ce8d8052b692bfd05fc4b10418cd82a4f2f35f7e"), looks := true }, kinds := [], alts := [], laidByText := true, laidKinds := [.data, .data, .data, .data, .sentinel, .sentinel, .pinned], laidTests := true, laidLooks := .later }
def CalendarAnswersUptoCardSaid : Prop := Claim7.holds Tryd.pinned (.plain (OpenSpec.upto calendarAnswersSpec)) calendarAnswersUptoCard
end Rows
end Go.Proofs.YtjeolgjiakpenaaDoor
