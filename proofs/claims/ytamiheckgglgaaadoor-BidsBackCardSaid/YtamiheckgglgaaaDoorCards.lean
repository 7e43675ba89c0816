/-
  DERIVED. GIVEN WITH THE SEED: THE CARDS: each row of YtamiheckgglgaaaDoorRows.lean that lists a variable, with what it lists TIED to the program's text (the seventh form; the later family's looks); each row that meets fmt, with fmt's text TOLD by the authors' own Lean function (tested against real Go, not proved from fmt's source: count such statements apart). THE CARD IS WHAT COUNTS. Prove the row's statement (the work); the ties are given (YtamiheckgglgaaaDoorTie.lean); close each card by the builder's one call (the guide's Derived/Test/ToyasCard.lean, 'card_holds'). Laid BY PROGRAM, IN A SANDBOX (cutbox-door.mjs). By AI agents, Wed Nov 11 2026. No macro, syntax, notation, axiom, sorry.
-/
import Derived.Test.YtamiheckgglgaaaDoorRows
import GoSem.ClaimSeven
namespace Go.Proofs.YtamiheckgglgaaaDoor
namespace Rows

/-- THE TIED CARD OF 'treasurylaw31.BidsOrder'. -/
def bidsOrderCard : Claim7 := { stood := { row := bidsOrderRow, standIns := [], harness := (true, "cf44b480af4d41409a5abac94e66705de055fa619c051f22f044469896f71c32"), looks := true }, kinds := [], alts := [], laidByText := true, laidKinds := [.data, .data, .data, .data, .sentinel, .sentinel, .pinned], laidTests := true, laidLooks := .later }
def BidsOrderCardSaid : Prop := Claim7.holds Tryd.pinned (.plain (OpenSpec.ofChange bidsOrderSpec)) bidsOrderCard

/-- THE TIED CARD OF 'treasurylaw31.BidsBack'. -/
def bidsBackCard : Claim7 := { stood := { row := bidsBackRow, standIns := [], harness := (true, "cf44b480af4d41409a5abac94e66705de055fa619c051f22f044469896f71c32"), looks := true }, kinds := [], alts := [], laidByText := true, laidKinds := [.data, .data, .data, .data, .sentinel, .sentinel, .pinned], laidTests := true, laidLooks := .later }
def BidsBackCardSaid : Prop := Claim7.holds Tryd.pinned (.plain (OpenSpec.ofChange bidsBackSpec)) bidsBackCard

/-- THE TIED CARD OF 'treasurylaw31.BidsBroken'. -/
def bidsBrokenCard : Claim7 := { stood := { row := bidsBrokenRow, standIns := [], harness := (true, "cf44b480af4d41409a5abac94e66705de055fa619c051f22f044469896f71c32"), looks := true }, kinds := [], alts := [], laidByText := true, laidKinds := [.data, .data, .data, .data, .sentinel, .sentinel, .pinned], laidTests := true, laidLooks := .later }
def BidsBrokenCardSaid : Prop := Claim7.holds Tryd.pinned (.plain (OpenSpec.ofChange bidsBrokenSpec)) bidsBrokenCard

/-- THE TIED CARD OF 'treasurylaw31.BidsTwice'. -/
def bidsTwiceCard : Claim7 := { stood := { row := bidsTwiceRow, standIns := [], harness := (true, "cf44b480af4d41409a5abac94e66705de055fa619c051f22f044469896f71c32"), looks := true }, kinds := [], alts := [], laidByText := true, laidKinds := [.data, .data, .data, .data, .sentinel, .sentinel, .pinned], laidTests := true, laidLooks := .later }
def BidsTwiceCardSaid : Prop := Claim7.holds Tryd.pinned (.plain (OpenSpec.ofChange bidsTwiceSpec)) bidsTwiceCard

/-- THE SECOND FORM's CARD OF 'treasurylaw31.BidsOrder'. -/
def bidsOrderUptoCard : Claim7 := { stood := { row := bidsOrderUptoRow, standIns := [], harness := (true, "cf44b480af4d41409a5abac94e66705de055fa619c051f22f044469896f71c32"), looks := true }, kinds := [], alts := [], laidByText := true, laidKinds := [.data, .data, .data, .data, .sentinel, .sentinel, .pinned], laidTests := true, laidLooks := .later }
def BidsOrderUptoCardSaid : Prop := Claim7.holds Tryd.pinned (.plain (OpenSpec.upto bidsOrderSpec)) bidsOrderUptoCard

/-- THE SECOND FORM's CARD OF 'treasurylaw31.BidsBack'. -/
def bidsBackUptoCard : Claim7 := { stood := { row := bidsBackUptoRow, standIns := [], harness := (true, "cf44b480af4d41409a5abac94e66705de055fa619c051f22f044469896f71c32"), looks := true }, kinds := [], alts := [], laidByText := true, laidKinds := [.data, .data, .data, .data, .sentinel, .sentinel, .pinned], laidTests := true, laidLooks := .later }
def BidsBackUptoCardSaid : Prop := Claim7.holds Tryd.pinned (.plain (OpenSpec.upto bidsBackSpec)) bidsBackUptoCard

/-- THE SECOND FORM's CARD OF 'treasurylaw31.BidsBroken'. -/
def bidsBrokenUptoCard : Claim7 := { stood := { row := bidsBrokenUptoRow, standIns := [], harness := (true, "cf44b480af4d41409a5abac94e66705de055fa619c051f22f044469896f71c32"), looks := true }, kinds := [], alts := [], laidByText := true, laidKinds := [.data, .data, .data, .data, .sentinel, .sentinel, .pinned], laidTests := true, laidLooks := .later }
def BidsBrokenUptoCardSaid : Prop := Claim7.holds Tryd.pinned (.plain (OpenSpec.upto bidsBrokenSpec)) bidsBrokenUptoCard

/-- THE SECOND FORM's CARD OF 'treasurylaw31.BidsTwice'. -/
def bidsTwiceUptoCard : Claim7 := { stood := { row := bidsTwiceUptoRow, standIns := [], harness := (true, "cf44b480af4d41409a5abac94e66705de055fa619c051f22f044469896f71c32"), looks := true }, kinds := [], alts := [], laidByText := true, laidKinds := [.data, .data, .data, .data, .sentinel, .sentinel, .pinned], laidTests := true, laidLooks := .later }
def BidsTwiceUptoCardSaid : Prop := Claim7.holds Tryd.pinned (.plain (OpenSpec.upto bidsTwiceSpec)) bidsTwiceUptoCard
end Rows
end Go.Proofs.YtamiheckgglgaaaDoor
