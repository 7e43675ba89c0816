/-
  DERIVED. GIVEN WITH THE SEED: THE CARDS: each row of YtamiheckgglgaaaGreatDoorRows.lean that lists a variable, with what it lists TIED to the program's text (the seventh form; the later family's looks); each row that meets fmt, with fmt's text TOLD by the authors' own Lean function (tested against real Go, not proved from fmt's source: count such statements apart). THE CARD IS WHAT COUNTS. Prove the row's statement (the work); the ties are given (YtamiheckgglgaaaGreatDoorTie.lean); close each card by the builder's one call (the guide's Derived/Test/ToyasCard.lean, 'card_holds'). Laid BY PROGRAM, IN A SANDBOX (cutbox-door.mjs). By AI agents, Wed Nov 11 2026. No macro, syntax, notation, axiom, sorry.
-/
import Derived.Test.YtamiheckgglgaaaGreatDoorRows
import GoSem.ClaimSeven
namespace Go.Proofs.YtamiheckgglgaaaGreatDoor
namespace Rows

/-- THE TIED CARD OF 'treasurylaw31.BidsExact'. -/
def bidsExactCard : Claim7 := { stood := { row := bidsExactRow, standIns := [], harness := (true, "fd81298f0228d6f273274ffc89913447c1f10c03f72a05e17e61717bbbc6411f"), looks := true }, kinds := [], alts := [], laidByText := true, laidKinds := [.data, .data, .data, .data, .sentinel, .sentinel, .pinned], laidTests := true, laidLooks := .later }
def BidsExactCardSaid : Prop := Claim7.holds Tryz.pinned (.plain (OpenSpec.ofChange bidsExactSpec)) bidsExactCard

/-- THE SECOND FORM's CARD OF 'treasurylaw31.BidsExact'. -/
def bidsExactUptoCard : Claim7 := { stood := { row := bidsExactUptoRow, standIns := [], harness := (true, "fd81298f0228d6f273274ffc89913447c1f10c03f72a05e17e61717bbbc6411f"), looks := true }, kinds := [], alts := [], laidByText := true, laidKinds := [.data, .data, .data, .data, .sentinel, .sentinel, .pinned], laidTests := true, laidLooks := .later }
def BidsExactUptoCardSaid : Prop := Claim7.holds Tryz.pinned (.plain (OpenSpec.upto bidsExactSpec)) bidsExactUptoCard
end Rows
end Go.Proofs.YtamiheckgglgaaaGreatDoor
