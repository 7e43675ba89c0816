/-
  DERIVED. GIVEN WITH THE SEED: THE CARDS: each row of YteapbfeojedjoaaGreatDoorRows.lean that lists a variable, with what it lists TIED to the program's text (the seventh form; the later family's looks); each row that meets fmt, with fmt's text TOLD by the authors' own Lean function (tested against real Go, not proved from fmt's source: count such statements apart). THE CARD IS WHAT COUNTS. Prove the row's statement (the work); the ties are given (YteapbfeojedjoaaGreatDoorTie.lean); close each card by the builder's one call (the guide's Derived/Test/ToyasCard.lean, 'card_holds'). Laid BY PROGRAM, IN A SANDBOX (cutbox-door.mjs). By AI agents, Wed Nov 11 2026. No macro, syntax, notation, axiom, sorry.
-/
import Derived.Test.YteapbfeojedjoaaGreatDoorRows
import GoSem.ClaimSeven
namespace Go.Proofs.YteapbfeojedjoaaGreatDoor
namespace Rows

/-- THE TIED CARD OF 'treasurylaw41.AccrualClaims'. -/
def accrualClaimsCard : Claim7 := { stood := { row := accrualClaimsRow, standIns := [], harness := (true, "3dba12b600a2833d076d80add1b6748b8253f531adf162f3dce9664f109dd7bd"), looks := true }, kinds := [], alts := [], laidByText := true, laidKinds := [.data, .data, .data, .data, .sentinel, .sentinel, .pinned], laidTests := true, laidLooks := .later }
def AccrualClaimsCardSaid : Prop := Claim7.holds Tryz.pinned (.plain (OpenSpec.ofChange accrualClaimsSpec)) accrualClaimsCard

/-- THE TIED CARD OF 'treasurylaw41.AccrualEntities'. -/
def accrualEntitiesCard : Claim7 := { stood := { row := accrualEntitiesRow, standIns := [], harness := (true, "3dba12b600a2833d076d80add1b6748b8253f531adf162f3dce9664f109dd7bd"), looks := true }, kinds := [], alts := [], laidByText := true, laidKinds := [.data, .data, .data, .data, .sentinel, .sentinel, .pinned], laidTests := true, laidLooks := .later }
def AccrualEntitiesCardSaid : Prop := Claim7.holds Tryz.pinned (.plain (OpenSpec.ofChange accrualEntitiesSpec)) accrualEntitiesCard

/-- THE TIED CARD OF 'treasurylaw41.AccrualTurns'. -/
def accrualTurnsCard : Claim7 := { stood := { row := accrualTurnsRow, standIns := [], harness := (true, "3dba12b600a2833d076d80add1b6748b8253f531adf162f3dce9664f109dd7bd"), looks := true }, kinds := [], alts := [], laidByText := true, laidKinds := [.data, .data, .data, .data, .sentinel, .sentinel, .pinned], laidTests := true, laidLooks := .later }
def AccrualTurnsCardSaid : Prop := Claim7.holds Tryz.pinned (.plain (OpenSpec.ofChange accrualTurnsSpec)) accrualTurnsCard

/-- THE TIED CARD OF 'treasurylaw41.AccrualShifts'. -/
def accrualShiftsCard : Claim7 := { stood := { row := accrualShiftsRow, standIns := [], harness := (true, "3dba12b600a2833d076d80add1b6748b8253f531adf162f3dce9664f109dd7bd"), looks := true }, kinds := [], alts := [], laidByText := true, laidKinds := [.data, .data, .data, .data, .sentinel, .sentinel, .pinned], laidTests := true, laidLooks := .later }
def AccrualShiftsCardSaid : Prop := Claim7.holds Tryz.pinned (.plain (OpenSpec.ofChange accrualShiftsSpec)) accrualShiftsCard

/-- THE SECOND FORM's CARD OF 'treasurylaw41.AccrualClaims'. -/
def accrualClaimsUptoCard : Claim7 := { stood := { row := accrualClaimsUptoRow, standIns := [], harness := (true, "3dba12b600a2833d076d80add1b6748b8253f531adf162f3dce9664f109dd7bd"), looks := true }, kinds := [], alts := [], laidByText := true, laidKinds := [.data, .data, .data, .data, .sentinel, .sentinel, .pinned], laidTests := true, laidLooks := .later }
def AccrualClaimsUptoCardSaid : Prop := Claim7.holds Tryz.pinned (.plain (OpenSpec.upto accrualClaimsSpec)) accrualClaimsUptoCard

/-- THE SECOND FORM's CARD OF 'treasurylaw41.AccrualEntities'. -/
def accrualEntitiesUptoCard : Claim7 := { stood := { row := accrualEntitiesUptoRow, standIns := [], harness := (true, "3dba12b600a2833d076d80add1b6748b8253f531adf162f3dce9664f109dd7bd"), looks := true }, kinds := [], alts := [], laidByText := true, laidKinds := [.data, .data, .data, .data, .sentinel, .sentinel, .pinned], laidTests := true, laidLooks := .later }
def AccrualEntitiesUptoCardSaid : Prop := Claim7.holds Tryz.pinned (.plain (OpenSpec.upto accrualEntitiesSpec)) accrualEntitiesUptoCard

/-- THE SECOND FORM's CARD OF 'treasurylaw41.AccrualTurns'. -/
def accrualTurnsUptoCard : Claim7 := { stood := { row := accrualTurnsUptoRow, standIns := [], harness := (true, "3dba12b600a2833d076d80add1b6748b8253f531adf162f3dce9664f109dd7bd"), looks := true }, kinds := [], alts := [], laidByText := true, laidKinds := [.data, .data, .data, .data, .sentinel, .sentinel, .pinned], laidTests := true, laidLooks := .later }
def AccrualTurnsUptoCardSaid : Prop := Claim7.holds Tryz.pinned (.plain (OpenSpec.upto accrualTurnsSpec)) accrualTurnsUptoCard

/-- THE SECOND FORM's CARD OF 'treasurylaw41.AccrualShifts'. -/
def accrualShiftsUptoCard : Claim7 := { stood := { row := accrualShiftsUptoRow, standIns := [], harness := (true, "3dba12b600a2833d076d80add1b6748b8253f531adf162f3dce9664f109dd7bd"), looks := true }, kinds := [], alts := [], laidByText := true, laidKinds := [.data, .data, .data, .data, .sentinel, .sentinel, .pinned], laidTests := true, laidLooks := .later }
def AccrualShiftsUptoCardSaid : Prop := Claim7.holds Tryz.pinned (.plain (OpenSpec.upto accrualShiftsSpec)) accrualShiftsUptoCard
end Rows
end Go.Proofs.YteapbfeojedjoaaGreatDoor
