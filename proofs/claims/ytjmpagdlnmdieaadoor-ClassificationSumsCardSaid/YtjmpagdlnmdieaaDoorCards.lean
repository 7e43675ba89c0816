/-
  DERIVED. GIVEN WITH THE SEED: THE CARDS: each row of YtjmpagdlnmdieaaDoorRows.lean that lists a variable, with what it lists TIED to the program's text (the seventh form; the later family's looks); each row that meets fmt, with fmt's text TOLD by the authors' own Lean function (tested against real Go, not proved from fmt's source: count such statements apart). THE CARD IS WHAT COUNTS. Prove the row's statement (the work); the ties are given (YtjmpagdlnmdieaaDoorTie.lean); close each card by the builder's one call (the guide's Derived/Test/ToyasCard.lean, 'card_holds'). Laid BY PROGRAM, IN A SANDBOX (cutbox-door.mjs). By AI agents, Wed Nov 11 2026. No macro, syntax, notation, axiom, sorry.
-/
import Derived.Test.YtjmpagdlnmdieaaDoorRows
import GoSem.ClaimSeven
namespace Go.Proofs.YtjmpagdlnmdieaaDoor
namespace Rows

/-- THE TIED CARD OF 'treasurylaw03.ClassificationLeaves'. -/
def classificationLeavesCard : Claim7 := { stood := { row := classificationLeavesRow, standIns := [], harness := (true, "f9daaa2cca58e659fea14b4e4c1c0f40fc3ebebc6b46c0852d23e125a9440da5"), looks := true }, kinds := [], alts := [], laidByText := true, laidKinds := [.data, .data, .data, .data, .sentinel, .sentinel, .pinned], laidTests := true, laidLooks := .later }
def ClassificationLeavesCardSaid : Prop := Claim7.holds Tryd.pinned (.plain (OpenSpec.ofChange classificationLeavesSpec)) classificationLeavesCard

/-- THE TIED CARD OF 'treasurylaw03.ClassificationSums'. -/
def classificationSumsCard : Claim7 := { stood := { row := classificationSumsRow, standIns := [], harness := (true, "f9daaa2cca58e659fea14b4e4c1c0f40fc3ebebc6b46c0852d23e125a9440da5"), looks := true }, kinds := [], alts := [], laidByText := true, laidKinds := [.data, .data, .data, .data, .sentinel, .sentinel, .pinned], laidTests := true, laidLooks := .later }
def ClassificationSumsCardSaid : Prop := Claim7.holds Tryd.pinned (.plain (OpenSpec.ofChange classificationSumsSpec)) classificationSumsCard

/-- THE SECOND FORM's CARD OF 'treasurylaw03.ClassificationLeaves'. -/
def classificationLeavesUptoCard : Claim7 := { stood := { row := classificationLeavesUptoRow, standIns := [], harness := (true, "f9daaa2cca58e659fea14b4e4c1c0f40fc3ebebc6b46c0852d23e125a9440da5"), looks := true }, kinds := [], alts := [], laidByText := true, laidKinds := [.data, .data, .data, .data, .sentinel, .sentinel, .pinned], laidTests := true, laidLooks := .later }
def ClassificationLeavesUptoCardSaid : Prop := Claim7.holds Tryd.pinned (.plain (OpenSpec.upto classificationLeavesSpec)) classificationLeavesUptoCard

/-- THE SECOND FORM's CARD OF 'treasurylaw03.ClassificationSums'. -/
def classificationSumsUptoCard : Claim7 := { stood := { row := classificationSumsUptoRow, standIns := [], harness := (true, "f9daaa2cca58e659fea14b4e4c1c0f40fc3ebebc6b46c0852d23e125a9440da5"), looks := true }, kinds := [], alts := [], laidByText := true, laidKinds := [.data, .data, .data, .data, .sentinel, .sentinel, .pinned], laidTests := true, laidLooks := .later }
def ClassificationSumsUptoCardSaid : Prop := Claim7.holds Tryd.pinned (.plain (OpenSpec.upto classificationSumsSpec)) classificationSumsUptoCard
end Rows
end Go.Proofs.YtjmpagdlnmdieaaDoor
