/-
  A part of a proof: see the last text of this claim for what is proved.
-/
import Derived.Test.YthdlbokgbkejnaaGreatDoorCD
import Derived.Test.YthdlbokgbkejnaaGreatDoorDM
namespace Go.AM
open Go
set_option linter.unusedSimpArgs false
set_option linter.unusedVariables false
end Go.AM
namespace Go.AM
open Go
set_option linter.unusedSimpArgs false
set_option linter.unusedVariables false
section
variable {C : Ctx} {dr : Bool} {H0 : AHeap} {ops : Array Oper} {st : ASt} {K : ASt → Prop}
theorem loadC_eq {C : Ctx} {ρ : Nat → AV} {H : AHeap} {t κ o : Nat} : loadC C ⟨ρ, H⟩ t (.ptr κ o) = loadA C.P H t (.ptr κ o) := rfl
end
end Go.AM
