/-
  A part of a proof: see the last text of this claim for what is proved.
-/
import Derived.Test.YthdlbokgbkejnaaGreatDoorNM
namespace Go.AM
open Go Go.RowKit
set_option linter.unusedSimpArgs false
set_option linter.unusedVariables false
section
variable {G : Glob} {C : Ctx} {ops : Array Oper} {md : Region.Mode} {S : List (Nat × Nat)}
end
end Go.AM
namespace Go.AM
open Go Go.RowKit
set_option linter.unusedSimpArgs false
set_option linter.unusedVariables false
section
variable {G : Glob} {C : Ctx} {ops : Array Oper} {md : Region.Mode}
end
end Go.AM
namespace Go.AM
open Go Go.RowKit
set_option linter.unusedSimpArgs false
set_option linter.unusedVariables false
section
variable {G : Glob} {C : Ctx} {ops : Array Oper} {md : Region.Mode}
end
end Go.AM
namespace Go.AM
open Go Go.RowKit
set_option linter.unusedSimpArgs false
set_option linter.unusedVariables false
section
variable {C : Ctx} {T : Plan}
end
end Go.AM
