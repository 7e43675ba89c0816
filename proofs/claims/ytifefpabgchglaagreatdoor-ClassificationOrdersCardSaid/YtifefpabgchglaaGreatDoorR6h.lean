/-
  A part of a proof: see the last text of this claim for what is proved.
-/
import Derived.Test.YtifefpabgchglaaGreatDoorR6g
import Derived.Test.YtifefpabgchglaaGreatDoorDM
namespace Go.AM
open Go Go.Proofs Go.IntWalk
set_option maxRecDepth 100000
set_option linter.unusedSimpArgs false
set_option linter.unusedVariables false
theorem FinRow_n {t k : Nat} {res : PV} {st : ASt} : FinRow t k res .normal st = rowIs k res st t := rfl
theorem FinRow_r {t k : Nat} {res : PV} {st : ASt} : FinRow t k res .ret st = rowIs k res st t := rfl
theorem rowIs_eq {k : Nat} {res : PV} {ρ : Nat → AV} {H : AHeap} {t : Nat} : rowIs k res ⟨ρ, H⟩ t = match ρ t with
  | .rs κ hi => match hget H κ with
    | some (.row k' es) => k' = k ∧ hi ≤ es.length ∧ res = .sl (es.take hi)
    | _ => False
  | .nils => res = .sl []
  | _ => False := rfl
noncomputable def ΨL (g : FuncId) : Option ESpec := noΨ g
theorem hΨL : ETab GG ΨL := hnoΨ
end Go.AM
