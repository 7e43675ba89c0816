/-
  A part of a proof: see the last text of this claim for what is proved.
-/
import Derived.Test.YtjeolgjiakpenaaDoorAMy
import Derived.WalkKit
import Derived.ProofKit
import Derived.OpenShut
import Derived.Deep.DeepHandedRow
import Derived.Lib.LaidTab
namespace Go.AM
open Go
set_option linter.unusedVariables false
set_option linter.unusedSimpArgs false
/-! ### From a walk to a law's contract -/
theorem Ext.kept {W W' : World} (h : Ext NoB W W') (may : MemPlace → Prop) : W.keptBut W' may := by
  refine ⟨h.os, h.output, fun i hi => ?_⟩
  rw [h.block i hi id]
  cases W.heap[i]? with
  | none => rfl
  | some o => cases o <;> first | exact ⟨rfl, rfl, rfl, fun _ _ => rfl⟩ | exact .inr ⟨rfl, rfl⟩ | rfl
theorem law_calls {G : Glob} {f : FuncId} {φ : PSpec} {args : List PV} {vs : Array Value} {W : World} (h : PSound G f φ) (hp : (φ args).1) (hr : (φ args).2 = .bool true) (hI : G.I W) (hG : G.nG ≤ W.heap.size)
    (hA : ARel W NoB args vs) : Calls G.P f vs W fun e W' => e = .returned (.bool true) ∧ Ext NoB W W' := by
  refine ((h args hp).2 NoB W vs hI hG (fun b hb => hb.elim) hA).mono ?_
  rintro e W' ⟨v, rfl, hv, he⟩
  rw [hr] at hv
  cases hv
  exact ⟨rfl, he⟩
/-- The cells of a table. -/
def litsOf : List (DataW Unit) → List Value
  | [] => []
  | .lit (.int k n) :: r => .int k n :: litsOf r
  | _ :: r => litsOf r
def cellsOf : DataW Unit → List Value
  | .agg ds => litsOf ds
  | .lit (.int k n) => [.int k n]
  | _ => []
/-- Blocks of the world laid anew. -/
noncomputable def layRow (w : World) (b : Nat) (cs : List Value) : World :=
  { w with heap := w.heap.modify b fun
      | .cells _ t frozen => .cells cs.toArray t frozen
      | o => o }
end Go.AM
