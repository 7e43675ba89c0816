/-
  A part of a proof: see the last text of this claim for what is proved.
-/
import Derived.Test.YteapbfeojedjoaaGreatDoorAMy
import Derived.WalkKit
import Derived.ProofKit
import Derived.OpenShut
import Derived.Deep.DeepHandedRow
import Derived.Lib.LaidTab
namespace Go.AM
open Go
set_option linter.unusedVariables false
set_option linter.unusedSimpArgs false
/-! ### From a walk to a law's contract -/
theorem Ext.kept {W W' : World} (h : Ext NoB W W') (may : MemPlace → Prop) : W.keptBut W' may := by
  refine ⟨h.os, h.output, fun i hi => ?_⟩
  rw [h.block i hi id]
  cases W.heap[i]? with
  | none => rfl
  | some o => cases o <;> first | exact ⟨rfl, rfl, rfl, fun _ _ => rfl⟩ | exact .inr ⟨rfl, rfl⟩ | rfl
theorem law_calls {G : Glob} {f : FuncId} {φ : PSpec} {args : List PV} {vs : Array Value} {W : World} (h : PSound G f φ) (hp : (φ args).1) (hr : (φ args).2 = .bool true) (hI : G.I W) (hG : G.nG ≤ W.heap.size)
    (hA : ARel W NoB args vs) : Calls G.P f vs W fun e W' => e = .returned (.bool true) ∧ Ext NoB W W' := by
  refine ((h args hp).2 NoB W vs hI hG (fun b hb => hb.elim) hA).mono ?_
  rintro e W' ⟨v, rfl, hv, he⟩
  rw [hr] at hv
  cases hv
  exact ⟨rfl, he⟩
/-- The cells of a table. -/
def litsOf : List (DataW Unit) → List Value
  | [] => []
  | .lit (.int k n) :: r => .int k n :: litsOf r
  | _ :: r => litsOf r
def cellsOf : DataW Unit → List Value
  | .agg ds => litsOf ds
  | .lit (.int k n) => [.int k n]
  | _ => []
/-- Blocks of the world laid anew. -/
noncomputable def layRow (w : World) (b : Nat) (cs : List Value) : World :=
  { w with heap := w.heap.modify b fun
      | .cells _ t frozen => .cells cs.toArray t frozen
      | o => o }
/-- Behind a walk that keeps all that was there: what the row's form asks. -/
theorem post_of_ext {H : Type} {enc : TypeId × Value → H} {P : Program} {f : Func} {s : ChangeSpec} {apart fresh handsOn again : Bool} {W W' : World} {args : Array Value} {v : Value} {ds gs : List (DataW H)} {before pa pv : List MemPlace}
    (hW : DataW.Whole enc P f.params.toList s.vars apart W args.toList ds gs before)
    (hres : ∀ (b : Nat) (sp : Nat → Bool) (hd : Bool), DataW.TrodAll enc P W' b sp hd f.resultTypes.toList (v.resultList f.resultTypes.size) (s.fn H (ds ++ gs)).results [])
    (hargs : ∀ sp : Nat → Bool, (∀ p ∈ before, sp p.block = true) → DataW.TrodAll enc P W' 0 sp true f.params.toList args.toList (s.fn H (ds ++ gs)).args pa)
    (hvars : ∀ sp : Nat → Bool, (∀ p ∈ before, sp p.block = true) → DataW.TrodVars enc P W' sp s.vars (s.fn H (ds ++ gs)).vars pv)
    (hps : before = pa ++ pv) (he : Ext NoB W W')
    (hok : ∀ (j : Nat) (t : TypeId) (r : Value), f.resultTypes[j]? = some t → (v.resultList f.resultTypes.size)[j]? = some r → Value.okWide P W' .any 0 t r) :
    s.post enc P f apart fresh handsOn again W args v W' := by
  have hlt : ∀ p, p ∈ before → p.block < W.heap.size := fun p hp => hW.lt p hp
  have hold : ∀ p ∈ before, (fun b => decide (b < W.heap.size)) p.block = true := fun p hp => by simpa using hlt p hp
  refine ⟨ds, gs, before, [], pa, pv, hW, hres _ _ _, hargs _ hold, hvars _ hold, he.kept _, fun _ => ?_⟩
  have hW2 := hW
  obtain ⟨_, _, _, _, _, hz, hn⟩ := hW2
  refine ⟨hok, _, _, ([] ++ pa) ++ pv, ⟨[] ++ pa, pv, ChangeShapes.trodAll_append (hargs _ (fun _ _ => rfl)) (hres _ _ _), hvars _ (fun _ _ => rfl), rfl, fun b off hp => ?_, fun ha => ?_⟩, fun p hp _ => ?_⟩
  · have hp' : MemPlace.cell b off ∈ before := by rw [hps]; simpa using hp
    rw [he.frozen _ (hlt _ hp') id]
    exact hz b off hp'
  · have := hn ha
    rw [hps] at this
    simpa using this
  · rw [hps]; simpa using hp
end Go.AM
