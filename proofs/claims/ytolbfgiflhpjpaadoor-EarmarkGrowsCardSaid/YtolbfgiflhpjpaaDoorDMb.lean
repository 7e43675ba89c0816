/-
  A part of a proof: see the last text of this claim for what is proved.
-/
import Derived.Test.YtolbfgiflhpjpaaDoorDMa
namespace Go.AM
open Go
set_option linter.unusedSimpArgs false
set_option linter.unusedVariables false
/-! ### Calls of the tape behind which the tool stops for good -/
/-- Here the tool stops: what is behind it is one word. -/
def Stop (N : Nat) (st : ASt) (d : Option Tmp) (r : AV) (K : ASt → Prop) : Prop := putD N st d r K
theorem Stop_eq {N : Nat} {st : ASt} {d : Option Tmp} {r : AV} {K : ASt → Prop} : Stop N st d r K = putD N st d r K := rfl
theorem all_qVz {J : List PV → Prop} {pre : List PV → Prop} {α : Type} {val : α → PV} {ok : List PV → α → Prop} {κ : Nat} {rest : List AV} {H : AHeap} {N : Nat} {st : ASt} {d : Option Tmp} {K : ASt → Prop} :
    (∀ r, (qV J pre val ok (.ptr κ 0 :: rest) H).2 r → putD N st d r K) = ∀ x, ok (frzL H rest) x → Stop N st d (.pv (val x)) K := all_qV
theorem all_qVz' {J : List PV → Prop} {pre : List PV → Prop} {α : Type} {val : α → PV} {ok : List PV → α → Prop} {κ : Nat} {rest : List AV} {H : AHeap} {N : Nat} {st : ASt} {d : Option Tmp} {K : ASt → Prop} :
    (∀ r, (qV J pre val ok (.ptr κ 0 :: rest) H).2 r → putD N st d (mkW true r) K) = ∀ x, ok (frzL H rest) x → Stop N st d (.whn true (.pv (val x))) K := all_qV
/-! ### Guarded calls of the tape -/
def callGc (N : Nat) (st : ASt) (d : Option Tmp) (c : Bool) (ok : Prop) (q : Prop × (AV → Prop)) (v0 : AV) (K : ASt → Prop) : Prop :=
  (c = true → ok ∧ q.1) ∧ ∀ r, (c = true → q.2 r) → (c = false → r = v0) → putD N st d (mkW c r) K
theorem callGc_true {N : Nat} {st : ASt} {d : Option Tmp} {ok : Prop} {q : Prop × (AV → Prop)} {v0 : AV} {K : ASt → Prop} :
    callGc N st d true ok q v0 K = (ok ∧ q.1 ∧ ∀ r, q.2 r → putD N st d (mkW true r) K) := by
  unfold callGc
  exact propext ⟨fun h => ⟨(h.1 rfl).1, (h.1 rfl).2, fun r hr => h.2 r (fun _ => hr) (fun e => by cases e)⟩, fun h => ⟨fun _ => ⟨h.1, h.2.1⟩, fun r hr _ => h.2.2 r (hr rfl)⟩⟩
theorem callGc_false {N : Nat} {st : ASt} {d : Option Tmp} {ok : Prop} {q : Prop × (AV → Prop)} {v0 : AV} {K : ASt → Prop} :
    callGc N st d false ok q v0 K = putD N st d (mkW false v0) K := by
  unfold callGc
  exact propext ⟨fun h => h.2 v0 (fun e => by cases e) (fun _ => rfl), fun h => ⟨(fun e => by cases e), (fun r _ hr => by rw [hr rfl]; exact h)⟩⟩
def gcallK (C : Ctx) (st : ASt) (d : Option Tmp) (g : AV) (b : Bool) (args : List AV) (ok : Prop) (v0 : AV) (K : ASt → Prop) (x : Prop) : Option ESpec → Option QSpec → Prop
  | none, some θ => match g with
    | .pv (.bool t) => callGc C.N st d (t == b) ok (θ args st.H) v0 K
    | .whn c (.pv (.bool t)) => callGc C.N st d (c && (t == b)) ok (θ args st.H) v0 K
    | _ => False
  | _, _ => x
section
variable {C : Ctx} {dr : Bool} {H0 : AHeap} {ops : Array Oper} {st : ASt} {K : ASt → Prop}
/-- As it was. -/
def stepH (C : Ctx) (dr : Bool) (H0 : AHeap) (ops : Array Oper) (o : Oper) (st : ASt) (K : ASt → Prop) : Prop := stepG C dr H0 ops o st K
theorem ev_callG {d : Option Tmp} {f : FuncId} {args : Array Operand} {ts : Array TypeId} {ty : TypeId} {pos : String} {af : Array Edge} {j : Nat} {b : Bool} :
    stepX C dr H0 ops ⟨d, .call { callee := .value (.func f), args := args, argTypes := ts }, ty, pos, af, some (j, b)⟩ st K =
      gcallK C st d (gAt ops j st.ρ) b (mapV st.ρ args.toList) (allC st.ρ args.toList) (aopP C st.ρ (bif dr then H0 else st.H) (.call { callee := .value (.func f), args := args, argTypes := ts })).2 K
        (stepH C dr H0 ops ⟨d, .call { callee := .value (.func f), args := args, argTypes := ts }, ty, pos, af, some (j, b)⟩ st K) (C.Ψ f) (C.Θ f) := by
  rw [mapV_eq]
  have e1 : oc st.ρ (.func f) = True := rfl
  have e2 : ox st.ρ (.func f) = .pv (.fn f []) := rfl
  unfold stepX
  cases hψ : C.Ψ f with
  | some ψ => rfl
  | none =>
    cases hθ : C.Θ f with
    | none => rfl
    | some θ =>
      have main : ∀ c : Bool, stepQ C (bif dr then H0 else st.H) ⟨d, .call { callee := .value (.func f), args := args, argTypes := ts }, ty, pos, af, some (j, b)⟩ c st K =
          callGc C.N st d c (allC st.ρ args.toList) (θ (args.toList.map (ox st.ρ)) st.H) (aopP C st.ρ (bif dr then H0 else st.H) (.call { callee := .value (.func f), args := args, argTypes := ts })).2 K := by
        intro c
        simp only [stepQ, qop, e1, e2, calleeA, hθ, List.map_nil, List.append_nil, true_and, and_assoc, callGc]
      unfold stepG
      simp only [cls, hψ, Option.isSome_none, Bool.false_eq_true, if_false, if_true, guardC, gcallK, gAt]
      cases hj : (ops[j]?).bind (·.dst) with
      | none => rfl
      | some g =>
        simp only
        cases hv : st.ρ g with
        | pv p => cases p <;> simp only <;> exact main _
        | whn c v => cases v <;> try rfl
                     rename_i p; cases p <;> first | rfl | exact main _
        | _ => rfl
theorem gcallK_b {d : Option Tmp} {t b : Bool} {args : List AV} {ok : Prop} {v0 : AV} {x : Prop} {θ : QSpec} : gcallK C st d (.pv (.bool t)) b args ok v0 K x none (some θ) = callGc C.N st d (t == b) ok (θ args st.H) v0 K := rfl
theorem gcallK_w {d : Option Tmp} {c t b : Bool} {args : List AV} {ok : Prop} {v0 : AV} {x : Prop} {θ : QSpec} : gcallK C st d (.whn c (.pv (.bool t))) b args ok v0 K x none (some θ) = callGc C.N st d (c && (t == b)) ok (θ args st.H) v0 K := rfl
end
end Go.AM
