/-
  A part of a proof: see the last text of this claim for what is proved.
-/
import Derived.Test.YteapbfeojedjoaaGreatDoorAMv
import Derived.RangeFuncNested
import Derived.RangeFuncCalls
import Derived.LoopNIn
namespace Go.AM
open Go
set_option linter.unusedSimpArgs false
set_option linter.unusedVariables false

/-! ### Code in a round's frame, too -/
def FF (r : Option Nat) : Fence := { Fence.wide with round := r }
theorem FF_none : FF none = Fence.wide := rfl
theorem FF_inRound (r : Option Nat) (l : Nat) : (FF r).inRound l = FF (some l) := rfl
theorem callsIn_FF {r : Option Nat} {n : Nat} {P : Program} {f : FuncId} {args : Array Value} {w : World} {R : Ending → World → Prop} (h : Calls P f args w R) : CallsIn (FF r) n P f args w R := by
  have := (callsIn_wide (n := n)).2 h
  exact this
theorem rowsIn_FF {r : Option Nat} {n : Nat} {P : Program} {row : String} {args : Array Value} {w : World} {R : Value → World → Prop} (h : Rows P row args w R) : RowsIn (FF r) n P row args w R := by
  have : RowsIn Fence.wide n P row args w R := fun c cs _ => by
    obtain ⟨v, w', hr, hs⟩ := h c cs
    exact ⟨v, w', hr, stepsIn_wide.2 hs⟩
  exact this

section
variable {P : Program} {ops : Array Oper} {Q : Exit → Act → World → Prop} {k : Nat}
theorem put_defers (a : Act) (d : Option Tmp) (v : Value) : (a.put d v).defers = a.defers := by cases d <;> rfl
/-- Deferred calls never get fewer. -/
theorem wpOps_len (hQ : ∀ a w, Q .normal a w → a.defers.length ≤ k) (hp : ∀ ch a w, ¬ Q (.panic ch) a w) (ho : ¬ LetsOut Q) : ∀ (l : List Nat) (a : Act) (w : World), wpOps P ops Q l a w → a.defers.length ≤ k := by
  intro l
  induction l with
  | nil => exact fun a w h => hQ a w h
  | cons i rest ih =>
    intro a w h
    unfold wpOps at h
    split at h
    · exact ih a w h
    · rename_i o _
      split at h
      · rcases h with h | ⟨_, h⟩
        · unfold Oper.wp at h
          generalize (execOp a.eval o).run P w = res at h
          unfold Oper.upon at h
          split at h
          · have := ih _ _ h; rwa [put_defers] at this
          · have := ih _ _ h; rwa [put_defers] at this
          · have := ih _ _ h
            rw [put_defers] at this
            simp only [List.length_cons] at this
            omega
          · obtain ⟨e, w', fr, hr, _⟩ := h []
            cases e with
            | returned v => have := ih _ _ hr; rwa [put_defers] at this
            | panicked ch => exact (hp _ _ _ hr).elim
            | outgrown => exact (ho hr).elim
          · obtain ⟨v, w', hr, _⟩ := h default []
            have := ih _ _ hr; rwa [put_defers] at this
          · exact (hp _ _ _ h).elim
          · exact h.elim
        · exact (ho h).elim
      · have := ih _ _ h; rwa [put_defers] at this
theorem semAt_defer {r : Option Nat} {ρ : Operand → Value} {o : Oper} {w w' : World} {x : Next} (h : (execOp ρ o).run P w = .ok x w') (hx : ∀ d, x ≠ .defer d) : o.semAt r ρ = execOp ρ o := by
  refine Oper.semAt_eq r ρ o (fun c hc => ?_)
  unfold execOp at h
  rw [hc] at h
  simp only [Sem.run_bind] at h
  cases hr : (resolve ρ c o.type).run P w with
  | halt y w2 => rw [hr] at h; cases h
  | ok d w2 =>
    rw [hr] at h
    simp only [Result.andThen_ok, Sem.run_pure, Result.ok.injEq] at h
    exact hx d h.1.symm
/-- A region's operations in a round's frame. -/
theorem wpOps_in (r : Option Nat) (n : Nat) (hQ : ∀ a w, Q .normal a w → a.defers.length ≤ k) (hp : ∀ ch a w, ¬ Q (.panic ch) a w) (ho : ¬ LetsOut Q) : ∀ (l : List Nat) (a : Act) (w : World), k ≤ a.defers.length → wpOps P ops Q l a w → wpOpsIn (FF r) n P ops Q l a w := by
  intro l
  induction l with
  | nil => exact fun a w _ h => h
  | cons i rest ih =>
    intro a w hk h
    unfold wpOps at h
    unfold wpOpsIn
    split at h
    · rename_i hi; rw [hi]; exact ih a w hk h
    · rename_i o hi
      rw [hi]
      simp only
      have ih' : ∀ (v : Value) (w' : World), wpOps P ops Q rest (a.put o.dst v) w' → wpOpsIn (FF r) n P ops Q rest (a.put o.dst v) w' := fun v w' h => ih _ _ (by rw [put_defers]; exact hk) h
      split at h
      · rename_i hw
        rw [if_pos hw]
        rcases h with h | ⟨_, h⟩
        · refine ⟨fun f _ => trivial, ?_⟩
          unfold Oper.wp at h
          cases hres : (execOp a.eval o).run P w with
          | halt x w' =>
            rw [hres] at h
            unfold Oper.upon at h
            split at h
            all_goals first | (rename_i he; cases he; done) | skip
            · exact (hp _ _ _ h).elim
            · exact h.elim
          | ok x w' =>
            rw [hres] at h
            cases x with
            | value v =>
              rw [semAt_defer (r := (FF r).round) hres (by simp), hres]
              exact ih' v w' h
            | skip =>
              rw [semAt_defer (r := (FF r).round) hres (by simp), hres]
              exact ih' undef w' h
            | defer d =>
              have := wpOps_len hQ hp ho _ _ _ h
              rw [put_defers] at this
              simp only [List.length_cons] at this
              omega
            | enter f args =>
              rw [semAt_defer (r := (FF r).round) hres (by simp), hres]
              refine ⟨(fun hd => nomatch hd), callsIn_FF (Calls.mono h (fun e w'' he => ?_))⟩
              cases e with
              | returned v => exact ih' v w'' he
              | panicked ch => exact he
              | outgrown => exact he
            | row row args =>
              rw [semAt_defer (r := (FF r).round) hres (by simp), hres]
              exact ⟨(fun hd => nomatch hd), rowsIn_FF (Rows.mono h (fun v w'' he => ih' v w'' he))⟩
            | _ => exact h.elim
        · exact (ho h).elim
      · rename_i hw
        rw [if_neg hw]
        exact ⟨fun f _ => trivial, ih' undef w h⟩
end
section
variable {F : Fence} {n : Nat} {P : Program} {b : Frame} {a : Act} {k : List Item} {cs : List Frame} {w : World} {Q : Exit → Act → World → Prop}
theorem stepR_scope {c : Code} : step P (lone (b.atR a (.code (.scope c) :: k)) cs w) = .next (lone (b.atR a (.code c :: .inScope c :: k)) cs w) :=
  step_lone_go (by simp [Go.stepG, Go.stepG.exec, Frame.atR])
theorem stepR_inScope {c : Code} : step P (lone (b.atR a (.inScope c :: k)) cs w) = .next (lone (b.atR a k) cs w) :=
  step_lone_go (by simp [Go.stepG, Go.stepG.exec, Frame.atR])
theorem wpIn_scope_straight {c : Code} (h : c.wpIn F n P (Exit.noGoto Q) a w) : (Code.scope c).wpIn F n P Q a w := by
  intro b k cs hro hb hr
  have h0 : (lone (b.atR a (.code (.scope c) :: k)) cs w).fenced P F := fenced_calm hb hr rfl
  obtain ⟨e, a₁, w₁, hq, harr⟩ := h b (.inScope c :: k) cs hro hb hr
  have hx : ∀ id, exitTo id (.inScope c :: k) = exitTo id k := fun id => rfl
  cases e with
  | normal => exact ⟨.normal, a₁, w₁, hq, .head h0 stepR_scope (StepsIn.trans harr (.one (fenced_calm hb hr rfl) stepR_inScope))⟩
  | exit id => exact ⟨_, a₁, w₁, hq, .of_steps (.one h0 stepR_scope) ⟨fun k' hk => harr.1 k' (by rw [hx]; exact hk), fun hr hk => harr.2 hr (by rw [hx]; exact hk)⟩⟩
  | goto l => exact hq.elim
  | ret => exact ⟨_, a₁, w₁, hq, .of_steps (.one h0 stepR_scope) harr⟩
  | panic ch => exact ⟨_, a₁, w₁, hq, .of_steps (.one h0 stepR_scope) harr⟩
  | outgrown => exact ⟨_, a₁, w₁, hq, .of_steps (.one h0 stepR_scope) harr⟩
end
end Go.AM
