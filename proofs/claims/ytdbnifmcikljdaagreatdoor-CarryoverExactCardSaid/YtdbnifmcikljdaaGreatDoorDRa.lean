/-
  A part of a proof: see the last text of this claim for what is proved.
-/
import Derived.Calls
namespace Go.AM
open Go
set_option linter.unusedSimpArgs false
set_option linter.unusedVariables false
def RMono {α : Type} (d : Nat) : Result α → Prop
  | .ok _ w => d ≤ w.drawn
  | .halt _ w => d ≤ w.drawn
theorem RMono.le {α : Type} {a b : Nat} (h : a ≤ b) : ∀ {r : Result α}, RMono b r → RMono a r
  | .ok _ _, k => Nat.le_trans h k
  | .halt _ _, k => Nat.le_trans h k
theorem ask_drawn {α : Type} : ∀ (a : Ask α) (w : World), w.drawn ≤ (w.ask a).2.drawn
  | .done a, w => by simp [World.ask]
  | .ask what range k, w => by
    simp only [World.ask]
    split
    · exact ask_drawn _ _
    · exact Nat.le_trans (Nat.le_succ _) (ask_drawn (k _) { w with drawn := w.drawn + 1 })
theorem sys_drawn (w : World) (c : Sys) : w.drawn ≤ (w.sys c).2.drawn := by
  unfold World.sys
  have h := ask_drawn (Kernel.perform c w.os) w
  split
  · exact Nat.le_refl _
  · rename_i e; rw [e] at h; exact h
theorem viewStore_drawn {p : Program} {w w' : World} {t : Addr} {u : TypeId} {k : Addr} {v : Value} {at' : Bool} {l : List Addr} (h : w.viewStore p t u k v at' = .ok (w', l)) : w'.drawn = w.drawn := by
  unfold World.viewStore at h
  simp only [bind, Except.bind, pure, Except.pure, throw, throwThe, MonadExceptOf.throw] at h
  repeat' (first | split at h | cases h)
  all_goals rfl
theorem farStore_drawn {p : Program} {w w' : World} {a : Addr} {v : Value} {b : Bool} {l : List Addr} (h : w.farStore p a v b = .ok (w', l)) : w'.drawn = w.drawn := by
  unfold World.farStore at h
  split at h
  · split at h
    · rename_i r e; cases h; exact viewStore_drawn e
    · cases h
  · cases h
theorem freeze_drawn (w : World) (a : Addr) (n : Nat) : (w.freeze a n).drawn = w.drawn := by
  unfold World.freeze; split <;> rfl
theorem run_mono {α : Type} (p : Program) : ∀ (s : Sem α) (w : World), RMono w.drawn (s.run p w) := by
  intro s
  induction s with
  | pure a => intro w; exact Nat.le_refl _
  | load m a k ih =>
    intro w
    simp only [Sem.run]
    split
    · exact ih _ _
    · split
      · exact ih _ _
      · exact Nat.le_refl _
  | store m a v k ih =>
    intro w
    cases v
    case agg => simp only [Sem.run]; exact Nat.le_refl _
    case tuple => simp only [Sem.run]; exact Nat.le_refl _
    all_goals
      simp only [Sem.run]
      split
      · split
        · exact Nat.le_refl _
        · exact (ih _).le (Nat.le_refl _)
      · split
        · rename_i e; exact (ih _).le (Nat.le_of_eq (farStore_drawn e).symm)
        · exact Nat.le_refl _
  | new o k ih => intro w; exact ih _ _
  | shape r k ih => intro w; exact ih _ _
  | freeze a n k ih => intro w; simp only [Sem.run]; exact (ih _).le (Nat.le_of_eq (freeze_drawn w a n).symm)
  | frozen a k ih => intro w; exact ih _ _
  | getObj r k ih =>
    intro w
    simp only [Sem.run]
    split
    · exact Nat.le_refl _
    · exact ih _ _
    · exact Nat.le_refl _
  | setObj r o k ih =>
    intro w
    simp only [Sem.run]
    split
    · exact Nat.le_refl _
    · exact ih { w with heap := w.heap.setIfInBounds r o }
    · exact Nat.le_refl _
  | choose q k ih =>
    intro w
    simp only [Sem.run]
    split
    · exact ih _ _
    · exact (ih _ { w with drawn := w.drawn + 1 }).le (Nat.le_succ _)
  | sys c k ih => intro w; simp only [Sem.run]; exact (ih _ _).le (sys_drawn w c)
  | program k ih => intro w; exact ih _ _
  | mark m k ih => intro w; exact ih _
  | halt h => intro w; exact Nat.le_refl _
theorem runT_mono {α : Type} (p : Program) : ∀ (s : Sem α) (w : World) (es : Array Event), RMono w.drawn (s.runT p w es).1 := by
  intro s
  induction s with
  | pure a => intro w es; exact Nat.le_refl _
  | load m a k ih =>
    intro w es
    simp only [Sem.runT]
    split
    · exact ih _ _ _
    · split
      · exact ih _ _ _
      · exact Nat.le_refl _
  | store m a v k ih =>
    intro w es
    cases v
    case agg => simp only [Sem.runT]; exact Nat.le_refl _
    case tuple => simp only [Sem.runT]; exact Nat.le_refl _
    all_goals
      simp only [Sem.runT]
      split
      · split
        · exact Nat.le_refl _
        · exact (ih _ _).le (Nat.le_refl _)
      · split
        · rename_i e; exact (ih _ _).le (Nat.le_of_eq (farStore_drawn e).symm)
        · exact Nat.le_refl _
  | new o k ih => intro w es; exact ih _ _ _
  | shape r k ih => intro w es; exact ih _ _ _
  | freeze a n k ih => intro w es; simp only [Sem.runT]; exact (ih _ _).le (Nat.le_of_eq (freeze_drawn w a n).symm)
  | frozen a k ih => intro w es; exact ih _ _ _
  | getObj r k ih =>
    intro w es
    simp only [Sem.runT]
    split
    · exact Nat.le_refl _
    · exact ih _ _ _
    · exact Nat.le_refl _
  | setObj r o k ih =>
    intro w es
    simp only [Sem.runT]
    split
    · exact Nat.le_refl _
    · exact ih { w with heap := w.heap.setIfInBounds r o } _
    · exact Nat.le_refl _
  | choose q k ih =>
    intro w es
    simp only [Sem.runT]
    split
    · exact ih _ _ _
    · exact (ih _ { w with drawn := w.drawn + 1 } _).le (Nat.le_succ _)
  | sys c k ih => intro w es; simp only [Sem.runT]; exact (ih _ _ _).le (sys_drawn w c)
  | program k ih => intro w es; exact ih _ _ _
  | mark m k ih => intro w es; exact ih _ _
  | halt h => intro w es; exact Nat.le_refl _
theorem run_ok {α : Type} {p : Program} {s : Sem α} {w w' : World} {v : α} (h : s.run p w = .ok v w') : w.drawn ≤ w'.drawn := by
  have := run_mono p s w; rw [h] at this; exact this
theorem run_halt {α : Type} {p : Program} {s : Sem α} {w w' : World} {v : Halt} (h : s.run p w = .halt v w') : w.drawn ≤ w'.drawn := by
  have := run_mono p s w; rw [h] at this; exact this
theorem runT_res {α : Type} {p : Program} {s : Sem α} {w : World} {es es' : Array Event} {r : Result α} (h : s.runT p w es = (r, es')) : RMono w.drawn r := by
  have := runT_mono p s w es; rw [h] at this; exact this
def GMono (d : Nat) : GStep → Prop
  | .go _ w _ => d ≤ w.drawn
  | .comm _ _ _ _ w _ => d ≤ w.drawn
  | .spawn _ _ w _ => d ≤ w.drawn
  | .count _ w _ => d ≤ w.drawn
  | .timer _ _ w _ => d ≤ w.drawn
  | .alone _ _ w _ => d ≤ w.drawn
  | .newcoro _ _ _ w _ => d ≤ w.drawn
  | .coroswitch _ _ _ w _ => d ≤ w.drawn
  | .collect _ w _ => d ≤ w.drawn
  | .watch _ w _ => d ≤ w.drawn
  | .ended _ _ _ => True
theorem GMono.le {a b : Nat} (h : a ≤ b) : ∀ {s : GStep}, GMono b s → GMono a s := by
  intro s k
  cases s <;> first | exact Nat.le_trans h k | trivial
theorem GMono.after {d : Nat} {es : Array Event} {s : GStep} (h : GMono d s) : GMono d (GStep.after es s) := by
  cases s <;> exact h
theorem endWith_g {d : Nat} {w : World} {fd : Nat} {t : ByteArray} {o : Outcome} : GMono d (endWith w fd t o) := by
  unfold endWith
  simp only
  repeat' split
  all_goals trivial
theorem dieOf_g {w : World} {fr : Frame} {a : List ByteArray} {m : String} {b : Bool} : GMono w.drawn (dieOf fr a m b w) := Nat.le_refl _
theorem endThrow_g {w : World} {fr : Frame} {m : String} : GMono w.drawn (endThrow fr m w) := Nat.le_refl _
theorem endPrinting_g {w : World} {p : Program} {fr : Frame} {v : Value} : GMono w.drawn (endPrinting p fr v w) := by
  unfold endPrinting
  simp only
  repeat' split
  all_goals first | exact endThrow_g | trivial
theorem endFatal_g {w : World} {p : Program} {fr : Frame} {cs : List Frame} {d : Option Dying} {m : String} : GMono w.drawn (endFatal p fr cs d m w) := by
  unfold endFatal
  extract_lets
  split
  · rename_i e; exact dieOf_g.le (run_ok e)
  · trivial
  · trivial
theorem writeOn_g {w : World} {p : Program} {fr : Frame} {d : Dying} {f : Fatal} : GMono w.drawn (writeOn p fr d f w) := by
  unfold writeOn
  extract_lets
  split
  · trivial
  · extract_lets
    split
    · rename_i e; exact runT_res e
    · rename_i e; exact runT_res e
    · trivial
    · trivial
theorem die_g {w : World} {p : Program} {fr : Frame} {d : Dying} : GMono w.drawn (die p fr d w) := by
  unfold die
  split
  · exact writeOn_g
  · split
    · split
      · exact Nat.le_refl _
      · exact endWith_g
    · extract_lets
      split
      · exact Nat.le_refl _
      · split
        · rename_i e; exact run_ok e
        · trivial
      · split
        rename_i e
        have h := runT_res e
        refine GMono.after ?_
        split
        · exact h
        · exact h
        · trivial
        · exact endPrinting_g.le h
        · trivial
      · trivial
theorem early_g {w : World} {p : Program} {fr : Frame} {cs : List Frame} {d : Option Dying} {g : Nat} : GMono w.drawn (early p fr cs d g w) := by
  unfold early
  extract_lets refuse notYet
  have hn : ∀ w', GMono w'.drawn (notYet w') := by
    intro w'
    simp only [notYet]
    split
    · exact Nat.le_refl _
    · trivial
  split
  · exact hn w
  · split
    · trivial
    · extract_lets there
      have ht : ∀ w', GMono w'.drawn (there w') := fun w' => Nat.le_refl _
      split
      · exact hn w
      · split
        · exact hn w
        · split
          · trivial
          · exact ht w
          · trivial
          · exact hn w
          · split
            · exact ht w
            · split
              · exact hn w
              · split
                · rename_i e; exact (hn _).le (run_ok e)
                · rename_i e; exact (ht _).le (run_ok e)
                · trivial
theorem doReturn_g {w : World} {p : Program} {m : Bool} {fr : Frame} {cs : List Frame} {d : Option Dying} {v : Value} : GMono w.drawn (doReturn p m fr cs d v w) := by
  unfold doReturn
  repeat' split
  all_goals first | exact Nat.le_refl _ | trivial
theorem GMono.ite {d : Nat} {c : Prop} [Decidable c] {a b : GStep} (h1 : GMono d a) (h2 : GMono d b) : GMono d (if c then a else b) := by
  split
  · exact h1
  · exact h2
theorem callDeferred_g {w : World} {p : Program} {fr : Frame} {cs : List Frame} {d : Option Dying} {df : Deferred} : GMono w.drawn (callDeferred p fr cs d df w) := by
  unfold callDeferred
  refine GMono.ite trivial ?_
  obtain ⟨⟨r, es⟩, e⟩ : ∃ x, (invoke df.target df.args).runT p w #[] = x := ⟨_, rfl⟩
  have h := runT_res e
  rw [e]
  refine GMono.after ?_
  clear e
  rcases r with ⟨n, w'⟩ | ⟨x, w'⟩
  · have h' : w.drawn ≤ w'.drawn := h
    cases n
    case recover => dsimp only; split <;> exact h'
    case alone b v => cases b <;> first | exact h' | trivial
    case coroswitch c b => cases b <;> first | exact h' | trivial
    all_goals first | exact h' | trivial
  · have h' : w.drawn ≤ w'.drawn := h
    cases x <;> first | exact h' | trivial | exact endFatal_g.le h' | exact endThrow_g.le h'
theorem unwind_g {w : World} {p : Program} {m : Bool} {fr : Frame} {cs : List Frame} {d : Option Dying} : GMono w.drawn (unwind p m fr cs d w) := by
  unfold unwind
  split
  · split
    rename_i e
    have h := runT_res e
    refine GMono.after ?_
    split
    · exact h
    · trivial
  · exact callDeferred_g
  · split
    · trivial
    · split
      · trivial
      · split
        · exact Nat.le_refl _
        · split
          · split
            · exact Nat.le_refl _
            · split
              · rename_i e; exact run_ok e
              · trivial
              · trivial
          · split
            · exact endPrinting_g
            · trivial
    · split
      · exact doReturn_g
      · split
        rename_i e
        have h := runT_res e
        refine GMono.after ?_
        split
        · exact doReturn_g.le h
        · trivial
        · trivial
theorem apply_g {w : World} {p : Program} {fr : Frame} {cs : List Frame} {d : Option Dying} {s : Sem Next} {li : Bool} : GMono w.drawn (stepG.apply p li fr cs d s w) := by
  unfold stepG.apply
  extract_lets go kind
  have hgo : ∀ fr w', GMono w'.drawn (go fr w') := fun _ _ => Nat.le_refl _
  obtain ⟨⟨r, es⟩, e⟩ : ∃ x, (if li then s.runT p w #[] else (s.run p w, #[])) = x := ⟨_, rfl⟩
  have h : RMono w.drawn r := by
    cases li
    · have := (Prod.mk.inj e).1; rw [← this]; exact run_mono p s w
    · exact runT_res e
  rw [e]
  clear e
  refine GMono.after ?_
  rcases r with ⟨n, w'⟩ | ⟨x, w'⟩
  · have h' : w.drawn ≤ w'.drawn := h
    cases n
    case recover =>
      dsimp only
      split <;> first | exact h' | exact (hgo _ _).le h'
    case callThen d r s w => dsimp only; split <;> first | exact h' | exact (hgo _ _).le h'
    case row => dsimp only; split <;> first | exact h' | exact (hgo _ _).le h'
    case stack => dsimp only; split <;> first | exact h' | exact (hgo _ _).le h'
    case spawn => exact GMono.ite (endThrow_g.le h') h'
    all_goals first | exact h' | exact (hgo _ _).le h' | trivial
  · have h' : w.drawn ≤ w'.drawn := h
    cases x
    case unsupported u =>
      cases u <;> first | exact early_g.le h' | trivial
    all_goals first | exact h' | exact (hgo _ _).le h' | trivial | exact endFatal_g.le h' | exact endThrow_g.le h'
theorem oper_g {w : World} {p : Program} {fr : Frame} {cs : List Frame} {d : Option Dying} {li : Bool} : GMono w.drawn (stepG.oper p li fr cs d w) := by
  unfold stepG.oper
  split
  · trivial
  · split <;> exact apply_g
theorem exec_g {w : World} {p : Program} {m : Bool} {fr : Frame} {cs : List Frame} {d : Option Dying} {li : Bool} : GMono w.drawn (stepG.exec p m li fr cs d w) := by
  unfold stepG.exec
  extract_lets go to lost leave
  have hgo : ∀ fr w', GMono w'.drawn (go fr w') := fun _ _ => Nat.le_refl _
  have hto : ∀ t, GMono w.drawn (to t) := fun _ => Nat.le_refl _
  have hlost : ∀ t, GMono w.drawn (lost t) := fun _ => trivial
  have hle : ∀ j, GMono w.drawn (leave j) := by
    intro j
    simp only [leave]
    split
    · exact GMono.ite (hgo _ _) (hlost _)
    · rename_i l _
      obtain ⟨⟨r, es⟩, e⟩ : ∃ x, (Instr.endRound l j).runT p w #[] = x := ⟨_, rfl⟩
      have h := runT_res e
      rw [e]
      refine GMono.after ?_
      cases r with
      | ok v w' => exact doReturn_g.le h
      | halt x w' => trivial
  have hel : ∀ (o : Option (List Item)) (j : Option Code), GMono w.drawn (o.elim (leave j) to) := by
    intro o j
    cases o
    · exact hle j
    · exact hto _
  have hel2 : ∀ (o : Option (Array Value → Sem Next)) (t : String) (xs : Array Value), GMono w.drawn (o.elim (lost t) fun e => stepG.apply p li fr cs d (e xs) w) := by
    intro o t xs
    cases o
    · exact hlost t
    · exact apply_g
  clear_value go to lost leave
  split
  all_goals try first
    | exact hle _
    | exact hto _
    | exact hlost _
    | exact apply_g
    | exact hel _ _
    | exact hel2 _ _ _
    | exact GMono.ite oper_g (hgo _ _)
  · split
    · exact hto _
    · exact hlost _
  · rename_i f params assign body k hh
    obtain ⟨⟨r, es⟩, e⟩ : ∃ x, (Instr.enterLoop fr.fn fr.tmps params assign body fr.roundOf).runT p w #[] = x := ⟨_, rfl⟩
    have h := runT_res e
    rw [e]
    refine GMono.after ?_
    rcases r with ⟨⟨l, mark⟩, w'⟩ | ⟨x, w'⟩
    · exact apply_g.le h
    · trivial
  · trivial
  · rename_i l k hh
    obtain ⟨⟨r, es⟩, e⟩ : ∃ x, (Instr.endLoop l).runT p w #[] = x := ⟨_, rfl⟩
    have h := runT_res e
    rw [e]
    refine GMono.after ?_
    rcases r with ⟨v, w'⟩ | ⟨x, w'⟩
    · exact (hgo _ _).le h
    · cases x <;> first | trivial | exact (hgo _ _).le h
  · trivial
  · refine GMono.ite (hto _) ?_
    split
    · rename_i e; exact (hgo _ _).le (run_ok e)
    · trivial
theorem stepG_g {w : World} {p : Program} {m : Bool} {g : Goroutine} {li : Bool} : GMono w.drawn (stepG p m g w li) := by
  unfold stepG
  obtain ⟨fr, cs, st, d, of⟩ := g
  dsimp only
  split
  · exact die_g
  · exact exec_g
  · exact unwind_g
def SMono (d : Nat) : Stepped → Prop
  | .next m => d ≤ m.world.drawn
  | .ended _ _ => True
theorem SMono.le {a b : Nat} (h : a ≤ b) : ∀ {s : Stepped}, SMono b s → SMono a s := by
  intro s k
  cases s <;> first | exact Nat.le_trans h k | trivial
theorem SMono.ite {d : Nat} {c : Prop} [Decidable c] {a b : Stepped} (h1 : SMono d a) (h2 : SMono d b) : SMono d (if c then a else b) := by
  split
  · exact h1
  · exact h2
theorem look_s {p : Program} {gs : Array Goroutine} {r : Rest} {w : World} : SMono w.drawn (look p gs r w) := by
  unfold look
  split
  · extract_lets
    split
    split
    refine SMono.ite trivial ?_
    extract_lets
    split
    · trivial
    · extract_lets
      split
      · rename_i e; have h := run_ok e; exact h
      · trivial
      · trivial
  · trivial
theorem drain_d (w : World) (c : Nat) : (drain w c).2.drawn = w.drawn := by
  unfold drain; split <;> rfl
theorem retime_d (m : Machine) (k : Nat) (t : Timer) (a b : Nat) : (retime m k t a b).2.world.drawn = m.world.drawn := by
  unfold retime
  extract_lets
  cases t.chan
  · rfl
  · exact drain_d _ _
theorem named_d {m : Machine} {var : Addr} {f : Nat → Timer → Value × Machine} {d : Nat} {v : Value} {m' : Machine} (hf : ∀ k t, (f k t).2.world.drawn = d) (h : timerOp.named m var f = .ok (v, m')) : m'.world.drawn = d := by
  unfold timerOp.named at h
  split at h
  · have := (Except.ok.inj h); rw [← show (f _ _).2 = m' from congrArg Prod.snd this]; exact hf _ _
  · cases h
theorem timerOp_d {m m' : Machine} {op : TimerOp} {v : Value} (h : timerOp m op = .ok (v, m')) : m'.world.drawn = m.world.drawn := by
  cases op with
  | new t =>
    simp only [timerOp] at h
    split at h
    · have := congrArg Prod.snd (Except.ok.inj h); rw [← show _ = m' from this]; rfl
    · split at h
      · split at h
        · cases h
        · have := congrArg Prod.snd (Except.ok.inj h); rw [← show _ = m' from this]
      · cases h
  | stop var => exact named_d (fun k t => retime_d m k t _ _) h
  | reset var a b =>
    simp only [timerOp] at h
    split at h
    · rename_i m1 e
      have e1 : m1.world.drawn = m.world.drawn := by
        unfold timerOp.opened at e
        split at e
        · split at e
          · rw [← Option.some.inj e]
          · cases e
        · rw [← Option.some.inj e]
      exact named_d (fun k t => (retime_d m1 k t _ _).trans e1) h
    · cases h
  | deadline c r w a =>
    simp only [timerOp] at h
    have := congrArg Prod.snd (Except.ok.inj h); rw [← show _ = m' from this]; rfl
theorem serve_s {p : Program} {m : Machine} {k : Nat} : SMono m.world.drawn (serve p m k) := by
  unfold serve
  split
  · trivial
  · exact Nat.le_refl _
  · extract_lets
    split
    · trivial
    · exact Nat.le_refl _
theorem comm_s {p : Program} {r : Rest} {gs : Array Goroutine} {i : Nat} {g : Goroutine} {cs : Array CommCase} {b : Bool} {sh : CommShape} {w : World} : SMono w.drawn (communicate p r gs i g cs b sh w).1 := by
  unfold communicate
  extract_lets put illMade me other ready pick
  have hput : ∀ (d : Nat) (g : Goroutine) (gs : Array Goroutine) (w' : World) (ops : Array MemOp), d ≤ w'.drawn → SMono d (put g gs w' ops).1 := fun _ _ _ _ _ h => h
  clear_value put pick ready
  split
  · trivial
  · split
    · split
      · split
        · rename_i w1 e
          have : w1.drawn = w.drawn := by
            unfold waitingAt at e
            split at e
            · split at e
              · rw [← Option.some.inj e]
              · cases e
            · rw [← Option.some.inj e]
          exact Nat.le_of_eq this.symm
        · trivial
      · exact hput _ _ _ _ _ (Nat.le_refl _)
    · split
      · trivial
      · rename_i e
        have h := run_ok e
        extract_lets
        split
        · split
          · rename_i e2; exact hput _ _ _ _ _ (Nat.le_trans h (run_halt e2))
          · trivial
        · exact hput _ _ _ _ _ h
        · exact hput _ _ _ _ _ h
        · extract_lets
          split
          · exact hput _ _ _ _ _ h
          · split
            · rename_i e2; have h2 := run_ok e2; exact hput _ _ _ _ _ (Nat.le_trans h h2)
            · trivial
        · exact hput _ _ _ _ _ h
        · exact hput _ _ _ _ _ h
        · trivial
theorem runT_s {p : Program} {m : Machine} {i : Nat} {li : Bool} : SMono m.world.drawn (runT p m i li).1 := by
  unfold runT
  extract_lets rest world
  obtain ⟨⟨g, gs⟩, e0⟩ : ∃ x, m.gs.swapAt! i { (default : Goroutine) with status := .finished } = x := ⟨_, rfl⟩
  rw [e0]
  dsimp only
  have hg := stepG_g (w := world) (p := p) (m := i == 0) (g := g) (li := li)
  generalize stepG p (i == 0) g world li = s at hg ⊢
  cases s with
  | ended o w es => trivial
  | comm g cases blocking shape w es =>
    dsimp only
    have := comm_s (p := p) (r := rest) (gs := gs) (i := i) (g := g) (cs := cases) (b := blocking) (sh := shape) (w := w)
    exact this.le hg
  | go g w es => exact hg
  | spawn g child w es => exact hg
  | count g w es => exact SMono.ite trivial hg
  | alone g on w es => exact hg
  | collect g w es => exact look_s.le hg
  | watch g w es => exact hg
  | newcoro g c d w es => exact hg
  | coroswitch g c exit w es =>
    dsimp only
    split
    · exact hg
    · exact hg
    · trivial
  | timer g op w es =>
    dsimp only
    split
    · rename_i e; exact Nat.le_trans hg (Nat.le_of_eq (timerOp_d e).symm)
    · exact hg
    · trivial
    · trivial
def MMono (d : Nat) : Move → Prop
  | .goroutine m _ => d ≤ m.world.drawn
  | .machine s _ => SMono d s
theorem MMono.le {a b : Nat} (h : a ≤ b) : ∀ {s : Move}, MMono b s → MMono a s
  | .goroutine _ _, k => Nat.le_trans h k
  | .machine _ _, k => SMono.le h k
theorem MMono.ite {d : Nat} {c : Prop} [Decidable c] {a b : Move} (h1 : MMono d a) (h2 : MMono d b) : MMono d (if c then a else b) := by
  split
  · exact h1
  · exact h2
theorem askOn_m {p : Program} {m : Machine} : MMono m.world.drawn (askOn p m) := by
  unfold askOn
  extract_lets mono rs ds pick
  have hp : ∀ m', MMono m'.world.drawn (pick m') := by
    intro m'
    simp only [pick]
    split
    · trivial
    · rename_i e
      have h := run_ok e
      refine MMono.ite h ?_
      split
      · trivial
      · rename_i e2; exact Nat.le_trans h (run_ok e2)
  clear_value pick rs ds
  split
  · trivial
  · rename_i e
    have h := run_ok e
    extract_lets m1
    refine MMono.ite (SMono.le h (serve_s (m := m1))) ?_
    split
    · split
      · exact h
      · refine MMono.ite h ?_
        extract_lets
        split
        · trivial
        · trivial
    · split
      · exact (hp m1).le h
      · split
        · trivial
        · rename_i e2; exact (hp { m1 with world := _ }).le (Nat.le_trans h (run_ok e2))
        · rename_i e2; have h2 := run_ok e2; exact Nat.le_trans h h2
        · rename_i e2; exact (hp _).le (Nat.le_trans h (run_ok e2))
theorem ask_m {p : Program} {m : Machine} : MMono m.world.drawn (ask p m) := by
  unfold ask
  split
  · split
    · trivial
    · rename_i w e
      have h := run_ok e
      have hl := look_s (p := p) (gs := m.gs) (r := m.rest) (w := w)
      split
      · rename_i e2; rw [e2] at hl; exact askOn_m.le (Nat.le_trans h hl)
      · rename_i e2 _; exact SMono.le h hl
    · rename_i e; exact (askOn_m (m := { m with world := _ })).le (run_ok e)
  · exact askOn_m
theorem move_m {p : Program} {m : Machine} : MMono m.world.drawn (move p m) := by
  unfold move
  split
  · exact MMono.ite (Nat.le_refl _) trivial
  · split
    · exact MMono.ite (Nat.le_refl _) (ask_m (m := { m with rest := _ }))
    · exact ask_m
theorem step_s {p : Program} {m : Machine} : SMono m.world.drawn (step p m) := by
  unfold step stepT
  have h := move_m (p := p) (m := m)
  generalize move p m = x at h ⊢
  cases x with
  | goroutine m' i => exact runT_s.le h
  | machine s ops => exact h
theorem runN_d {p : Program} : ∀ (n : Nat) (m m' : Machine), runN p n m = .next m' → m.world.drawn ≤ m'.world.drawn
  | 0, m, m', h => by cases h; exact Nat.le_refl _
  | n + 1, m, m', h => by
    have hs := step_s (p := p) (m := m)
    unfold runN at h
    split at h
    · rename_i m1 e; rw [e] at hs; exact Nat.le_trans hs (runN_d n _ _ h)
    · rename_i e; rw [h] at e; exact absurd rfl (e _)
theorem Calls.drawn {P : Program} {f : FuncId} {args : Array Value} {w : World} {R : Ending → World → Prop} (h : Calls P f args w R) (hr : ∀ e w', R e w' → ∃ v, e = .returned v) :
    Calls P f args w (fun e w' => R e w' ∧ w.drawn ≤ w'.drawn) := by
  intro cs
  obtain ⟨e, w', fr, h1, h2, h3⟩ := h cs
  obtain ⟨v, rfl⟩ := hr _ _ h1
  obtain ⟨n, hn⟩ := (show Steps P _ _ from h2)
  exact ⟨_, w', fr, ⟨h1, runN_d n _ _ hn⟩, h2, h3⟩
end Go.AM
