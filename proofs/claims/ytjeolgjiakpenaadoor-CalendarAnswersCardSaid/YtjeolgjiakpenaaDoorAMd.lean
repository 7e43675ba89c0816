/-
  A part of a proof: see the last text of this claim for what is proved.
-/
import Derived.Test.YtjeolgjiakpenaaDoorAMc
namespace Go.AM
open Go
set_option linter.unusedVariables false
set_option linter.unusedSimpArgs false

/-- What a program's walks stand on: a fact on the world that only global blocks bear. -/
structure Glob where
  P : Program
  nG : Nat
  I : World → Prop
  stable : ∀ w w' : World, I w → (∀ b, b < nG → w'.heap[b]? = w.heap[b]?) → w.heap.size ≤ w'.heap.size → I w'

/-- From w to w' nothing has turned but blocks of 'M' and new ones. -/
structure Ext (M : Nat → Prop) (w w' : World) : Prop where
  os : w'.os = w.os
  tape : w'.tape = w.tape
  output : w'.output = w.output
  size : w.heap.size ≤ w'.heap.size
  block : ∀ b, b < w.heap.size → ¬ M b → w'.heap[b]? = w.heap[b]?
  frozen : ∀ a : Addr, a.block < w.heap.size → w'.frozen? a = w.frozen? a

theorem Ext.refl (M : Nat → Prop) (w : World) : Ext M w w := ⟨rfl, rfl, rfl, Nat.le_refl _, fun _ _ _ => rfl, fun _ _ => rfl⟩
theorem Ext.trans {M : Nat → Prop} {a b c : World} (h : Ext M a b) (k : Ext M b c) : Ext M a c :=
  ⟨k.os.trans h.os, k.tape.trans h.tape, k.output.trans h.output, Nat.le_trans h.size k.size, fun i hi hm => (k.block i (Nat.lt_of_lt_of_le hi h.size) hm).trans (h.block i hi hm), fun a ha => (k.frozen a (Nat.lt_of_lt_of_le ha h.size)).trans (h.frozen a ha)⟩
/-- The second step may write what is new behind the first. -/
theorem Ext.trans' {M M' : Nat → Prop} {a b c : World} (h : Ext M a b) (k : Ext M' b c) (hm : ∀ i, M' i → M i ∨ a.heap.size ≤ i) : Ext M a c :=
  ⟨k.os.trans h.os, k.tape.trans h.tape, k.output.trans h.output, Nat.le_trans h.size k.size, fun i hi hn =>
    (k.block i (Nat.lt_of_lt_of_le hi h.size) (fun hM => (hm i hM).elim hn (fun hge => absurd hi (Nat.not_lt.2 hge)))).trans (h.block i hi hn), fun a ha => (k.frozen a (Nat.lt_of_lt_of_le ha h.size)).trans (h.frozen a ha)⟩

theorem frozen_alloc (w : World) (c : Array Value) (t : TypeId) (a : Addr) : (w.alloc (.cells c t)).frozen? a = w.frozen? a := by
  unfold World.frozen? World.alloc
  simp only [Array.getElem?_push]
  by_cases h : a.block = w.heap.size
  · rw [if_pos h, h]
    simp
  · rw [if_neg h]
/-- Where a call began: its world; blocks that others may write, and it does not; old blocks that it may write. -/
structure Base where
  w0 : World
  X : Nat → Prop
  M0 : Nat → Prop
  L0 : Locs

def Mut (E : Base) (L : Locs) (H : AHeap) (b : Nat) : Prop := E.X b ∨ Own L H b

structure Rel (G : Glob) (E : Base) (S : (List PV → Prop × PV) → Value → Prop) (N : Nat) (st : ASt) (a : Array Value) (w : World) (L : Locs) : Prop where
  size : a.size = N
  ext : Ext E.M0 E.w0 w
  inv : G.I w
  glob : G.nG ≤ E.w0.heap.size
  old : ∀ b, E.X b → b < E.w0.heap.size ∧ ¬ E.M0 b
  m0 : ∀ b, E.M0 b → G.nG ≤ b
  own : ∀ key B b cap, hget st.H key = some B → L key = some (b, cap) → ¬ E.X b ∧ G.nG ≤ b ∧ (E.M0 b ∨ E.w0.heap.size ≤ b)
  inj : ∀ k1 k2 B1 B2 b c1 c2, hget st.H k1 = some B1 → hget st.H k2 = some B2 → L k1 = some (b, c1) → L k2 = some (b, c2) → k1 = k2
  blk : ∀ key B, hget st.H key = some B → BRel w (Mut E L st.H) L st.H S key B
  env : ∀ s, AVRel w (Mut E L st.H) L st.H S (st.ρ s) (a.getD s undef)
  fix : ∀ κ b c, E.L0 κ = some (b, c) → L κ = some (b, c) ∧ ∃ B, hget st.H κ = some B ∧ B.isVar = true

/-- An operation, carried out, leaves a value and a world. -/
def OpYields (P : Program) (o : Oper) (a : Act) (w : World) (R : Value → World → Prop) : Prop :=
  match (execOp a.eval o).run P w with
  | .ok (.value v) w' => R v w'
  | .ok .skip w' => R undef w'
  | .ok (.enter f args) w' => Calls P f args w' (fun e w'' => ∃ v, e = .returned v ∧ R v w'')
  | _ => False

theorem OpYields.wp {P : Program} {o : Oper} {a : Act} {w : World} {R : Value → World → Prop} {next : Act → World → Prop} {Q : Exit → Act → World → Prop}
    (h : OpYields P o a w R) (hn : ∀ v w', R v w' → next (a.put o.dst v) w') : o.wp P a w next Q := by
  unfold OpYields at h
  unfold Oper.wp
  generalize (execOp a.eval o).run P w = r at *
  cases r with
  | halt x w' => exact h.elim
  | ok n w' =>
    cases n <;> simp only [Oper.upon] at h ⊢
    case value v => exact hn _ _ h
    case skip => exact hn _ _ h
    case enter f args =>
      refine h.mono fun e w'' ⟨v, he, hr⟩ => ?_
      subst he
      exact hn _ _ hr

theorem OpYields.of_run {P : Program} {o : Oper} {a : Act} {w w' : World} {v : Value} {R : Value → World → Prop}
    (h : (execOp a.eval o).run P w = .ok (.value v) w') (hr : R v w') : OpYields P o a w R := by
  unfold OpYields; rw [h]; exact hr

theorem OpYields.mono {P : Program} {o : Oper} {a : Act} {w : World} {R R' : Value → World → Prop} (h : OpYields P o a w R) (hr : ∀ v w', R v w' → R' v w') : OpYields P o a w R' := by
  unfold OpYields at *
  generalize (execOp a.eval o).run P w = r at *
  cases r with
  | halt x w' => exact h.elim
  | ok n w' =>
    cases n <;> simp only at h ⊢
    case value v => exact hr _ _ h
    case skip => exact hr _ _ h
    case enter f args => exact h.mono fun e w'' ⟨v, he, h'⟩ => ⟨v, he, hr _ _ h'⟩

/-! ### Operands -/
section
variable {w : World} {M : Nat → Prop} {L : Locs} {H : AHeap} {S : (List PV → Prop × PV) → Value → Prop}

theorem ofV1_rel (v : Value) : AVRel w M L H S (ofV1 v) v := by
  unfold ofV1
  split
  · exact .pv _ _ (.int _ _)
  · exact .pv _ _ (.bool _)
  · rename_i s; exact .pv _ _ (by have := PVRel.str (w := w) (M := M) s.data.toList; simpa using this)
  · exact .pv _ _ .nilI
  · exact .pv _ _ .nilP
  · exact .nils
  · exact .top _
theorem ofV_rel (v : Value) : AVRel w M L H S (ofV v) v := by
  unfold ofV
  split
  · rename_i cs
    refine .agg _ _ (by simp) (fun i c hc => ?_)
    rw [List.getElem?_map] at hc
    obtain ⟨d, hd, rfl⟩ := Option.map_eq_some_iff.1 hc
    have : cs.getD i undef = d := by
      rw [Array.getElem?_toList] at hd
      simp [Array.getD_eq_getD_getElem?, hd]
    rw [this]; exact ofV1_rel d
  · exact ofV1_rel _

theorem opnd_rel {ρ : Nat → AV} {a : Act} (he : ∀ s, AVRel w M L H S (ρ s) (a.tmps.getD s undef)) (x : Operand) : AVRel w M L H S (opndV ρ x) (a.eval x) := by
  cases x with
  | tmp t => exact he t
  | const v => exact ofV_rel v
  | global g => exact .top _
  | func f => exact .pv _ _ (.fn f [] #[] rfl (by simp))
theorem strip_rel {v : AV} {x : Value} (h : AVRel w M L H S v x) (hc : stripC v) : AVRel w M L H S (stripV v) x := by
  cases v <;> first
    | exact h
    | (rename_i b v'
       have hb : b = true := hc
       subst hb
       cases h with
       | whnT _ _ h => exact h)
theorem ox_rel {ρ : Nat → AV} {a : Act} (he : ∀ s, AVRel w M L H S (ρ s) (a.tmps.getD s undef)) (x : Operand) (hc : oc ρ x) : AVRel w M L H S (ox ρ x) (a.eval x) :=
  strip_rel (opnd_rel he x) hc
end

theorem getD_map {α β : Type} (f : α → β) (xs : Array α) (i : Nat) (d : β) (e : α) (h : f e = d) : (xs.map f).getD i d = f (xs.getD i e) := by
  simp only [Array.getD_eq_getD_getElem?, Array.getElem?_map]
  cases xs[i]? <;> simp [h]

theorem pv_inv {w : World} {M : Nat → Prop} {L : Locs} {H : AHeap} {S : (List PV → Prop × PV) → Value → Prop} {p : PV} {v : Value} (h : AVRel w M L H S (.pv p) v) : PVRel w M p v := by
  cases h; assumption
theorem int_inv {w : World} {M : Nat → Prop} {L : Locs} {H : AHeap} {S : (List PV → Prop × PV) → Value → Prop} {k : IntKind} {n : Int} {v : Value} (h : AVRel w M L H S (.pv (.int k n)) v) : v = .int k n := by
  have := pv_inv h; cases this; rfl
theorem bool_inv {w : World} {M : Nat → Prop} {L : Locs} {H : AHeap} {S : (List PV → Prop × PV) → Value → Prop} {b : Bool} {v : Value} (h : AVRel w M L H S (.pv (.bool b)) v) : v = .bool b := by
  have := pv_inv h; cases this; rfl
section
variable {w : World} {M : Nat → Prop} {L : Locs} {H : AHeap} {S : (List PV → Prop × PV) → Value → Prop}
theorem ptr_inv {key off : Nat} {x : Value} (h : AVRel w M L H S (.ptr key off) x) : ∃ B b cap, hget H key = some B ∧ B.isVar = true ∧ L key = some (b, cap) ∧ x = .pointer (some ⟨b, off, none⟩) := by
  cases h; exact ⟨_, _, _, ‹_›, ‹_›, ‹_›, rfl⟩
theorem rp_inv {key i off : Nat} {x : Value} (h : AVRel w M L H S (.rp key i off) x) :
    ∃ k es b cap, hget H key = some (.row k es) ∧ L key = some (b, cap) ∧ i < es.length ∧ x = .pointer (some ⟨b, i * k + off, none⟩) := by
  cases h; exact ⟨_, _, _, _, ‹_›, ‹_›, ‹_›, rfl⟩
theorem rs_inv {key hi : Nat} {x : Value} (h : AVRel w M L H S (.rs key hi) x) :
    (∃ k, hget H key = some (.row k []) ∧ L key = none ∧ hi = 0 ∧ x = .slice none 0 0) ∨
    (∃ k es b cap, hget H key = some (.row k es) ∧ L key = some (b, cap) ∧ hi ≤ es.length ∧ x = .slice (some ⟨b, 0, none⟩) hi cap) := by
  cases h
  · exact .inl ⟨_, ‹_›, ‹_›, rfl, rfl⟩
  · exact .inr ⟨_, _, _, _, ‹_›, ‹_›, ‹_›, rfl⟩
theorem rv_inv {key lo hi : Nat} {x : Value} (h : AVRel w M L H S (.rv key lo hi) x) :
    ∃ k es b cap cap' a, hget H key = some (.row k es) ∧ L key = some (b, cap) ∧ lo ≤ hi ∧ hi ≤ es.length ∧ hi - lo ≤ cap' ∧ cap' ≤ maxLen ∧ (lo < hi → a = some ⟨b, lo * k, none⟩) ∧ x = .slice a (hi - lo) cap' := by
  cases h; exact ⟨_, _, _, _, _, _, ‹_›, ‹_›, ‹_›, ‹_›, ‹_›, ‹_›, ‹_›, rfl⟩
theorem pp_inv {e : PV} {off : Nat} {x : Value} (h : AVRel w M L H S (.pv (.pp e off)) x) :
    ∃ (b o : Nat) (val : Nat → Value), x = .pointer (some ⟨b, o + off, none⟩) ∧ (∀ j c, e.cells[j]? = some c → ¬ M b ∧ c.one = true ∧ w.cell? ⟨b, o + j, none⟩ = some (val j)) ∧ (∀ j c, e.cells[j]? = some c → PVRel w M c (val j)) := by
  have := pv_inv h
  cases this; exact ⟨_, _, _, rfl, ‹_›, ‹_›⟩
theorem sl_inv {es : List PV} {x : Value} (h : AVRel w M L H S (.pv (.sl es)) x) :
    ∃ (a : Option Addr) (cap k b o : Nat) (val : Nat → Nat → Value), x = .slice a es.length cap ∧ es.length ≤ cap ∧ cap ≤ maxLen ∧ (∀ e, e ∈ es → e.width = k) ∧ (es ≠ [] → a = some ⟨b, o, none⟩) ∧
      (∀ i e j c, es[i]? = some e → e.cells[j]? = some c → ¬ M b ∧ c.one = true ∧ w.cell? ⟨b, o + i * k + j, none⟩ = some (val i j)) ∧
      (∀ i e j c, es[i]? = some e → e.cells[j]? = some c → PVRel w M c (val i j)) := by
  have := pv_inv h
  cases this; exact ⟨_, _, _, _, _, _, rfl, ‹_›, ‹_›, ‹_›, ‹_›, ‹_›, ‹_›⟩
end
end Go.AM
