/-
  A part of a proof: see the last text of this claim for what is proved.
-/
import Derived.WalkKit
import Derived.Deep.Quiet
import Derived.Lib.Strings
namespace Go.AM
open Go
set_option linter.unusedVariables false
set_option linter.unusedSimpArgs false

/-- Plain data, as values: what a value reads as where nothing writes any more. -/
inductive PV where
  | bool (b : Bool)
  | int (k : IntKind) (n : Int)
  | str (s : List UInt8)
  | nilI
  | nilP
  | iface (t : TypeId) (v : PV)
  | agg (cs : List PV)
  | tup (vs : List PV)
  | sl (es : List PV)
  | pp (e : PV) (off : Nat)
  | fn (f : FuncId) (caps : List PV)
  deriving Inhabited

def PV.cells : PV → List PV
  | .agg cs => cs
  | p => [p]
def PV.width (p : PV) : Nat := p.cells.length
def PV.nth (es : List PV) (i : Nat) : PV := es.getD i default
/-- One cell holds it. -/
def PV.one : PV → Bool
  | .agg _ | .tup _ => false
  | _ => true

/-- The value 'v' reads as 'p' in the world 'w', by cells of blocks that are not among the written ones ('M'). -/
inductive PVRel (w : World) (M : Nat → Prop) : PV → Value → Prop where
  | bool (b : Bool) : PVRel w M (.bool b) (.bool b)
  | int (k : IntKind) (n : Int) : PVRel w M (.int k n) (.int k n)
  | str (s : List UInt8) : PVRel w M (.str s) (.string ⟨s.toArray⟩)
  | nilI : PVRel w M .nilI .nilIface
  | nilP : PVRel w M .nilP (.pointer none)
  | iface (t : TypeId) (p : PV) (v : Value) : PVRel w M p v → PVRel w M (.iface t p) (.iface t v)
  | agg (cs : List PV) (vs : Array Value) : vs.size = cs.length → (∀ c, c ∈ cs → c.one = true) → (∀ i c, cs[i]? = some c → PVRel w M c (vs.getD i undef)) → PVRel w M (.agg cs) (.agg vs)
  | tup (cs : List PV) (vs : Array Value) : vs.size = cs.length → (∀ i c, cs[i]? = some c → PVRel w M c (vs.getD i undef)) → PVRel w M (.tup cs) (.tuple vs)
  | sl (es : List PV) (a : Option Addr) (cap k b o : Nat) (val : Nat → Nat → Value) : es.length ≤ cap → cap ≤ maxLen → (∀ e, e ∈ es → e.width = k) →
      (es ≠ [] → a = some ⟨b, o, none⟩) →
      (∀ i e j c, es[i]? = some e → e.cells[j]? = some c → ¬ M b ∧ c.one = true ∧ w.cell? ⟨b, o + i * k + j, none⟩ = some (val i j)) →
      (∀ i e j c, es[i]? = some e → e.cells[j]? = some c → PVRel w M c (val i j)) →
      PVRel w M (.sl es) (.slice a es.length cap)
  | pp (e : PV) (off b o : Nat) (val : Nat → Value) :
      (∀ j c, e.cells[j]? = some c → ¬ M b ∧ c.one = true ∧ w.cell? ⟨b, o + j, none⟩ = some (val j)) →
      (∀ j c, e.cells[j]? = some c → PVRel w M c (val j)) →
      PVRel w M (.pp e off) (.pointer (some ⟨b, o + off, none⟩))
  | fn (f : FuncId) (caps : List PV) (vs : Array Value) : vs.size = caps.length → (∀ i c, caps[i]? = some c → PVRel w M c (vs.getD i undef)) → PVRel w M (.fn f caps) (.func (.func f) #[] vs)

theorem block_lt_of_cell {w : World} {a : Addr} {v : Value} (h : w.cell? a = some v) : a.block < w.heap.size := by
  unfold World.cell? at h
  split at h
  · rename_i h'
    exact (Array.getElem?_eq_some_iff.1 h').1
  · cases h

/-- What was read stays read: the blocks that are not written are as they were, and are not written hereafter. -/
def Keeps (w : World) (M : Nat → Prop) (w' : World) (M' : Nat → Prop) : Prop :=
  ∀ b, b < w.heap.size → ¬ M b → w'.heap[b]? = w.heap[b]? ∧ ¬ M' b

theorem Keeps.cell {w w' : World} {M M' : Nat → Prop} (hk : Keeps w M w' M') {a : Addr} {v : Value} (hm : ¬ M a.block) (h : w.cell? a = some v) : ¬ M' a.block ∧ w'.cell? a = some v := by
  have hb := hk a.block (block_lt_of_cell h) hm
  refine ⟨hb.2, ?_⟩
  unfold World.cell? at *
  rw [hb.1]; exact h

theorem PVRel.keep {w w' : World} {M M' : Nat → Prop} {p : PV} {v : Value} (h : PVRel w M p v) (hk : Keeps w M w' M') : PVRel w' M' p v := by
  induction h with
  | bool b => exact .bool b
  | int k n => exact .int k n
  | str s => exact .str s
  | nilI => exact .nilI
  | nilP => exact .nilP
  | iface t p v _ ih => exact .iface t p v ih
  | agg cs vs hs ho _ ih => exact .agg cs vs hs ho ih
  | tup cs vs hs _ ih => exact .tup cs vs hs ih
  | sl es a cap k b o val h1 h2 h3 h4 h5 _ ih =>
    refine .sl es a cap k b o val h1 h2 h3 h4 (fun i e j c he hc => ?_) ih
    obtain ⟨hm, ho, hcell⟩ := h5 i e j c he hc
    have := hk.cell (a := ⟨b, o + i * k + j, none⟩) hm hcell
    exact ⟨this.1, ho, this.2⟩
  | pp e off b o val h1 _ ih =>
    refine .pp e off b o val (fun j c hc => ?_) ih
    obtain ⟨hm, ho, hcell⟩ := h1 j c hc
    have := hk.cell (a := ⟨b, o + j, none⟩) hm hcell
    exact ⟨this.1, ho, this.2⟩
  | fn f caps vs hs _ ih => exact .fn f caps vs hs ih
end Go.AM
