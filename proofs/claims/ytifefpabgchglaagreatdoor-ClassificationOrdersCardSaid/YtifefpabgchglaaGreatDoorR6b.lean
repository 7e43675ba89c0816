/-
  A part of a proof: see the last text of this claim for what is proved.
-/
import Derived.Test.YtifefpabgchglaaGreatDoorR6a
namespace Go.AM
open Go Go.Proofs Go.IntWalk
set_option maxRecDepth 100000
set_option linter.unusedSimpArgs false
set_option linter.unusedVariables false
theorem drop_getD {s : List UInt8} {i : Nat} (h : i < s.length) : s.drop i = s.getD i 0 :: s.drop (i + 1) := by
  rw [List.drop_eq_getElem_cons h]; simp [List.getD_eq_getElem?_getD, h]
def goodF : Int → Int → List UInt8 → Bool
  | d, g, [] => decide (0 < d) && decide (g ≤ 4)
  | d, g, c :: r => bif ((c.toNat : Int) == 46) then (bif d == 0 then false else goodF 0 (g + 1) r) else
      bif (decide ((c.toNat : Int) < 48) || decide (57 < (c.toNat : Int)) || d == 0 && (c.toNat : Int) == 48 || d == 2) then false else goodF (d + 1) g r
noncomputable def goodS : PSpec := on_s (fun s => s.length ≤ 4611686018427387904) (fun s => .bool (goodF 0 1 s))
noncomputable def Φ1 (g : FuncId) : PSpec := Φ0 g
theorem hΦ1 : TabSound GG Φ1 := hΦ0
def on_ss (p : List UInt8 → List UInt8 → Prop) (f : List UInt8 → List UInt8 → PV) : PSpec
  | [.str a0, .str a1] => (p a0 a1, f a0 a1)
  | _ => (False, default)
theorem on_ss_eq {p : List UInt8 → List UInt8 → Prop} {f : List UInt8 → List UInt8 → PV} {a0 : List UInt8} {a1 : List UInt8} : on_ss p f [.str a0, .str a1] = (p a0 a1, f a0 a1) := rfl
theorem on_ss_inv {p : List UInt8 → List UInt8 → Prop} {f : List UInt8 → List UInt8 → PV} {args : List PV} (h : (on_ss p f args).1) : ∃ a0 : List UInt8, ∃ a1 : List UInt8, args = [.str a0, .str a1] ∧ p a0 a1 := by
  unfold on_ss at h
  split at h
  · exact ⟨_, _, rfl, h⟩
  · exact h.elim
def gd (s : List UInt8) : Bool := goodF 0 1 s
def undF (a b : List UInt8) : Bool := bif (!gd a || !gd b || decide ((a.length : Int) < b.length) || !(a.take b.length == b)) then false else ((a.length : Int) == b.length || ((a.getD b.length 0).toNat : Int) == 46)
noncomputable def underS : PSpec := on_ss (fun a b => a.length ≤ 4611686018427387904 ∧ b.length ≤ 4611686018427387904) (fun a b => .bool (undF a b))
def dotF (s : List UInt8) : Nat → List UInt8
  | 0 => []
  | k + 1 => bif ((s.getD k 0).toNat : Int) == 46 then s.take k else dotF s k
def parF (s : List UInt8) : List UInt8 := bif gd s then dotF s s.length else []
noncomputable def parentS : PSpec := on_s (fun s => s.length ≤ 4611686018427387904) (fun s => .str (parF s))
noncomputable def Φ2 (g : FuncId) : PSpec := Φ1 g
theorem hΦ2 : TabSound GG Φ2 := hΦ1
end Go.AM
