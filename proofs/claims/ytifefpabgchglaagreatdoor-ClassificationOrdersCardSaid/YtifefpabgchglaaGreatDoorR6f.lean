/-
  A part of a proof: see the last text of this claim for what is proved.
-/
import Derived.Test.YtifefpabgchglaaGreatDoorR6e
namespace Go.AM
open Go Go.Proofs Go.IntWalk
set_option maxRecDepth 100000
set_option linter.unusedSimpArgs false
set_option linter.unusedVariables false
def on_ls (p : List PV → List UInt8 → Prop) (f : List PV → List UInt8 → PV) : PSpec
  | [.sl a0, .str a1] => (p a0 a1, f a0 a1)
  | _ => (False, default)
theorem on_ls_eq {p : List PV → List UInt8 → Prop} {f : List PV → List UInt8 → PV} {a0 : List PV} {a1 : List UInt8} : on_ls p f [.sl a0, .str a1] = (p a0 a1, f a0 a1) := rfl
theorem on_ls_inv {p : List PV → List UInt8 → Prop} {f : List PV → List UInt8 → PV} {args : List PV} (h : (on_ls p f args).1) : ∃ a0 : List PV, ∃ a1 : List UInt8, args = [.sl a0, .str a1] ∧ p a0 a1 := by
  unfold on_ls at h
  split at h
  · exact ⟨_, _, rfl, h⟩
  · exact h.elim
def hV (c n : List UInt8) : PV := .agg [.str c, .str n]
def hCode : PV → List UInt8
  | .agg [.str c, _] => c
  | _ => []
def isH (e : PV) : Prop := ∃ c n, e = hV c n ∧ c.length ≤ 1000000000000
def chl (c : List UInt8) (l : List PV) : Bool := l.all (fun x => !(parF (hCode x) == c))
def leafF (l : List PV) (top : List UInt8) (h : PV) : Bool := gd (hCode h) && (top == [] || undF (hCode h) top) && chl (hCode h) l
def leavesF (l : List PV) (top : List UInt8) : List PV := (l.filter (leafF l top)).map (fun h => .str (hCode h))
noncomputable def Φ12 (g : FuncId) : PSpec := putΦ Φ11 19 codeS g
theorem hΦ12 : TabSound GG Φ12 := hΦ11.put w_codeS
noncomputable def leavesS : PSpec := on_ls (fun l top => (∀ e, e ∈ l → isH e) ∧ l.length ≤ 1000000000000 ∧ top.length ≤ 1000000000000) (fun l top => .sl (leavesF l top))
theorem getD_mem {l : List PV} {i : Nat} (h : i < l.length) : l.getD i default ∈ l := by
  rw [List.getD_eq_getElem?_getD, List.getElem?_eq_getElem h]; exact List.getElem_mem _
theorem take_succ_getD {l : List PV} {i : Nat} (h : i < l.length) : l.take (i + 1) = l.take i ++ [l.getD i default] := by
  rw [List.take_add_one, List.getD_eq_getElem?_getD, List.getElem?_eq_getElem h]; rfl
end Go.AM
