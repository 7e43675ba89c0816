/-
  A part of a proof: see the last text of this claim for what is proved.
-/
import Derived.Test.YtifefpabgchglaaGreatDoorR6h
namespace Go.AM
open Go Go.Proofs Go.IntWalk
set_option maxRecDepth 100000
set_option linter.unusedSimpArgs false
set_option linter.unusedVariables false
def strV (s : List UInt8) : PV := .str s
/-- A small tree. -/
def treeP (l : List PV) : Prop := l.length ≤ 100 ∧ ∀ e, e ∈ l → ∃ c n, e = hV c n ∧ c.length ≤ 100
theorem treeP.isH {l : List PV} (h : treeP l) : ∀ e, e ∈ l → isH e := fun e he => by obtain ⟨c, n, e1, e2⟩ := h.2 e he; exact ⟨c, n, e1, by omega⟩
theorem leavesF_mem {l : List PV} {top : List UInt8} (h : treeP l) : ∀ e, e ∈ leavesF l top → ∃ c, e = .str c ∧ c.length ≤ 100 := by
  intro e he
  unfold leavesF at he
  simp only [List.mem_map, List.mem_filter] at he
  obtain ⟨x, ⟨hx, _⟩, rfl⟩ := he
  obtain ⟨c, n, rfl, hc⟩ := h.2 x hx
  exact ⟨c, rfl, hc⟩
theorem leavesF_len {l : List PV} {top : List UInt8} : (leavesF l top).length ≤ l.length := by
  unfold leavesF
  rw [List.length_map]; exact List.length_filter_le _ _
def preLf (args : List PV) : Prop := ∃ l, args = [.sl l] ∧ treeP l
def okLf (_ : List PV) (s : List UInt8) : Prop := s.length ≤ 100
noncomputable def leafS : QSpec := qV Tp preLf strV okLf
noncomputable def Θ4 (g : FuncId) : Option QSpec := Θ3 g
theorem hΘ4 : QTab GG Θ4 := hΘ3
end Go.AM
