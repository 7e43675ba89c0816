/-
  A part of a proof: see the last text of this claim for what is proved.
-/
import Derived.Test.YtamiheckgglgaaaDoorCMb
import Derived.LaidLaws
import Derived.Shelf.Vars
namespace Go.AM
open Go Go.Proofs
set_option linter.unusedVariables false
def cellE (g : Nat) (w : World) : Prop := ∃ ev, w.cell? ⟨g, 0, none⟩ = some ev ∧ (ev = .nilIface ∨ ∃ te pe, ev = .iface te pe)
def cellI (g : Nat) (w : World) : Prop := ∃ m, w.cell? ⟨g, 0, none⟩ = some (.int .i64 m)
theorem cell_same {w w' : World} {g o : Nat} (h : w'.heap[g]? = w.heap[g]?) : w'.cell? ⟨g, o, none⟩ = w.cell? ⟨g, o, none⟩ := by
  unfold World.cell?
  rw [h]
/-- The error variables of strconv, the table of powers of ten, internal/bytealg.MaxLen. -/
noncomputable def globE (P : Program) (gs gr gm gt nG : Nat) (h : gs < nG ∧ gr < nG ∧ gm < nG ∧ gt < nG) (ht : P.globalNamed "internal/strconv.uint64pow10" = some gt) : Glob where
  P := P
  nG := nG
  I := fun w => (cellE gs w ∧ cellE gr w) ∧ cellI gm w ∧ Lib.TabIs P w "internal/strconv.uint64pow10" .u64 Lib.pow10Tab
  stable := fun w w' ⟨⟨h1, h2⟩, h3, h4⟩ hb hs => by
    refine ⟨⟨?_, ?_⟩, ?_, ?_⟩
    · obtain ⟨e, a, b⟩ := h1
      exact ⟨e, (cell_same (hb gs h.1)).trans a, b⟩
    · obtain ⟨e, a, b⟩ := h2
      exact ⟨e, (cell_same (hb gr h.2.1)).trans a, b⟩
    · obtain ⟨m, a⟩ := h3
      exact ⟨m, (cell_same (hb gm h.2.2.1)).trans a⟩
    · unfold Lib.TabIs World.var? at h4 ⊢
      rw [ht] at h4 ⊢
      simp only [Option.bind_some] at h4 ⊢
      rw [hb gt h.2.2.2]
      exact h4
theorem globE_size {P : Program} {gs gr gm gt nG : Nat} {h : gs < nG ∧ gr < nG ∧ gm < nG ∧ gt < nG} {ht : P.globalNamed "internal/strconv.uint64pow10" = some gt} {w : World} (hI : (globE P gs gr gm gt nG h ht).I w) :
    gs < w.heap.size ∧ gr < w.heap.size ∧ gm < w.heap.size ∧ gt < w.heap.size := by
  obtain ⟨⟨⟨_, a, _⟩, _, b, _⟩, ⟨_, c⟩, d⟩ := hI
  refine ⟨block_lt_of_cell a, block_lt_of_cell b, block_lt_of_cell c, ?_⟩
  unfold Lib.TabIs World.var? at d
  rw [ht] at d
  simp only [Option.bind_some] at d
  rcases Nat.lt_or_ge gt w.heap.size with h' | h'
  · exact h'
  · rw [Array.getElem?_eq_none h'] at d
    simp at d
/-! ### Out of what a row lists -/
theorem laid_at {P : Program} {w : World} {n : String} {d : DataW Unit} : ∀ {laid : List (String × DataW Unit)} {ps : List MemPlace}, DataW.LaidVars P w laid ps → (n, d) ∈ laid →
    ∃ g t cs fuel p, P.globalNamed n = some g ∧ (P.globals[g]?).map (·.type) = some t ∧ w.var? P n = some cs ∧ DataW.trod (fun _ => ()) P w 0 (fun _ => true) false fuel t cs.toList = some (d, p)
  | [], _, _, hm => by cases hm
  | (n', d') :: r, ps, h, hm => by
    obtain ⟨g, t, cs, fuel, p, q, h1, h2, h3, h4, h5, _⟩ := h
    rcases List.mem_cons.1 hm with e | hm
    · cases e
      exact ⟨g, t, cs, fuel, p, h1, h2, h3, h4⟩
    · exact laid_at h5 hm
theorem laid_iface {P : Program} {w : World} {laid : List (String × DataW Unit)} {n nm : String} {d : DataW Unit} {g : Nat} {t : TypeId} {ms : Array (String × TypeId)} (hL : laidMet P laid w) (hm : (n, .iface nm d) ∈ laid)
    (hg : P.globalNamed n = some g) (hty : (P.globals[g]?).map (·.type) = some t) (ht : P.underlying t = some (.interface ms)) : cellE g w := by
  obtain ⟨ps, hv, _⟩ := hL
  obtain ⟨g', t', cs, fuel, p, h1, h2, h3, h4⟩ := laid_at hv hm
  obtain rfl := Option.some.inj (hg.symm.trans h1)
  obtain rfl := Option.some.inj (hty.symm.trans h2)
  obtain ⟨_, u, v, hc, _⟩ := iface_of_trod ht h4
  refine ⟨.iface u v, ?_, .inr ⟨u, v, rfl⟩⟩
  have := World.var?_cell hg h3 0
  rw [this]
  rw [← Array.getElem?_toList, hc]
  rfl
theorem laid_tab {P : Program} {w : World} {laid : List (String × DataW Unit)} {n : String} {k : IntKind} {zs : List Int} {g m : Nat} {t e : TypeId} (hL : laidMet P laid w) (hm : (n, Lib.tabData k zs) ∈ laid)
    (hg : P.globalNamed n = some g) (hty : (P.globals[g]?).map (·.type) = some t) (ht : P.underlying t = some (.array m e)) (he : P.underlying e = some (.int k)) (hce : P.cellsOf e = 1) (hct : P.cellsOf t = m) : Lib.TabIs P w n k zs := by
  obtain ⟨ps, hv, _⟩ := hL
  obtain ⟨g', t', cs, fuel, p, h1, h2, h3, h4⟩ := laid_at hv hm
  obtain rfl := Option.some.inj (hg.symm.trans h1)
  obtain rfl := Option.some.inj (hty.symm.trans h2)
  unfold Lib.TabIs
  rw [h3, ← Lib.cells_of_tab ht he hce hct h4]
end Go.AM
