/-
  A part of a proof: see the last text of this claim for what is proved.
-/
import Derived.Test.YthdlbokgbkejnaaGreatDoorDM
import Derived.Test.YthdlbokgbkejnaaGreatDoorCD
import Derived.Shelf.Strings.OnBuilder
namespace Go.AM
open Go Go.Proofs Go.Shelf
set_option linter.unusedVariables false
set_option linter.unusedSimpArgs false
def strOf : PV → List UInt8
  | .str s => s
  | _ => []
def joinQ : PSpec
  | [.sl es, .str sep] => ((∃ l : List (List UInt8), es = l.map PV.str) ∧ es.length ≤ 140737488355328 ∧ (Lib.join (es.map strOf) sep).length ≤ 140737488355328, .str (Lib.join (es.map strOf) sep))
  | _ => (False, default)
theorem joinQ_eq {es : List PV} {sep : List UInt8} : joinQ [.sl es, .str sep] = ((∃ l : List (List UInt8), es = l.map PV.str) ∧ es.length ≤ 140737488355328 ∧ (Lib.join (es.map strOf) sep).length ≤ 140737488355328, .str (Lib.join (es.map strOf) sep)) := rfl
theorem map_strOf (l : List (List UInt8)) : (l.map PV.str).map strOf = l := by simp [List.map_map, Function.comp_def, strOf]
theorem join_sound {G : Glob} {ρ : Ren} (L : Lays.n156 G.P ρ) (X9 : Builder.Extra G.P ρ) (hE : Enterable G.P (ρ.f 156)) : PSound G (ρ.f 156) joinQ := by
  refine PSound.of_shelf hE fun args ha X w vs hi hg hx har => ?_
  unfold joinQ at ha ⊢
  split at ha
  · rename_i es sep
    obtain ⟨⟨l, rfl⟩, h1, h2⟩ := ha
    rw [map_strOf] at h2 ⊢
    obtain ⟨v, u, rfl, hv, hu⟩ := arel2 har
    obtain rfl := rel_str hu
    cases hv with
    | sl es a cap k b o val c1 c2 c3 c4 c5 c6 =>
      simp only [List.length_map] at c1 h1 ⊢
      cases l with
      | nil =>
        refine (Any.strings_Join_none L X9 a cap ⟨sep.toArray⟩ w).mono ?_
        rintro e w' ⟨rfl, rfl⟩
        exact ⟨_, rfl, .str _, .refl _ _⟩
      | cons x r =>
        obtain rfl := c4 (by simp)
        have hk : k = 1 := (c3 (.str x) (by simp)).symm
        subst hk
        have hcells : ∀ (j : Nat) y, ((x :: r).map fun s => (⟨s.toArray⟩ : ByteArray))[j]? = some y → w.cell? ⟨b, o + j, none⟩ = some (.string y) := by
          intro j y hj
          rw [List.getElem?_map] at hj
          obtain ⟨s, hs, rfl⟩ := Option.map_eq_some_iff.1 hj
          have e1 : ((x :: r).map PV.str)[j]? = some (.str s) := by rw [List.getElem?_map, hs]; rfl
          have q1 := c5 j (.str s) 0 (.str s) e1 rfl
          have q2 := rel_str (c6 j (.str s) 0 (.str s) e1 rfl)
          have q3 := q1.2.2
          rw [q2] at q3
          simpa using q3
        have hb : b < w.heap.size := block_lt_of_cell (hcells 0 ⟨x.toArray⟩ rfl)
        have hm : ((x :: r).map fun s => (⟨s.toArray⟩ : ByteArray)).map (·.data.toList) = x :: r := by
          simp [List.map_map, Function.comp_def]
        have hsep : (⟨sep.toArray⟩ : ByteArray).data.toList = sep := by simp
        have := Any.strings_Join L X9 b o cap ((x :: r).map fun s => (⟨s.toArray⟩ : ByteArray)) ⟨sep.toArray⟩ w hcells hb (by simpa using h1) (by simpa using c1) (by rw [hm, hsep]; exact h2)
        rw [hm, hsep] at this
        have hlen : ((x :: r).map fun s => (⟨s.toArray⟩ : ByteArray)).length = (x :: r).length := by simp
        rw [hlen] at this
        refine this.mono ?_
        rintro e w' ⟨rfl, hw⟩
        exact ⟨_, rfl, .str _, hw⟩
  · exact ha.elim
end Go.AM
