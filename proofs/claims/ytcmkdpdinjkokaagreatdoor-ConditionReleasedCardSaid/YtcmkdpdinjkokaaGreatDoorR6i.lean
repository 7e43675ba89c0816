/-
  A part of a proof: see the last text of this claim for what is proved.
-/
import Derived.Test.YtcmkdpdinjkokaaGreatDoorRF
import Derived.Test.YtcmkdpdinjkokaaGreatDoorZMa
namespace Go.AM
open Go Go.Proofs Go.IntWalk
set_option maxRecDepth 100000
set_option linter.unusedSimpArgs false
set_option linter.unusedVariables false
def strV (s : List UInt8) : PV := .str s
/-- A small tree. -/
def treeP (l : List PV) : Prop := l.length ≤ 100 ∧ ∀ e, e ∈ l → ∃ c n, e = hV c n ∧ c.length ≤ 100
theorem treeP.isH {l : List PV} (h : treeP l) : ∀ e, e ∈ l → isH e := fun e he => by obtain ⟨c, n, e1, e2⟩ := h.2 e he; exact ⟨c, n, e1, by omega⟩
theorem leavesF_mem {l : List PV} {top : List UInt8} (h : treeP l) : ∀ e, e ∈ leavesF l top → ∃ c, e = .str c ∧ c.length ≤ 100 := by
  intro e he
  unfold leavesF at he
  simp only [List.mem_map, List.mem_filter] at he
  obtain ⟨x, ⟨hx, _⟩, rfl⟩ := he
  obtain ⟨c, n, rfl, hc⟩ := h.2 x hx
  exact ⟨c, rfl, hc⟩
theorem leavesF_len {l : List PV} {top : List UInt8} : (leavesF l top).length ≤ l.length := by
  unfold leavesF
  rw [List.length_map]; exact List.length_filter_le _ _
def preLf (args : List PV) : Prop := ∃ l, args = [.sl l] ∧ treeP l
def okLf (args : List PV) (s : List UInt8) : Prop := s.length ≤ 100 ∧ ∀ l, args = [.sl l] → leavesF l [49] ≠ [] → PV.str s ∈ leavesF l [49] ++ leavesF l [50]
noncomputable def leafS : QSpec := qV Tp preLf strV okLf
theorem w_leafS : QSound GG 44 leafS := by
  unfold leafS
  refine QSound.of_wpcV (C := cxQ Tryz.prog Φ14 Θ3 ΨL [] [9000] 21) 9000 Tryz.func44 rfl rfl rfl (Fit.all (G := GG) hΦ14 hΘ3 hΨL mixed) rfl (fun args h => ?_) (fun args h => ?_)
  · obtain ⟨l, rfl, h1⟩ := h
    by_cases hne : leavesF l [49] = []
    · exact ⟨[], Nat.zero_le _, fun l' e h9 => by simp only [List.cons.injEq, PV.sl.injEq, and_true] at e; subst e; exact absurd hne h9⟩
    · obtain ⟨x, hx⟩ := List.exists_mem_of_ne_nil _ hne
      obtain ⟨c, rfl, hc⟩ := leavesF_mem h1 x hx
      exact ⟨c, hc, fun l' e h9 => by simp only [List.cons.injEq, PV.sl.injEq, and_true] at e; subst e; exact List.mem_append.2 (.inl hx)⟩
  · obtain ⟨l, rfl, h1⟩ := h
    refine ⟨by simp [cxQ], ?_⟩
    refine wpc_sound (T := plan0) _ _ _ ?_
    have hl := h1.1
    have b1 := leavesF_len (l := l) (top := [49])
    have b2 := leavesF_len (l := l) (top := [50])
    simp only [ΨL, psiRow_eq, leavesS, on_ls_eq, all_sl, Θ3, Θ2, Θ1, nS, preN_eq, okN, arg1, List.length_map, Tryz.underlying3, sz3, by3, ze3, Tryz.underlying4, sz4, by4, ze4, Tryz.underlying9, sz9, by9, ze9, Tryz.underlying23, sz23, by23, ze23, Tryz.underlying25, sz25, by25, ze25, Tryz.underlying44, sz44, by44, ze44, Tryz.underlying55, sz55, by55, ze55, fa55_0, fa55_1, Tryz.f44, plan0, go_sem, ↓reduceIte, reduceCtorEq, Nat.reduceEqDiff, Nat.reduceLT, ↓all_qVs, Int.reduceToNat, Int.reduceLT, Int.reduceLE, Nat.reduceAdd, Nat.reduceLeDiff, Nat.reduceMul]
    rw [List.take_length]
    refine ⟨⟨h1.isH, by omega⟩, ⟨h1.isH, by omega⟩, rfl, fun e he => ?_, Nat.le_refl _, by omega, by simp only [maxLen]; omega, fun h0 => ⟨[49], rfl, by decide, fun l' e h9 => ?_⟩, fun h2 => ⟨⟨?_, by omega⟩, fun n hn => ?_⟩⟩
    · obtain ⟨c, rfl, _⟩ := leavesF_mem h1 e he
      rfl
    · simp only [List.cons.injEq, PV.sl.injEq, and_true] at e; subst e
      have h8 := List.length_pos_iff.2 h9
      have : (((leavesF l [49]).length + (leavesF l [50]).length : Nat) : Int) = 0 := by simpa using h0
      omega
    · have : ¬ ((((leavesF l [49]).length + (leavesF l [50]).length : Nat) : Int) = 0) := by simpa using h2
      omega
    obtain ⟨j, rfl⟩ := Int.eq_ofNat_of_zero_le hn.1
    rw [List.take_length]
    have hj : j < (leavesF l [49] ++ leavesF l [50]).length := by rw [List.length_append]; omega
    have hgm := getD_mem hj
    obtain ⟨c, hc, hcl⟩ : ∃ c, (leavesF l [49] ++ leavesF l [50]).getD j default = .str c ∧ c.length ≤ 100 := by
      rcases List.mem_append.1 hgm with h | h
      · exact leavesF_mem h1 _ h
      · exact leavesF_mem h1 _ h
    rw [hc] at hgm
    simp only [Later_eq, intV, hc, List.length_map, Tryz.underlying3, sz3, by3, ze3, Tryz.underlying4, sz4, by4, ze4, Tryz.underlying9, sz9, by9, ze9, Tryz.underlying23, sz23, by23, ze23, Tryz.underlying25, sz25, by25, ze25, Tryz.underlying44, sz44, by44, ze44, Tryz.underlying55, sz55, by55, ze55, fa55_0, fa55_1, plan0, go_sem, ↓reduceIte, reduceCtorEq, Nat.reduceEqDiff, Nat.reduceLT, ↓all_qV, Int.reduceToNat, Int.reduceLT, Int.reduceLE, Nat.reduceAdd, Nat.reduceLeDiff, Nat.reduceMul]
    exact ⟨⟨by omega, by omega⟩, hj, c, rfl, hcl, fun l' e _ => by simp only [List.cons.injEq, PV.sl.injEq, and_true] at e; subst e; exact hgm⟩
noncomputable def Θ4 (g : FuncId) : Option QSpec := putΘ Θ3 44 (qV Tp preLf strV okLf) g
theorem hΘ4 : QTab GG Θ4 := hΘ3.put w_leafS
end Go.AM
