/-
  A part of a proof: see the last text of this claim for what is proved.
-/
import Derived.Test.YtjeolgjiakpenaaDoorAMl
import Derived.Laws.AppendOwn
namespace Go.AM
open Go
set_option linter.unusedSimpArgs false
set_option linter.unusedVariables false

section
variable {w : World} {P : Program}

theorem run_drew_loads {w : World} (x : Value) (k n : Nat) (cells : Array Value) (h : (Builtin.firstCells k n x).run P w = .ok cells w) : (Builtin.firstCells k n x).run P w.drew = .ok cells w.drew := by
  have gen : ∀ (a : Addr) (n i : Nat) (acc : Array Value) (r : Array Value), (loadCellsFrom a i n acc).run P w = .ok r w → (loadCellsFrom a i n acc).run P w.drew = .ok r w.drew := by
    intro a n
    induction n with
    | zero =>
      intro i acc r h
      simp only [loadCellsFrom, Sem.run_pure, Result.ok.injEq] at h ⊢
      exact ⟨h.1, trivial⟩
    | succ n ih =>
      intro i acc r h
      simp only [loadCellsFrom, Sem.run_bind, run_load] at h ⊢
      have hc : w.drew.cell? (a.add i) = w.cell? (a.add i) := rfl
      have hfl : w.drew.farLoad P (a.add i) (Mode.plain == Mode.atomic) = w.farLoad P (a.add i) (Mode.plain == Mode.atomic) := rfl
      rw [hc, hfl]
      split at h
      · simp only [Result.andThen_ok] at h ⊢
        exact ih _ _ _ h
      · split at h
        · simp only [Result.andThen_ok] at h ⊢
          exact ih _ _ _ h
        · simp at h
  unfold Builtin.firstCells at h ⊢
  split at h
  · exact gen _ _ _ _ _ h
  · simp only [Sem.run_pure, Result.ok.injEq] at h ⊢; exact ⟨h.1, trivial⟩
  · simp only [Sem.run_pure, Result.ok.injEq] at h ⊢; exact ⟨h.1, trivial⟩
  · simp at h

/-- append, three ways: nothing comes to nil; there is room; a new row. -/
theorem run_append_any {t tx ty e : TypeId} {i : TypeInfo} {z : Value} (ht : P.underlying t = some (.slice e)) (hx : (∃ u, P.underlying tx = some (.slice u)) ∨ P.underlying tx = some .string) (hi : P.info? e = some i) (hz : i.zero = some z)
    {k : Nat} (hk : i.size = k) (hzk : z.cells.size = k) (hk0 : 0 < k) {v x : Value} {hi' cap n : Nat} {cur news : Array Value} {b : Option Nat} {et : TypeId}
    (hv : (v = .slice none 0 0 ∧ hi' = 0 ∧ cap = 0 ∧ b = none) ∨ (∃ g, b = some g ∧ v = .slice (some ⟨g, 0, none⟩) hi' cap ∧ w.heap[g]? = some (.cells cur et (0, 0)) ∧ cur.size = cap * k ∧ hi' ≤ cap ∧ cap ≤ maxLen))
    (hn : (Builtin.lenOf x).run P w = .ok n w) (hf : (Builtin.firstCells k n x).run P w = .ok news w) (hns : news.size = n * k) (h1 : ∀ u, u ∈ news.toList → u.oneCell' = true)
    (h63 : hi' + n ≤ maxLen) (hb : (hi' + n) * i.bytes ≤ 140737488355328) :
    ∃ v' w', (Builtin.append_ #[t, tx] ty #[v, x]).run P w = .ok v' w' ∧
      ((v' = .slice none 0 0 ∧ w' = w ∧ n = 0 ∧ b = none) ∨
       (∃ g, b = some g ∧ hi' + n ≤ cap ∧ v' = .slice (some ⟨g, 0, none⟩) (hi' + n) cap ∧ w' = w.setRow g (cur.toList.take (hi' * k) ++ news.toList ++ cur.toList.drop (hi' * k + news.toList.length)).toArray) ∨
       (∃ cap' arr, v' = .slice (some ⟨w.heap.size, 0, none⟩) (hi' + n) cap' ∧ w' = w.drew.alloc (.cells arr e) ∧ arr.size = cap' * k ∧ hi' + n ≤ cap' ∧ cap' ≤ maxLen ∧
          (∀ j, j < hi' * k → arr.getD j undef = cur.getD j undef) ∧ (∀ j, j < n * k → arr.getD (hi' * k + j) undef = news.getD j undef))) := by
  have hnum : hi' + n ≤ 9223372036854775807 := by simp only [maxLen] at h63; omega
  have h63' : ¬ (9223372036854775807 < ((hi' : Int) + (n : Int))) := by omega
  have hgrow : ∀ old, old < hi' + n → ¬ (281474976710656 < Builtin.nextslicecap (hi' + n) old * i.bytes) := fun old ho => by
    have := growslice_fits ho hb; omega
  have hfd := run_drew_loads (P := P) x k n news hf
  have hsz := run_szOf (P := P) (t := e) (n := k) (by simp [szOf, hi, hk])
  have freshFacts : ∀ (old : Nat) (olds : Array Value), olds.size = hi' * k → old < hi' + n → (∀ j, j < hi' * k → olds.getD j undef = cur.getD j undef) →
      ((olds ++ news ++ Builtin.zeroCells z.cells (grownCap w (hi' + n) old e - (hi' + n))).size = grownCap w (hi' + n) old e * k) ∧ hi' + n ≤ grownCap w (hi' + n) old e ∧ grownCap w (hi' + n) old e ≤ maxLen ∧
      (∀ j, j < hi' * k → (olds ++ news ++ Builtin.zeroCells z.cells (grownCap w (hi' + n) old e - (hi' + n))).getD j undef = cur.getD j undef) ∧
      (∀ j, j < n * k → (olds ++ news ++ Builtin.zeroCells z.cells (grownCap w (hi' + n) old e - (hi' + n))).getD (hi' * k + j) undef = news.getD j undef) := by
    intro old olds hos ho hcur
    have hge := grownCap_ge w (hi' + n) old e
    refine ⟨?_, hge, grownCap_le_maxLen w (hi' + n) old e h63, fun j hj => ?_, fun j hj => ?_⟩
    · simp only [Array.size_append, hos, hns, size_zeroCells, hzk, ← Nat.add_mul]
      congr 1; omega
    · rw [← hcur j hj]
      simp only [Array.getD_eq_getD_getElem?]
      rw [Array.append_assoc, Array.getElem?_append_left (by omega)]
    · simp only [Array.getD_eq_getD_getElem?]
      rw [Array.append_assoc, Array.getElem?_append_right (by omega), Array.getElem?_append_left (by omega)]
      congr 2; omega
  rcases hv with ⟨rfl, rfl, rfl, rfl⟩ | ⟨g, rfl, rfl, hg, hcs, hle, hcm⟩
  · by_cases hn0 : n = 0
    · subst hn0
      refine ⟨.slice none 0 0, w, ?_, .inl ⟨rfl, rfl, rfl, rfl⟩⟩
      rcases hx with ⟨u, hdx⟩ | hdx <;> simp [Builtin.append_, run_underlying ht, run_underlying hdx, hsz, hn, hf]
    · refine ⟨_, _, ?_, .inr (.inr ⟨grownCap w (0 + n) 0 e, #[] ++ news ++ Builtin.zeroCells z.cells (grownCap w (0 + n) 0 e - (0 + n)), rfl, rfl, ?_⟩)⟩
      · have hh := hgrow 0 (by omega)
        simp only [Nat.zero_add, Int.natCast_zero, Int.zero_add] at hh h63'
        rcases hx with ⟨u, hdx⟩ | hdx <;> simp [Builtin.append_, run_underlying ht, run_underlying hdx, hsz, hn, hn0, typeInfo, zeroValue, hi, hz, h63', hh, Question.forced, run_firstCells_none, hfd, newRow, grownCap]
      · exact freshFacts 0 #[] (by simp) (by omega) (fun j hj => by simp at hj)
  · by_cases hroom : hi' + n ≤ cap
    · refine ⟨_, _, ?_, .inr (.inl ⟨g, rfl, hroom, rfl, rfl⟩)⟩
      have hfit : hi' * k + 0 + news.toList.length ≤ cur.size := by
        rw [Array.length_toList, hns, hcs, Nat.add_zero, ← Nat.add_mul]; exact Nat.mul_le_mul_right _ hroom
      have hst := run_storeCells_at P g (hi' * k) et news.toList 0 cur w hg hfit h1
      simp only [Nat.add_zero] at hst
      rcases hx with ⟨u, hdx⟩ | hdx <;> simp [Builtin.append_, run_underlying ht, run_underlying hdx, hsz, hn, hroom, hf, Addr.add_lit, hst]
    · have hlt : cap < hi' + n := by omega
      have holds : (Builtin.firstCells k hi' (.slice (some ⟨g, 0, none⟩) hi' cap)).run P w.drew = .ok (cur.toList.take (hi' * k)).toArray w.drew := by
        refine run_firstCells_some (P := P) w.drew k hi' ⟨g, 0, none⟩ hi' cap (cur.toList.take (hi' * k)) ?_ (fun j u hu => ?_)
        · rw [List.length_take, Array.length_toList, hcs]; exact Nat.min_eq_left (Nat.mul_le_mul_right _ hle)
        · rw [Addr.add_lit, Nat.zero_add]
          show w.cell? _ = _
          rw [cell_of_row w g j cur et _ hg]
          rw [List.getElem?_take] at hu
          split at hu
          · simpa using hu
          · cases hu
      refine ⟨_, _, ?_, .inr (.inr ⟨grownCap w (hi' + n) cap e, (cur.toList.take (hi' * k)).toArray ++ news ++ Builtin.zeroCells z.cells (grownCap w (hi' + n) cap e - (hi' + n)), rfl, rfl, ?_⟩)⟩
      · rcases hx with ⟨u, hdx⟩ | hdx <;> simp [Builtin.append_, run_underlying ht, run_underlying hdx, hsz, hn, hroom, typeInfo, zeroValue, hi, hz, h63', hgrow cap hlt, Question.forced, hfd, holds, newRow, grownCap]
      · refine freshFacts cap _ ?_ hlt (fun j hj => ?_)
        · rw [List.size_toArray, List.length_take, Array.length_toList, hcs]; exact Nat.min_eq_left (Nat.mul_le_mul_right _ hle)
        · rw [getD_toArray, List.getD_eq_getElem?_getD, List.getElem?_take, if_pos hj]
          simp [Array.getD_eq_getD_getElem?]
end
end Go.AM
