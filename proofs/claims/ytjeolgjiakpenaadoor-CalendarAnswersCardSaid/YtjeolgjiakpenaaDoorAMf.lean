/-
  A part of a proof: see the last text of this claim for what is proved.
-/
import Derived.Test.YtjeolgjiakpenaaDoorAMe
namespace Go.AM
open Go
set_option linter.unusedSimpArgs false
set_option linter.unusedVariables false

section
variable {w : World} {M : Nat → Prop} {L : Locs} {H : AHeap} {S : (List PV → Prop × PV) → Value → Prop} {P : Program}

theorem run_szOf {t : TypeId} {n : Nat} (h : szOf P t = some n) (w : World) : (sizeOf t).run P w = .ok n w := by
  unfold szOf at h
  obtain ⟨i, hi, rfl⟩ := Option.map_eq_some_iff.1 h
  simp [sizeOf, typeInfo, hi]
theorem run_isAggD {t : TypeId} {g : Bool} (h : (P.underlying t).map isAggD = some g) (w : World) : (isAgg t).run P w = .ok g w := by
  obtain ⟨d, hd, rfl⟩ := Option.map_eq_some_iff.1 h
  unfold isAgg
  simp only [Sem.run_bind, run_underlying hd, Result.andThen_ok]
  cases d <;> simp [isAggD]

/-- A variable of 'n' cells, loaded. -/
theorem run_loadVar {t : TypeId} {g : Bool} {n b o : Nat} (hg : (P.underlying t).map isAggD = some g) (hn : szOf P t = some n) (h1 : g = false → n = 1) (val : Nat → Value)
    (hc : ∀ j, j < n → w.cell? ⟨b, o + j, none⟩ = some (val j)) :
    (loadVar t ⟨b, o, none⟩).run P w = .ok (if g then .agg ((List.range n).map val).toArray else val 0) w := by
  unfold loadVar
  simp only [Sem.run_bind, run_isAggD hg, Result.andThen_ok]
  cases g with
  | true =>
    have := run_loadCells (P := P) w ⟨b, o, none⟩ n val (fun j hj => by rw [Addr.add_lit]; exact hc j hj)
    simp only [if_true, Sem.run_bind, run_szOf hn, Result.andThen_ok, this, Sem.run_pure]
  | false =>
    have hn1 := h1 rfl
    subst hn1
    have := hc 0 (by omega)
    simp only [Nat.add_zero] at this
    simp only [Bool.false_eq_true, if_false, run_load, this]

theorem getD_range (n : Nat) (val : Nat → Value) (j : Nat) (hj : j < n) : (((List.range n).map val).toArray).getD j undef = val j := by
  simp [Array.getD_eq_getD_getElem?, hj]

/-- Plain cells, loaded as a variable of type t. -/
theorem load_pure {t : TypeId} {e : PV} {off b o : Nat} (val : Nat → Value) (hp : (partP P t e off).1)
    (h1 : ∀ j c, e.cells[j]? = some c → c.one = true ∧ w.cell? ⟨b, o + j, none⟩ = some (val j)) (h2 : ∀ j c, e.cells[j]? = some c → PVRel w M c (val j)) :
    ∃ v, (loadVar t ⟨b, o + off, none⟩).run P w = .ok v w ∧ AVRel w M L H S (partP P t e off).2 v := by
  unfold partP at hp ⊢
  split at hp
  · rename_i g n hg hn
    obtain ⟨hlen, hone⟩ := hp
    refine ⟨_, run_loadVar hg hn hone (fun j => val (off + j)) (fun j hj => ?_), ?_⟩
    · have hlt : off + j < e.cells.length := by omega
      have := (h1 (off + j) _ (List.getElem?_eq_getElem hlt)).2
      rw [Nat.add_assoc]; exact this
    · refine .pv _ _ ?_
      unfold partL
      cases g with
      | true =>
        simp only [if_true]
        refine .agg _ _ (by simp; omega) (fun c hc => ?_) (fun i c hc => ?_)
        · obtain ⟨i, hi⟩ := List.mem_iff_getElem?.1 hc
          rw [List.getElem?_take] at hi
          split at hi
          · rw [List.getElem?_drop] at hi; exact (h1 _ _ hi).1
          · cases hi
        · rw [List.getElem?_take] at hc
          split at hc
          · rename_i hlt
            rw [List.getElem?_drop] at hc
            rw [getD_range n _ i hlt]
            exact h2 _ _ hc
          · cases hc
      | false =>
        have := hone rfl
        subst this
        simp only [Bool.false_eq_true, if_false, Nat.add_zero]
        have hlt : off < e.cells.length := by omega
        have hh := List.getElem?_eq_getElem hlt
        have he : e.cells.getD off default = e.cells[off] := by simp [List.getD_eq_getElem?_getD, hh]
        rw [he]
        exact h2 _ _ hh
  · exact hp.elim

/-- The cells of a block of the call's own, loaded as a variable of type t. -/
theorem load_own {t : TypeId} {cs : List AV} {off b : Nat} {arr : Array Value} {et : TypeId} (hp : (partC P t cs off).1)
    (hb : w.heap[b]? = some (.cells arr et (0, 0))) (hs : arr.size = cs.length) (hr : ∀ j c, cs[j]? = some c → AVRel w M L H S c (arr.getD j undef)) :
    ∃ v, (loadVar t ⟨b, off, none⟩).run P w = .ok v w ∧ AVRel w M L H S (partC P t cs off).2 v := by
  unfold partC at hp ⊢
  split at hp
  · rename_i g n hg hn
    obtain ⟨hlen, hone⟩ := hp
    refine ⟨_, run_loadVar hg hn hone (fun j => arr.getD (off + j) undef) (fun j hj => ?_), ?_⟩
    · rw [cell_of_row w b (off + j) arr et _ hb]
      have hlt : off + j < arr.size := by omega
      simp [Array.getD_eq_getD_getElem?, Array.getElem?_eq_getElem hlt]
    · unfold partA
      cases g with
      | true =>
        simp only [if_true]
        refine .agg _ _ (by simp; omega) (fun i c hc => ?_)
        rw [List.getElem?_take] at hc
        split at hc
        · rename_i hlt
          rw [List.getElem?_drop] at hc
          rw [getD_range n _ i hlt]
          exact hr _ _ hc
        · cases hc
      | false =>
        have := hone rfl
        subst this
        simp only [Bool.false_eq_true, if_false, Nat.add_zero]
        have hlt : off < cs.length := by omega
        have hh := List.getElem?_eq_getElem hlt
        have he : cs.getD off .top = cs[off] := by simp [List.getD_eq_getElem?_getD, hh]
        rw [he]
        exact hr _ _ hh
  · exact hp.elim

/-- A part of a value that is an aggregate. -/
theorem run_part {t : TypeId} {g : Bool} {n off : Nat} {vs : Array Value} (hg : (P.underlying t).map isAggD = some g) (hn : szOf P t = some n) (h1 : g = false → n = 1) (hl : off + n ≤ vs.size) :
    (part t vs off).run P w = .ok (if g then .agg (vs.extract off (off + n)) else vs.getD off undef) w := by
  unfold part
  simp only [Sem.run_bind, run_isAggD hg, Result.andThen_ok]
  cases g with
  | true => simp only [if_true, Sem.run_bind, run_szOf hn, Result.andThen_ok, Sem.run_pure]
  | false =>
    have := h1 rfl
    subst this
    have hlt : off < vs.size := by omega
    simp [Array.getD_eq_getD_getElem?, Array.getElem?_eq_getElem hlt]
theorem getD_extract (vs : Array Value) (off n i : Nat) (hi : i < n) : (vs.extract off (off + n)).getD i undef = vs.getD (off + i) undef := by
  simp only [Array.getD_eq_getD_getElem?, Array.getElem?_extract]
  split
  · rfl
  · rename_i h
    have : vs.size ≤ off + i := by omega
    simp [Array.getElem?_eq_none this]
theorem part_pure {t : TypeId} {cs : List PV} {off : Nat} {vs : Array Value} (hp : (partP P t (.agg cs) off).1) (hs : vs.size = cs.length) (ho : ∀ c, c ∈ cs → c.one = true)
    (hr : ∀ i c, cs[i]? = some c → PVRel w M c (vs.getD i undef)) :
    ∃ v, (part t vs off).run P w = .ok v w ∧ AVRel w M L H S (partP P t (.agg cs) off).2 v := by
  unfold partP at hp ⊢
  split at hp
  · rename_i g n hg hn
    obtain ⟨hlen, hone⟩ := hp
    simp only [PV.cells] at hlen ⊢
    refine ⟨_, run_part hg hn hone (by omega), .pv _ _ ?_⟩
    unfold partL
    cases g with
    | true =>
      simp only [if_true]
      refine .agg _ _ (by simp; omega) (fun c hc => ho c (List.mem_of_mem_drop (List.mem_of_mem_take hc))) (fun i c hc => ?_)
      rw [List.getElem?_take] at hc
      split at hc
      · rename_i hlt
        rw [List.getElem?_drop] at hc
        rw [getD_extract vs off n i hlt]
        exact hr _ _ hc
      · cases hc
    | false =>
      have := hone rfl
      subst this
      simp only [Bool.false_eq_true, if_false]
      have hlt : off < cs.length := by omega
      have hh := List.getElem?_eq_getElem hlt
      have he : cs.getD off default = cs[off] := by simp [List.getD_eq_getElem?_getD, hh]
      rw [he]
      exact hr _ _ hh
  · exact hp.elim
theorem part_own {t : TypeId} {cs : List AV} {off : Nat} {vs : Array Value} (hp : (partC P t cs off).1) (hs : vs.size = cs.length)
    (hr : ∀ i c, cs[i]? = some c → AVRel w M L H S c (vs.getD i undef)) :
    ∃ v, (part t vs off).run P w = .ok v w ∧ AVRel w M L H S (partC P t cs off).2 v := by
  unfold partC at hp ⊢
  split at hp
  · rename_i g n hg hn
    obtain ⟨hlen, hone⟩ := hp
    refine ⟨_, run_part hg hn hone (by omega), ?_⟩
    unfold partA
    cases g with
    | true =>
      simp only [if_true]
      refine .agg _ _ (by simp; omega) (fun i c hc => ?_)
      rw [List.getElem?_take] at hc
      split at hc
      · rename_i hlt
        rw [List.getElem?_drop] at hc
        rw [getD_extract vs off n i hlt]
        exact hr _ _ hc
      · cases hc
    | false =>
      have := hone rfl
      subst this
      simp only [Bool.false_eq_true, if_false]
      have hlt : off < cs.length := by omega
      have hh := List.getElem?_eq_getElem hlt
      have he : cs.getD off .top = cs[off] := by simp [List.getD_eq_getElem?_getD, hh]
      rw [he]
      exact hr _ _ hh
  · exact hp.elim
end
end Go.AM
