/-
  A part of a proof: see the last text of this claim for what is proved.
-/
import Derived.Test.YtamiheckgglgaaaDoorCMc
import Derived.ChangeSlices
import Derived.OpenShut
import Derived.Carry
import Derived.WideKeyArgs
namespace Go.AM
open Go Go.Proofs
set_option linter.unusedVariables false
theorem textB_data' (b : ByteArray) : (⟨b.data.toList.toArray⟩ : ByteArray) = b := by cases b; simp
theorem len_data {b : ByteArray} (h : b.size ≤ maxLen) : b.data.toList.length ≤ 9223372036854775807 := by
  have e : b.data.toList.length = b.size := Array.length_toList
  unfold maxLen at h; omega
theorem Ext.below {W W' : World} (h : Ext NoB W W') : RowKit.Below W.heap.size W W' := ⟨h.os, h.tape, h.output, h.size, fun k hk => h.block k hk id⟩
/-- A slice of ints that came in, as plain data. -/
theorem ints_arg {H : Type} {enc : TypeId × Value → H} {P : Program} {W : World} {t e : TypeId} (ht : P.underlying t = some (.slice e)) (he : P.underlying e = some (.int .i64)) (hc : P.cellsOf e = 1)
    {a0 : Option Addr} {len cap : Nat} {d : DataW H} {p : List MemPlace} (h : DataW.Trod enc P W 0 (fun _ => true) true t (.slice a0 len cap) d p) :
    ∃ es : List PV, PVRel W NoB (.sl es) (.slice a0 len cap) ∧ es.length ≤ 9223372036854775807 ∧ ∀ x, x ∈ es → ∃ n, x = .int .i64 n ∧ -9223372036854775808 ≤ n ∧ n ≤ 9223372036854775807 := by
  obtain ⟨fuel, hf⟩ := h
  rcases ChangeShapes.open_ints ht he hc hf with ⟨hcs, hx⟩ | ⟨a, len', cap', zs, hcs, _, hl, hm, hz, hx, hcell, hwz⟩
  · simp [Value.cells] at hcs
    obtain ⟨rfl, rfl, rfl⟩ := hcs
    exact ⟨[], .sl [] none 0 0 0 0 (fun _ _ => undef) (by simp) (by simp [maxLen]) (by simp) (by simp) (by simp) (by simp), by simp, by simp⟩
  · simp [Value.cells] at hcs
    obtain ⟨rfl, rfl, rfl⟩ := hcs
    simp only [if_true] at hz
    have hlen : ((zs.take len).map (PV.int .i64)).length = len := by simp; omega
    have hml : len ≤ 9223372036854775807 := by simp only [maxLen] at hm; omega
    refine ⟨(zs.take len).map (PV.int .i64), ?_, by rw [hlen]; exact hml, ?_⟩
    · by_cases h0 : len = 0
      · subst h0
        simp only [List.take_zero, List.map_nil]
        exact .sl [] (some a) cap 0 0 0 (fun _ _ => undef) (by simp) hm (by simp) (by simp) (by simp) (by simp)
      · obtain ⟨b, off, rfl, hat⟩ := ints_at hcell (by omega)
        have := PVRel.sl (w := W) (M := NoB) ((zs.take len).map (PV.int .i64)) (some ⟨b, off, none⟩) cap 1 b off (fun i _ => .int .i64 (zs.getD i 0)) (by rw [hlen]; exact hl) hm
          (fun x hx => by simp only [List.mem_map] at hx; obtain ⟨y, _, rfl⟩ := hx; rfl) (fun _ => rfl) ?_ ?_
        · rw [hlen] at this; exact this
        all_goals
          intro i x j c hx hcc
          simp only [List.getElem?_map, Option.map_eq_some_iff] at hx
          obtain ⟨y, hy, rfl⟩ := hx
          have hj : j = 0 := by
            simp only [PV.cells] at hcc
            cases j with
            | zero => rfl
            | succ j => simp at hcc
          subst hj
          simp only [PV.cells, List.getElem?_cons_zero, Option.some.injEq] at hcc
          subst hcc
          have hi : i < len ∧ zs.getD i 0 = y := by
            rw [List.getElem?_take] at hy
            split at hy
            · rename_i hi
              exact ⟨hi, by simp [List.getD_eq_getElem?_getD, hy]⟩
            · cases hy
        · exact ⟨id, rfl, by rw [show off + i * 1 + 0 = off + i by omega]; exact hat i (by omega)⟩
        · rw [hi.2]; exact .int _ _
    · intro x hx
      simp only [List.mem_map] at hx
      obtain ⟨y, hy, rfl⟩ := hx
      have := hwz y (List.mem_of_mem_take hy)
      have hb : -9223372036854775808 ≤ y ∧ y ≤ 9223372036854775807 := by simpa [Lit.wf, IntKind.min, IntKind.max, IntKind.signed, IntKind.bits] using this
      exact ⟨y, rfl, hb.1, hb.2⟩
end Go.AM
