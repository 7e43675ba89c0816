/-
  A part of a proof: see the last text of this claim for what is proved.
-/
import Derived.Test.YtifefpabgchglaaGreatDoorR3e
import Derived.Shelf.Strings.OnBuilder
namespace Go.AM
open Go Go.Proofs Go.IntWalk
set_option maxRecDepth 100000
set_option maxHeartbeats 4000000
set_option linter.unusedSimpArgs false
set_option linter.unusedVariables false
/-! ### The order of codes: the plain law -/
theorem cmpL_neg : ∀ p q : List Int, cmpL q p = -cmpL p q
  | [], [] => rfl
  | [], _ :: _ => rfl
  | _ :: _, [] => rfl
  | x :: p, y :: q => by
    have ih := cmpL_neg p q
    simp only [cmpL]
    by_cases h1 : x < y
    · have : ¬ y < x := by omega
      simp [h1, this]
    · by_cases h2 : y < x
      · simp [h1, h2]
      · simp [h1, h2, ih]
theorem cmpL_zero : ∀ p q : List Int, cmpL p q = 0 ↔ p = q
  | [], [] => by simp [cmpL]
  | [], _ :: _ => by simp [cmpL]
  | _ :: _, [] => by simp [cmpL]
  | x :: p, y :: q => by
    have ih := cmpL_zero p q
    simp only [cmpL]
    by_cases h1 : x < y
    · have : x ≠ y := by omega
      simp [h1, this]
    · by_cases h2 : y < x
      · have : x ≠ y := by omega
        simp [h1, h2, this]
      · have : x = y := by omega
        simp [h1, h2, ih, this]
theorem cmpL_trans : ∀ p q r : List Int, cmpL p q ≤ 0 → cmpL q r ≤ 0 → cmpL p r ≤ 0
  | [], _, [], _, _ => by simp [cmpL]
  | [], _, _ :: _, _, _ => by simp [cmpL]
  | _ :: _, [], _, h, _ => by simp [cmpL] at h
  | _ :: _, _ :: _, [], _, h => by simp [cmpL] at h
  | x :: p, y :: q, z :: r, h1, h2 => by
    have ih := cmpL_trans p q r
    simp only [cmpL] at h1 h2 ⊢
    split at h1
    · split at h2
      · rw [if_pos (by omega)]; decide
      · split at h2
        · omega
        · rw [if_pos (by omega)]; decide
    · split at h1
      · omega
      · split at h2
        · rw [if_pos (by omega)]; decide
        · split at h2
          · omega
          · rw [if_neg (by omega), if_neg (by omega)]; exact ih h1 h2
def preL (p q : List Int) : Prop := q.length ≤ p.length ∧ p.take q.length = q
theorem preL_cmp : ∀ p q : List Int, preL p q → 0 ≤ cmpL p q
  | [], [], _ => by simp [cmpL]
  | [], _ :: _, h => by simp [preL] at h
  | _ :: _, [], _ => by simp [cmpL]
  | x :: p, y :: q, h => by
    obtain ⟨h1, h2⟩ := h
    simp only [List.length_cons, List.take_succ_cons, List.cons.injEq] at h1 h2
    obtain ⟨rfl, h2⟩ := h2
    simp only [cmpL]
    rw [if_neg (by omega), if_neg (by omega)]
    exact preL_cmp p q ⟨by omega, h2⟩
theorem preL_between : ∀ a b c : List Int, cmpL a b ≤ 0 → cmpL b c ≤ 0 → preL c a → preL b a
  | [], _, _, _, _, _ => by simp [preL]
  | _ :: _, [], _, h, _, _ => by simp [cmpL] at h
  | _ :: _, _ :: _, [], _, _, h => by simp [preL] at h
  | x :: a, y :: b, z :: c, h1, h2, h3 => by
    obtain ⟨h4, h5⟩ := h3
    simp only [List.length_cons, List.take_succ_cons, List.cons.injEq] at h4 h5
    obtain ⟨rfl, h5⟩ := h5
    simp only [cmpL] at h1 h2
    rcases Int.lt_trichotomy z y with h6 | h6 | h6
    · rw [if_neg (by omega), if_pos h6] at h2; omega
    · subst h6
      · rw [if_neg (by omega), if_neg (by omega)] at h1 h2
        obtain ⟨k1, k2⟩ := preL_between a b c h1 h2 ⟨by omega, h5⟩
        exact ⟨by simp only [List.length_cons]; omega, by simp only [List.length_cons, List.take_succ_cons, k2]⟩
    · rw [if_neg (by omega), if_pos h6] at h1; omega
theorem preL_trans {a b c : List Int} (h1 : preL a b) (h2 : preL b c) : preL a c := by
  obtain ⟨k1, k2⟩ := h1
  obtain ⟨k3, k4⟩ := h2
  refine ⟨by omega, ?_⟩
  rw [← k2, List.take_take, Nat.min_eq_left k3] at k4
  exact k4
theorem undC_pre {a b : List UInt8} (hb : 0 < (partsR b).length) : undC a b = true ↔ preL (partsR a) (partsR b) := by
  unfold undC preL
  simp only [Bool.and_eq_true, decide_eq_true_eq, beq_iff_eq]
  exact ⟨fun h => ⟨h.1.2, h.2⟩, fun h => ⟨⟨hb, h.1⟩, h.2⟩⟩
/-- What Code makes of numbers. -/
def jnF (l : List Int) : List UInt8 := Lib.join (l.map Lib.itoa) [46]
def cdC (l : List Int) : List UInt8 := bif isCode (jnF l) then jnF l else []
theorem SX_code : ∀ a, a ∈ SX → cdC (partsR a) = a ∧ 0 < (partsR a).length := by decide +kernel
section
variable {a b c : List UInt8}
theorem cmpC_eq (ha : a ∈ SX) : cmpC a b = cmpL (partsR a) (partsR b) := by
  have h := (SX_code a ha).2
  unfold cmpC
  have : (((partsR a).length : Int) == 0) = false := by
    rw [beq_eq_false_iff_ne]; omega
  rw [this]; rfl
theorem ord_neg (ha : a ∈ SX) (hb : b ∈ SX) : cmpC a b = -cmpC b a := by rw [cmpC_eq ha, cmpC_eq hb, cmpL_neg]
theorem ord_zero (ha : a ∈ SX) (hb : b ∈ SX) : (cmpC a b == 0) = (a == b) := by
  rw [cmpC_eq ha, Bool.eq_iff_iff, beq_iff_eq, beq_iff_eq, cmpL_zero]
  refine ⟨fun h => ?_, fun h => by rw [h]⟩
  rw [← (SX_code a ha).1, ← (SX_code b hb).1, h]
theorem ord_trans (ha : a ∈ SX) (hb : b ∈ SX) (h1 : cmpC a b ≤ 0) (h2 : cmpC b c ≤ 0) : cmpC a c ≤ 0 := by
  rw [cmpC_eq ha] at h1 ⊢
  rw [cmpC_eq hb] at h2
  exact cmpL_trans _ _ _ h1 h2
theorem ord_under (ha : a ∈ SX) (hb : b ∈ SX) (h : undC a b = true) : 0 ≤ cmpC a b := by
  rw [cmpC_eq ha]
  exact preL_cmp _ _ ((undC_pre (SX_code b hb).2).1 h)
theorem ord_between (ha : a ∈ SX) (hb : b ∈ SX) (h1 : cmpC a b ≤ 0) (h2 : cmpC b c ≤ 0) (h : undC c a = true) : undC b a = true := by
  rw [cmpC_eq ha] at h1
  rw [cmpC_eq hb] at h2
  exact (undC_pre (SX_code a ha).2).2 (preL_between _ _ _ h1 h2 ((undC_pre (SX_code a ha).2).1 h))
theorem und_trans (hb : b ∈ SX) (hc : c ∈ SX) (h1 : undC a b = true) (h2 : undC b c = true) : undC a c = true :=
  (undC_pre (SX_code c hc).2).2 (preL_trans ((undC_pre (SX_code b hb).2).1 h1) ((undC_pre (SX_code c hc).2).1 h2))
end
end Go.AM
