/-
  A part of a proof: see the last text of this claim for what is proved.
-/
import Derived.Test.YtolbfgiflhpjpaaDoorR6j
import Derived.Test.YtolbfgiflhpjpaaDoorDM
namespace Go.AM
open Go Go.Proofs Go.IntWalk
set_option maxRecDepth 100000
set_option maxHeartbeats 1000000
set_option linter.unusedSimpArgs false
set_option linter.unusedVariables false
/-! ### Every code of a list has a leaf under it -/
theorem dotF_take (s : List UInt8) : ∀ k, k ≤ s.length → dotF s k = [] ∨ ∃ j, j < k ∧ dotF s k = s.take j ∧ ((s.getD j 0).toNat : Int) = 46
  | 0, _ => .inl rfl
  | k + 1, h => by
    unfold dotF
    cases h1 : (((s.getD k 0).toNat : Int) == 46) with
    | true => exact .inr ⟨k, by omega, rfl, by simpa using h1⟩
    | false =>
      rcases dotF_take s k (by omega) with h2 | ⟨j, h2, h3, h4⟩
      · exact .inl h2
      · exact .inr ⟨j, by omega, h3, h4⟩
def cand (top c : List UInt8) : Bool := gd c && (top == [] || undF c top)
theorem cand_up {top c s : List UInt8} (hc : cand top c = true) (hp : parF s = c) (hne : c ≠ []) : cand top s = true ∧ c.length < s.length := by
  unfold parF at hp
  cases hg : gd s with
  | false => rw [hg] at hp; exact absurd hp.symm hne
  | true =>
    rw [hg, cond_true] at hp
    rcases dotF_take s s.length (Nat.le_refl _) with h | ⟨j, h1, h2, h3⟩
    · rw [h] at hp; exact absurd hp.symm hne
    · rw [h2] at hp
      have hcl : c.length = j := by rw [← hp, List.length_take]; omega
      refine ⟨?_, by omega⟩
      unfold cand at hc ⊢
      rw [hg]
      simp only [Bool.and_eq_true, Bool.true_and] at hc ⊢
      obtain ⟨_, hc⟩ := hc
      by_cases ht : top = []
      · subst ht; rfl
      · have ht2 : (top == []) = false := by simpa using ht
        rw [ht2, Bool.false_or] at hc ⊢
        unfold undF at hc ⊢
        cases h5 : (!gd c || !gd top || decide ((c.length : Int) < top.length) || !(c.take top.length == top)) with
        | true => rw [h5] at hc; cases hc
        | false =>
          rw [h5, cond_false] at hc
          simp only [Bool.or_eq_false_iff, Bool.not_eq_false', decide_eq_false_iff_not, beq_iff_eq] at h5
          obtain ⟨⟨⟨_, h6⟩, h7⟩, h8⟩ := h5
          have h9 : s.take top.length = top := by
            rw [← hp, List.take_take] at h8
            rw [show min top.length j = top.length by omega] at h8
            exact h8
          have h10 : (!gd s || !gd top || decide ((s.length : Int) < top.length) || !(s.take top.length == top)) = false := by
            rw [hg, h6, h9]
            have : ¬ (s.length : Int) < top.length := by omega
            simp [this]
          rw [h10, cond_false]
          simp only [Bool.or_eq_true, beq_iff_eq] at hc ⊢
          right
          by_cases h11 : c.length = top.length
          · rw [← h11, hcl]; exact h3
          · rcases hc with hc | hc
            · omega
            · rw [← hc, ← hp]
              have : top.length < j := by omega
              simp only [List.getD_eq_getElem?_getD, List.getElem?_take, this, if_true]
theorem leaves_ne {l : List PV} {top : List UInt8} (hl : treeP l) : ∀ n (e : PV), e ∈ l → cand top (hCode e) = true → 100 - (hCode e).length ≤ n → leavesF l top ≠ []
  | n, e, he, hc, hn => by
    by_cases hch : chl (hCode e) l = true
    · have hm : e ∈ l.filter (leafF l top) := by
        rw [List.mem_filter]
        refine ⟨he, ?_⟩
        unfold leafF
        unfold cand at hc
        rw [hc, hch]; rfl
      unfold leavesF
      intro h
      rw [List.map_eq_nil_iff] at h
      rw [h] at hm
      cases hm
    · have hch : chl (hCode e) l = false := by simpa using hch
      unfold chl at hch
      rw [List.all_eq_false] at hch
      obtain ⟨x, hx, hxp⟩ := hch
      have hxp : parF (hCode x) = hCode e := by simpa using hxp
      have hne : hCode e ≠ [] := by
        intro h
        unfold cand at hc
        rw [h] at hc
        have : gd [] = false := by decide
        rw [this] at hc; cases hc
      obtain ⟨h1, h2⟩ := cand_up hc hxp hne
      obtain ⟨c, nm, rfl, hcl⟩ := hl.2 x hx
      have h3 : (hCode (hV c nm)).length ≤ 100 := hcl
      cases n with
      | zero => omega
      | succ n => exact leaves_ne hl n _ hx h1 (by omega)
theorem leaves9 {l : List PV} (hl : treeP l) (h9 : nineP l) (top : List UInt8) (ht : top = [] ∨ top = [57]) : leavesF l top ≠ [] := by
  obtain ⟨e, he, hc⟩ := h9
  refine leaves_ne hl 100 e he ?_ (by omega)
  rw [hc]
  rcases ht with rfl | rfl <;> decide
/-! ### The tape's answers -/
theorem isI_eq {n : Int} : isI (.int .i64 n) = (-9223372036854775808 ≤ n ∧ n ≤ 9223372036854775807) := propext ⟨fun ⟨m, e, h⟩ => by injection e with e1 e2; subst e2; exact h, fun h => ⟨n, rfl, h⟩⟩
theorem preP_eq {es : List PV} : preP [.sl es] = (es ≠ [] ∧ es.length ≤ 1000000 ∧ ∀ e, e ∈ es → isI e) :=
  propext ⟨fun ⟨es', e, h⟩ => by simp only [List.cons.injEq, PV.sl.injEq, and_true] at e; subst e; exact h, fun h => ⟨es, rfl, h⟩⟩
theorem okP_eq {es : List PV} {n : Int} : okP [.sl es] n = (intV n ∈ es) :=
  propext ⟨fun ⟨es', e, h⟩ => by simp only [List.cons.injEq, PV.sl.injEq, and_true] at e; subst e; exact h, fun h => ⟨es, rfl, h⟩⟩
theorem preR_eq {a b : Int} : preR [.int .i64 a, .int .i64 b] = (-1000000000000000 ≤ a ∧ a ≤ b ∧ b ≤ 1000000000000000) :=
  propext ⟨fun ⟨a', b', e, h⟩ => by simp only [List.cons.injEq, PV.int.injEq, and_true, true_and] at e; obtain ⟨rfl, rfl⟩ := e; exact h, fun h => ⟨a, b, rfl, h⟩⟩
theorem allI_nil : (∀ e, e ∈ ([] : List PV) → isI e) = True := by simp
theorem allI_cons {n : Int} {r : List PV} : (∀ e, e ∈ (.int .i64 n :: r) → isI e) = ((-9223372036854775808 ≤ n ∧ n ≤ 9223372036854775807) ∧ ∀ e, e ∈ r → isI e) := by
  rw [← isI_eq]
  exact propext ⟨fun h => ⟨h _ List.mem_cons_self, fun e he => h e (List.mem_cons_of_mem _ he)⟩, fun h e he => by
    rcases List.mem_cons.1 he with rfl | he
    · exact h.1
    · exact h.2 e he⟩
theorem memI_nil {n : Int} : (PV.int .i64 n ∈ ([] : List PV)) = False := by simp
theorem memI_cons {n m : Int} {r : List PV} : (PV.int .i64 n ∈ (.int .i64 m :: r)) = (n = m ∨ PV.int .i64 n ∈ r) := by
  apply propext
  rw [List.mem_cons]
  simp
/-! ### Laws and receipts -/
def lawV (first years : Int) (tree a b c d e f g : List PV) : PV := .agg [.int .i64 first, .int .i64 years, .sl tree, .sl a, .sl b, .sl c, .sl d, .sl e, .sl f, .sl g]
def earP (x : PV) : Prop := ∃ s c p, x = earV s c p ∧ s.length ≤ 100 ∧ 0 ≤ p ∧ p ≤ 100
def ruleP (x : PV) : Prop := ∃ n s c p, x = .agg [.int .i64 n, .str s, .str c, .int .i64 p] ∧ s.length ≤ 100 ∧ c.length ≤ 100
def lawP (p : PV) : Prop := ∃ first years tree a b c d e f g, p = lawV first years tree a b c d e f g ∧ (0 ≤ first ∧ first ≤ 100) ∧ (1 ≤ years ∧ years ≤ 3) ∧ treeP tree ∧ nineP tree ∧ d.length ≤ 1000 ∧ (∀ x, x ∈ d → earP x) ∧ f.length ≤ 1000 ∧ ∀ x, x ∈ f → ruleP x
def lawTree : PV → List PV
  | .agg (_ :: _ :: .sl t :: _) => t
  | _ => []
def lawFirst : PV → Int
  | .agg (.int _ n :: _) => n
  | _ => 0
/-- A receipt of one of these codes, from this year on. -/
def recQ (lv : List PV) (first : Int) (x : PV) : Prop := ∃ n d c a, x = recV n d c a ∧ c.length ≤ 100 ∧ PV.str c ∈ lv ∧ (360 * first ≤ d ∧ d ≤ 40000) ∧ (-500 ≤ a ∧ a ≤ 2000 ∧ a ≠ 0)
def recP (l x : PV) : Prop := recQ (leavesF (lawTree l) [57]) (lawFirst l) x
end Go.AM
