/-
  A part of a proof: see the last text of this claim for what is proved.
-/
import Derived.Test.YtamiheckgglgaaaGreatDoorB4f
import Derived.Test.YtamiheckgglgaaaGreatDoorDM
import Derived.Test.YtamiheckgglgaaaGreatDoorZMa
/-! the tape: bids -/
namespace Go.AM
open Go Go.Proofs Go.IntWalk
set_option maxRecDepth 100000
set_option maxHeartbeats 1000000
set_option linter.unusedSimpArgs false
set_option linter.unusedVariables false
def preR (args : List PV) : Prop := ∃ a b : Int, args = [.int .i64 a, .int .i64 b] ∧ -1000000000000000 ≤ a ∧ a ≤ b ∧ b ≤ 1000000000000000
theorem preR_eq {a b : Int} : preR [.int .i64 a, .int .i64 b] = (-1000000000000000 ≤ a ∧ a ≤ b ∧ b ≤ 1000000000000000) := propext ⟨fun ⟨a', b', e, h⟩ => by simp only [List.cons.injEq, PV.int.injEq, and_true, true_and] at e; obtain ⟨rfl, rfl⟩ := e; exact h, fun h => ⟨a, b, rfl, h⟩⟩
def okR (args : List PV) (n : Int) : Prop := arg1 args ≤ n ∧ n ≤ arg2 args
noncomputable def rangeS : QSpec := qV Tp preR intV okR
theorem w_rangeS : QSound GG 27 rangeS := by
  unfold rangeS
  refine QSound.of_wpcV (C := cxQ Tryz.prog Φ0 Θ1 noΨ [] [9000] 15) 9000 Tryz.func27 rfl rfl rfl (Fit.all (G := GG) hΦ0 hΘ1 hnoΨ mixed) rfl (fun args h => ?_) (fun args h => ?_)
  · obtain ⟨a, b, rfl, h1, h2, h3⟩ := h
    exact ⟨a, Int.le_refl _, h2⟩
  · obtain ⟨a, b, rfl, h1, h2, h3⟩ := h
    refine ⟨by simp [cxQ], ?_⟩
    refine wpc_sound (T := plan0) _ _ _ ?_
    have hw : IntKind.i64.wrap (IntKind.i64.wrap (b - a) + 1) = b - a + 1 := by rw [i64_in (b - a) (by omega), i64_in _ (by omega)]
    simp only [hw, Θ1, nS, preN_eq, okN, arg1, intV, Tryz.f27, plan0, go_sem, ↓reduceIte, reduceCtorEq, Nat.reduceEqDiff, Nat.reduceLT, ↓all_qV, Int.reduceToNat, Int.reduceLT, Int.reduceLE, Nat.reduceAdd, Nat.reduceLeDiff, Nat.reduceMul]
    refine ⟨⟨by omega, by omega⟩, fun n hn => ⟨_, rfl, ?_⟩⟩
    rw [i64_in _ (by omega)]
    exact ⟨by simp only [arg1]; omega, by simp only [arg2]; omega⟩
noncomputable def Θ2 (g : FuncId) : Option QSpec := putΘ Θ1 27 (qV Tp preR intV okR) g
theorem hΘ2 : QTab GG Θ2 := hΘ1.put w_rangeS
def preP (args : List PV) : Prop := ∃ es, args = [.sl es] ∧ es ≠ [] ∧ es.length ≤ 1000000 ∧ ∀ e, e ∈ es → isI e
theorem preP_eq {es : List PV} : preP [.sl es] = (es ≠ [] ∧ es.length ≤ 1000000 ∧ ∀ e, e ∈ es → isI e) := propext ⟨fun ⟨es', e, h⟩ => by simp only [List.cons.injEq, PV.sl.injEq, and_true] at e; subst e; exact h, fun h => ⟨es, rfl, h⟩⟩
def okP (args : List PV) (n : Int) : Prop := ∃ es, args = [.sl es] ∧ intV n ∈ es
theorem okP_eq {es : List PV} {n : Int} : okP [.sl es] n = (intV n ∈ es) := propext ⟨fun ⟨es', e, h⟩ => by simp only [List.cons.injEq, PV.sl.injEq, and_true] at e; subst e; exact h, fun h => ⟨es, rfl, h⟩⟩
noncomputable def pickS : QSpec := qV Tp preP intV okP
theorem w_pickS : QSound GG 28 pickS := by
  unfold pickS
  refine QSound.of_wpcV (C := cxQ Tryz.prog Φ0 Θ2 noΨ [] [9000] 12) 9000 Tryz.func28 rfl rfl rfl (Fit.all (G := GG) hΦ0 hΘ2 hnoΨ mixed) rfl (fun args h => ?_) (fun args h => ?_)
  · obtain ⟨es, rfl, h1, h2, h3⟩ := h
    cases es with
    | nil => exact absurd rfl h1
    | cons e r =>
      obtain ⟨n, rfl, _⟩ := h3 e List.mem_cons_self
      exact ⟨n, _, rfl, List.mem_cons_self⟩
  · obtain ⟨es, rfl, h1, h2, h3⟩ := h
    refine ⟨by simp [cxQ], ?_⟩
    refine wpc_sound (T := plan0) _ _ _ ?_
    have hpos := List.length_pos_iff.2 h1
    simp only [Θ2, Θ1, nS, preN_eq, okN, arg1, Tryz.underlying3, sz3, by3, ze3, Tryz.underlying22, sz22, by22, ze22, Tryz.underlying25, sz25, by25, ze25, Tryz.f28, plan0, go_sem, ↓reduceIte, reduceCtorEq, Nat.reduceEqDiff, Nat.reduceLT, ↓all_qVs, Int.reduceToNat, Int.reduceLT, Int.reduceLE, Nat.reduceAdd, Nat.reduceLeDiff, Nat.reduceMul]
    refine ⟨⟨by omega, by omega⟩, fun n hn => ?_⟩
    obtain ⟨j, rfl⟩ := Int.eq_ofNat_of_zero_le hn.1
    have hj : j < es.length := by omega
    obtain ⟨m, hm, b1, b2⟩ : ∃ m, es.getD j default = .int .i64 m ∧ .int .i64 m ∈ es ∧ True := by
      have h4 := h3 (es[j]'hj) (List.getElem_mem _)
      obtain ⟨m, e, _⟩ := h4
      exact ⟨m, by simp [List.getD_eq_getElem?_getD, hj, e], by rw [← e]; exact List.getElem_mem _, trivial⟩
    simp only [Later_eq, intV, hm, Tryz.underlying3, sz3, by3, ze3, Tryz.underlying22, sz22, by22, ze22, Tryz.underlying25, sz25, by25, ze25, plan0, go_sem, ↓reduceIte, reduceCtorEq, Nat.reduceEqDiff, Nat.reduceLT, ↓all_qV, Int.reduceToNat, Int.reduceLT, Int.reduceLE, Nat.reduceAdd, Nat.reduceLeDiff, Nat.reduceMul]
    exact ⟨hn, m, rfl, es, rfl, b1⟩
noncomputable def Θ3 (g : FuncId) : Option QSpec := putΘ Θ2 28 (qV Tp preP intV okP) g
theorem hΘ3 : QTab GG Θ3 := hΘ2.put w_pickS
/-! ### Bids -/
def bidG (i : Nat) (x : Bid) : Prop := vB x = true ∧ x.n = (i : Int) + 1
def bidsG (l : List Bid) : Prop := ∀ i x, l[i]? = some x → bidG i x
def preB (args : List PV) : Prop := ∃ k : Int, args = [.int .i64 k] ∧ 0 ≤ k ∧ k ≤ 30
theorem preB_eq {k : Int} : preB [.int .i64 k] = (0 ≤ k ∧ k ≤ 30) := propext ⟨fun ⟨k', e, h⟩ => by simp only [List.cons.injEq, PV.int.injEq, and_true, true_and] at e; subst e; exact h, fun h => ⟨k, rfl, h⟩⟩
def okB (args : List PV) (l : List Bid) : Prop := (l.length : Int) ≤ arg1 args ∧ bidsG l
def bidsV (l : List Bid) : PV := .sl (l.map bidV)
noncomputable def bidsS : QSpec := qV Tp preB bidsV okB
theorem bidsG_snoc {l : List Bid} {x : Bid} (h : bidsG l) (hx : bidG l.length x) : bidsG (l ++ [x]) := by
  intro i y hi
  rw [List.getElem?_append] at hi
  split at hi
  · exact h i y hi
  · rename_i hlt
    have : i - l.length = 0 := by
      rcases Nat.eq_zero_or_pos (i - l.length) with h0 | h0
      · exact h0
      · rw [List.getElem?_eq_none (by simp; omega)] at hi; cases hi
    rw [this] at hi
    simp at hi
    subst hi
    have : i = l.length := by omega
    rw [this]; exact hx
def lotM (m : Int) : Prop := m = 1 ∨ m = 2 ∨ m = 3 ∨ m = 5 ∨ m = 8
theorem lotM_ok {m : Int} (h : lotM m) : IntKind.i64.wrap (1000 * m) = 1000 * m ∧ lotB (1000 * m) = true := by
  rcases h with rfl | rfl | rfl | rfl | rfl <;> exact ⟨by decide, by decide⟩
theorem w_bidsS : QSound GG 6 bidsS := by
  unfold bidsS
  refine QSound.of_wpcV (C := cxQ Tryz.prog Φ0 Θ3 noΨ [] [9000] 39) 9000 Tryz.func6 rfl rfl rfl (Fit.all (G := GG) hΦ0 hΘ3 hnoΨ mixed) rfl (fun args h => ?_) (fun args h => ?_)
  · obtain ⟨k, rfl, h1, h2⟩ := h
    exact ⟨[], by simpa [arg1] using h1, fun i x hx => by simp at hx⟩
  · obtain ⟨k, rfl, h1, h2⟩ := h
    refine ⟨by simp [cxQ], ?_⟩
    refine wpc_sound (T := plan0) _ _ _ ?_
    have hw : IntKind.i64.wrap (k + 1) = k + 1 := i64_in _ (by omega)
    simp only [hw, Θ3, Θ2, Θ1, nS, preN_eq, preR_eq, preP_eq, okP_eq, okN, okR, arg1, arg2, intV, Nat.reduceBEq, plan0, Tryz.underlying1, sz1, by1, ze1, Tryz.underlying2, sz2, by2, ze2, Tryz.underlying3, sz3, by3, ze3, Tryz.underlying4, sz4, by4, ze4, Tryz.underlying5, sz5, by5, ze5, Tryz.underlying22, sz22, by22, ze22, Tryz.underlying23, sz23, by23, ze23, Tryz.underlying25, sz25, by25, ze25, Tryz.underlying29, sz29, by29, ze29, fa29_0, fa29_1, fa29_2, fa29_3, fa29_4, Tryz.f6, go_sem, ↓reduceIte, reduceCtorEq, Nat.reduceEqDiff, Nat.reduceLT, ↓all_qV, Int.reduceToNat, Int.reduceLT, Int.reduceLE, Nat.reduceAdd, Nat.reduceLeDiff, Nat.reduceMul]
    refine ⟨⟨by omega, by omega⟩, fun n hn => ?_⟩
    refine AWp.adoptS (s := 5) (κ := 8000) (k := 5) (by simp [look]) rfl (by decide) ?_
    refine AWp.loop (T := plan0) (α := Int × List Bid) (fun z => ([(0, .ptr 9000 0), (5, .rs 8000 z.2.length), (6, .pv (.int .i64 z.1))], [(9000, .obj Tp), (8000, .row 5 (z.2.map bidV))])) (fun z => 0 ≤ z.1 ∧ (z.2.length : Int) + z.1 ≤ k ∧ bidsG z.2) (fun z => z.1.toNat)
      ⟨(n, []), ⟨by simpa using hn.1, by simp only [List.length_nil]; omega, fun i x hx => by simp at hx⟩, ⟨by simp [fitR, look, upd], by simp [fitH, hget, hset], rfl, rfl, rfl⟩⟩ ?_
    rintro ⟨i, l⟩ ⟨g1, g2, g3⟩
    simp only at g1 g2 g3
    have hi1 : 0 < i → IntKind.i64.wrap (i - 1) = i - 1 := fun _ => i64_in _ (by omega)
    have hl1 : IntKind.i64.wrap ((l.length : Int) + 1) = (l.length : Int) + 1 := i64_in _ (by omega)
    have tk : (l.map bidV).take l.length = l.map bidV := List.take_of_length_le (by simp)
    by_cases hlt : 0 < i
    · have c0 : decide (0 < i) = true := by simp; exact hlt
      simp only [c0, hi1 hlt, hl1, tk, List.length_map, List.take_succ_cons, List.take_nil, Θ3, Θ2, Θ1, nS, preN_eq, preR_eq, preP_eq, okP_eq, okN, okR, arg1, arg2, intV, Nat.reduceBEq, plan0, Tryz.underlying1, sz1, by1, ze1, Tryz.underlying2, sz2, by2, ze2, Tryz.underlying3, sz3, by3, ze3, Tryz.underlying4, sz4, by4, ze4, Tryz.underlying5, sz5, by5, ze5, Tryz.underlying22, sz22, by22, ze22, Tryz.underlying23, sz23, by23, ze23, Tryz.underlying25, sz25, by25, ze25, Tryz.underlying29, sz29, by29, ze29, fa29_0, fa29_1, fa29_2, fa29_3, fa29_4, go_sem, ↓reduceIte, reduceCtorEq, Nat.reduceEqDiff, Nat.reduceLT, ↓all_qV, Int.reduceToNat, Int.reduceLT, Int.reduceLE, Nat.reduceAdd, Nat.reduceLeDiff, Nat.reduceMul, ev_callG, gcallK_b, gcallK_w, callGc_true, callGc_false]
      intro b hb
      refine ⟨fun e he => ?_, fun p hp => ⟨fun e he => ?_, fun m hm q hq => ?_⟩⟩
      · simp only [List.mem_cons, List.not_mem_nil, or_false] at he
        rcases he with rfl | rfl | rfl | rfl | rfl <;> exact ⟨_, rfl, by decide, by decide⟩
      · simp only [List.mem_cons, List.not_mem_nil, or_false] at he
        rcases he with rfl | rfl | rfl | rfl | rfl <;> exact ⟨_, rfl, by decide, by decide⟩
      have hm4 : lotM m := by simpa [lotM] using hm
      have hp4 : 1 ≤ p ∧ p ≤ 200000 := by
        have : p = 98000 ∨ p = 99000 ∨ p = 99500 ∨ p = 100000 ∨ p = 100500 := by simpa using hp
        omega
      obtain ⟨hw, hlo⟩ := lotM_ok hm4
      rw [hw]
      have hv1 : bidG l.length ⟨b, (l.length : Int) + 1, 0, 1000 * m, true⟩ := ⟨by simp only [vB, hlo, amg]; simp; omega, rfl⟩
      have hv2 : bidG l.length ⟨b, (l.length : Int) + 1, p, 1000 * m, false⟩ := ⟨by simp only [vB, hlo, amg]; simp; omega, rfl⟩
      refine ⟨fun _ => ⟨okBid, rfl, fun e he => by simp only [List.mem_singleton] at he; subst he; rfl, Nat.le_refl _, by omega, by simp only [maxLen]; omega, (i - 1, l ++ [⟨b, (l.length : Int) + 1, 0, 1000 * m, true⟩]), ⟨by simp only; omega, by simp only [List.length_append, List.length_cons, List.length_nil]; omega, bidsG_snoc g3 hv1⟩, by simp only; omega, ⟨by simp [fitR, look], by simp [fitH, hget, bidV], rfl, rfl, rfl⟩⟩,
        fun _ => ⟨okBid, rfl, fun e he => by simp only [List.mem_singleton] at he; subst he; rfl, Nat.le_refl _, by omega, by simp only [maxLen]; omega, (i - 1, l ++ [⟨b, (l.length : Int) + 1, p, 1000 * m, false⟩]), ⟨by simp only; omega, by simp only [List.length_append, List.length_cons, List.length_nil]; omega, bidsG_snoc g3 hv2⟩, by simp only; omega, ⟨by simp [fitR, look], by simp [fitH, hget, bidV], rfl, rfl, rfl⟩⟩⟩
    · have c0 : decide (0 < i) = false := by simp; omega
      simp only [c0, hl1, tk, List.length_map, Θ3, Θ2, Θ1, nS, preN_eq, preR_eq, preP_eq, okP_eq, okN, okR, arg1, arg2, intV, Nat.reduceBEq, plan0, Tryz.underlying1, sz1, by1, ze1, Tryz.underlying2, sz2, by2, ze2, Tryz.underlying3, sz3, by3, ze3, Tryz.underlying4, sz4, by4, ze4, Tryz.underlying5, sz5, by5, ze5, Tryz.underlying22, sz22, by22, ze22, Tryz.underlying23, sz23, by23, ze23, Tryz.underlying25, sz25, by25, ze25, Tryz.underlying29, sz29, by29, ze29, fa29_0, fa29_1, fa29_2, fa29_3, fa29_4, go_sem, ↓reduceIte, reduceCtorEq, Nat.reduceEqDiff, Nat.reduceLT, ↓all_qV, Int.reduceToNat, Int.reduceLT, Int.reduceLE, Nat.reduceAdd, Nat.reduceLeDiff, Nat.reduceMul, ev_callG, gcallK_b, gcallK_w, callGc_true, callGc_false]
      exact ⟨Nat.le_refl _, l, rfl, by simp only [arg1]; omega, g3⟩
noncomputable def Θ4 (g : FuncId) : Option QSpec := putΘ Θ3 6 (qV Tp preB bidsV okB) g
theorem hΘ4 : QTab GG Θ4 := hΘ3.put w_bidsS
end Go.AM
