/-
  A part of a proof: see the last text of this claim for what is proved.
-/
import Derived.Test.YtamiheckgglgaaaGreatDoorB4x
import Derived.Test.YtamiheckgglgaaaGreatDoorZMa
/-! the tape: Text, odd -/
namespace Go.AM
open Go Go.Proofs Go.IntWalk
set_option maxRecDepth 100000
set_option maxHeartbeats 1000000
set_option linter.unusedSimpArgs false
set_option linter.unusedVariables false
def strV (s : List UInt8) : PV := .str s
def preX (args : List PV) : Prop := ∃ es, args = [.sl es] ∧ es ≠ [] ∧ es.length ≤ 1000000 ∧ ∀ e, e ∈ es → ∃ s, e = strV s
theorem preX_eq {es : List PV} : preX [.sl es] = (es ≠ [] ∧ es.length ≤ 1000000 ∧ ∀ e, e ∈ es → ∃ s, e = strV s) := propext ⟨fun ⟨es', e, h⟩ => by simp only [List.cons.injEq, PV.sl.injEq, and_true] at e; subst e; exact h, fun h => ⟨es, rfl, h⟩⟩
def okX (args : List PV) (s : List UInt8) : Prop := ∃ es, args = [.sl es] ∧ strV s ∈ es
theorem okX_eq {es : List PV} {s : List UInt8} : okX [.sl es] s = (strV s ∈ es) := propext ⟨fun ⟨es', e, h⟩ => by simp only [List.cons.injEq, PV.sl.injEq, and_true] at e; subst e; exact h, fun h => ⟨es, rfl, h⟩⟩
noncomputable def textS : QSpec := qV Tp preX strV okX
theorem w_textS : QSound GG 24 textS := by
  unfold textS
  refine QSound.of_wpcV (C := cxQ Tryz.prog Φ0 Θ3 noΨ [] [9000] 12) 9000 Tryz.func24 rfl rfl rfl (Fit.all (G := GG) hΦ0 hΘ3 hnoΨ mixed) rfl (fun args h => ?_) (fun args h => ?_)
  · obtain ⟨es, rfl, h1, h2, h3⟩ := h
    cases es with
    | nil => exact absurd rfl h1
    | cons e r =>
      obtain ⟨n, rfl⟩ := h3 e List.mem_cons_self
      exact ⟨n, _, rfl, List.mem_cons_self⟩
  · obtain ⟨es, rfl, h1, h2, h3⟩ := h
    refine ⟨by simp [cxQ], ?_⟩
    refine wpc_sound (T := plan0) _ _ _ ?_
    have hpos := List.length_pos_iff.2 h1
    simp only [Θ3, Θ2, Θ1, nS, preN_eq, okN, arg1, Tryz.underlying3, sz3, by3, ze3, Tryz.underlying9, sz9, by9, ze9, Tryz.underlying25, sz25, by25, ze25, Tryz.underlying69, sz69, by69, ze69, Tryz.f24, plan0, go_sem, ↓reduceIte, reduceCtorEq, Nat.reduceEqDiff, Nat.reduceLT, ↓all_qVs, Int.reduceToNat, Int.reduceLT, Int.reduceLE, Nat.reduceAdd, Nat.reduceLeDiff, Nat.reduceMul]
    refine ⟨⟨by omega, by omega⟩, fun n hn => ?_⟩
    obtain ⟨j, rfl⟩ := Int.eq_ofNat_of_zero_le hn.1
    have hj : j < es.length := by omega
    obtain ⟨m, hm, b1⟩ : ∃ m, es.getD j default = .str m ∧ .str m ∈ es := by
      obtain ⟨m, e⟩ := h3 (es[j]'hj) (List.getElem_mem _)
      have e' : es[j] = .str m := e
      exact ⟨m, by simp [List.getD_eq_getElem?_getD, hj, e'], by rw [← e']; exact List.getElem_mem _⟩
    simp only [Later_eq, intV, hm, Tryz.underlying3, sz3, by3, ze3, Tryz.underlying9, sz9, by9, ze9, Tryz.underlying25, sz25, by25, ze25, Tryz.underlying69, sz69, by69, ze69, plan0, go_sem, ↓reduceIte, reduceCtorEq, Nat.reduceEqDiff, Nat.reduceLT, ↓all_qV, Int.reduceToNat, Int.reduceLT, Int.reduceLE, Nat.reduceAdd, Nat.reduceLeDiff, Nat.reduceMul]
    exact ⟨hn, m, rfl, es, rfl, b1⟩
noncomputable def Θ5 (g : FuncId) : Option QSpec := putΘ Θ4 24 (qV Tp preX strV okX) g
theorem hΘ5 : QTab GG Θ5 := hΘ4.put w_textS
def preO (args : List PV) : Prop := args = []
theorem preO_eq : preO [] = True := propext ⟨fun _ => trivial, fun _ => rfl⟩
def okO (_ : List PV) (_ : Bid) : Prop := True
noncomputable def oddS : QSpec := qV Tp preO bidV okO
theorem w_oddS : QSound GG 7 oddS := by
  unfold oddS
  refine QSound.of_wpcV (C := cxQ Tryz.prog Φ0 Θ5 noΨ [] [9000] 33) 9000 Tryz.func7 rfl rfl rfl (Fit.all (G := GG) hΦ0 hΘ5 hnoΨ mixed) rfl (fun args h => ?_) (fun args h => ?_)
  · obtain rfl := h
    exact ⟨default, trivial⟩
  · obtain rfl := h
    refine ⟨by simp [cxQ], ?_⟩
    refine wpc_sound (T := plan0) _ _ _ ?_
    simp only [loadC_eq, Θ5, Θ4, Θ3, Θ2, Θ1, nS, preN_eq, preP_eq, preX_eq, okP_eq, okX_eq, okN, arg1, arg2, intV, strV, Nat.reduceBEq, plan0, List.take_succ_cons, List.take_nil, Tryz.underlying1, sz1, by1, ze1, Tryz.underlying2, sz2, by2, ze2, Tryz.underlying3, sz3, by3, ze3, Tryz.underlying4, sz4, by4, ze4, Tryz.underlying22, sz22, by22, ze22, Tryz.underlying25, sz25, by25, ze25, Tryz.underlying29, sz29, by29, ze29, fa29_0, fa29_1, fa29_2, fa29_3, fa29_4, Tryz.f7, go_sem, ↓reduceIte, reduceCtorEq, Nat.reduceEqDiff, Nat.reduceLT, ↓all_qV, Int.reduceToNat, Int.reduceLT, Int.reduceLE, Nat.reduceAdd, Nat.reduceLeDiff, Nat.reduceMul, ev_callG, gcallK_b, gcallK_w, callGc_true, callGc_false]
    intro x hx
    refine ⟨fun _ => ⟨fun e he => by simp only [List.mem_cons, List.not_mem_nil, or_false] at he; rcases he with rfl | rfl | rfl <;> exact ⟨_, rfl, by decide, by decide⟩, fun y hy => ⟨okBid, ⟨y, 1, 99000, 1000, false⟩, rfl, trivial⟩⟩, fun _ => ⟨fun _ => ⟨fun e he => by simp only [List.mem_cons, List.not_mem_nil, or_false] at he; rcases he with rfl | rfl | rfl <;> exact ⟨_, rfl, by decide, by decide⟩, fun y hy => ⟨okBid, ⟨1, y, 99000, 1000, false⟩, rfl, trivial⟩⟩, fun _ => ⟨fun _ => ⟨fun e he => by simp only [List.mem_cons, List.not_mem_nil, or_false] at he; rcases he with rfl | rfl | rfl | rfl <;> exact ⟨_, rfl, by decide, by decide⟩, fun y hy => ⟨okBid, ⟨1, 1, y, 1000, false⟩, rfl, trivial⟩⟩, fun _ => ⟨fun _ => ⟨fun e he => by simp only [List.mem_cons, List.not_mem_nil, or_false] at he; rcases he with rfl | rfl | rfl | rfl <;> exact ⟨_, rfl, by decide, by decide⟩, fun y hy => ⟨okBid, ⟨1, 1, 99000, y, false⟩, rfl, trivial⟩⟩, fun _ => ⟨okBid, ⟨1, 1, 99000, 1000, true⟩, rfl, trivial⟩⟩⟩⟩⟩
noncomputable def Θ6 (g : FuncId) : Option QSpec := putΘ Θ5 7 (qV Tp preO bidV okO) g
theorem hΘ6 : QTab GG Θ6 := hΘ5.put w_oddS
end Go.AM
