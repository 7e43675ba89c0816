/-
  A part of a proof: see the last text of this claim for what is proved.
-/
import Derived.Test.YteapbfeojedjoaaGreatDoorU4p
import Derived.Test.YteapbfeojedjoaaGreatDoorZMa
/-! AccrualEntities -/
namespace Go.AM
open Go Go.Proofs Go.IntWalk
set_option maxRecDepth 100000
set_option maxHeartbeats 4000000
set_option linter.unusedSimpArgs false
set_option linter.unusedVariables false
def planE2 : Plan := { keep := fun _ => none, cut := fun _ => false, stop := fun i => i == 2 }
def planE9 : Plan := { keep := fun _ => none, cut := fun _ => false, stop := fun i => i == 9 }
noncomputable def entLS : PSpec := on_l (fun es => es.length ≤ 9223372036854775807 ∧ ∀ e, e ∈ es → isI e) (fun _ => .bool true)
theorem k_entL_10 {args : List PV} : AJ 10 args = closS args := rfl
theorem k_entL_16 {args : List PV} : AJ 16 args = rlsS args := rfl
theorem k_entL_17 {args : List PV} : AJ 17 args = rbalS args := rfl
theorem AJ_sane {args : List PV} : AJ 15 args = saneS args := rfl
theorem bals_len {l : List Pst} {en d : Int} : (balsF l en d).length ≤ 500 := by
  unfold balsF
  cases (lkF l != 0) with
  | true => simp
  | false => exact Nat.le_trans (listF_len _ _) (by rw [show (sumsT en 0 d l).length = 500 from tab_len]; exact Nat.le_refl _)
theorem w_entLS : PSound GG 4 entLS := by
  refine PSound.of_wpc (C := cxQ Tryz.prog AJ Θ9 Ψ1 [] [] 89) (T := planE2) Tryz.func4 rfl rfl rfl (Fit.all (G := GG) hAJ hΘ9 hΨ1 mixed) (fun args h => ?_)
  unfold entLS at h
  obtain ⟨es0, rfl, he1, he2⟩ := on_l_inv h
  refine ⟨by simp [cxQ], ?_⟩
  simp only [entLS, on_l_eq, Θ9, Θ8, Θ7, Θ6, Θ5, Θ4, Θ3, Θ2, Θ1, Ψ1, newS, preT_eq, preL_eq, preC_eq, okQ, arg1, arg2, arg3, intV, lgV, cloV, lgOf_agg, cloOf_agg, map_psOf, map_balOf, Nat.reduceBEq, psiNew_eq, List.length_map, List.take_succ_cons, List.take_nil, Tryz.underlying1, sz1, by1, ze1, Tryz.underlying3, sz3, by3, ze3, Tryz.underlying4, sz4, by4, ze4, Tryz.underlying9, sz9, by9, ze9, Tryz.underlying22, sz22, by22, ze22, Tryz.underlying23, sz23, by23, ze23, Tryz.underlying25, sz25, by25, ze25, Tryz.underlying27, sz27, by27, ze27, fa27_0, Tryz.underlying29, sz29, by29, ze29, Tryz.underlying31, sz31, by31, ze31, fa31_0, fa31_1, fa31_2, fa31_3, Tryz.underlying33, sz33, by33, ze33, Tryz.underlying34, sz34, by34, ze34, Tryz.underlying39, sz39, by39, ze39, fa39_0, fa39_1, fa39_2, fa39_3, fa39_4, fa39_5, Tryz.underlying46, sz46, by46, ze46, Tryz.underlying57, sz57, by57, ze57, fa57_0, fa57_1, fa57_2, fa57_3, fa57_4, fa57_5, fa57_6, fa57_7, Tryz.underlying72, sz72, by72, ze72, fa72_0, fa72_1, Tryz.f4, argL, planE2, go_sem, ↓reduceIte, reduceCtorEq, Nat.reduceEqDiff, Nat.reduceLT, ↓all_qVz, ↓all_qVz', Int.reduceToNat, Int.reduceLT, Int.reduceLE, Nat.reduceAdd, Nat.reduceLeDiff, Nat.reduceMul, ev_callG, gcallK_b, gcallK_w, callGc_true, callGc_false]
  refine ⟨⟨he1, he2⟩, ?_⟩
  refine AWp.here (T := planE9) (α := Unit) (fun _ => ([(2, .pv (.bool false)), (3, .ptr 17 0)], [(17, .obj Tp)])) (fun _ => True) ⟨(), trivial, ⟨by simp [fitR, look], by simp [fitH, hget], rfl, rfl, rfl⟩⟩ ?_
  intro _ _
  simp (config := {maxSteps := 1000000}) only [Θ9, Θ8, Θ7, Θ6, Θ5, Θ4, Θ3, Θ2, Θ1, Ψ1, newS, preT_eq, preL_eq, preC_eq, okQ, arg1, arg2, arg3, intV, lgV, cloV, lgOf_agg, cloOf_agg, map_psOf, map_balOf, Nat.reduceBEq, psiNew_eq, List.length_map, List.take_succ_cons, List.take_nil, Tryz.underlying1, sz1, by1, ze1, Tryz.underlying3, sz3, by3, ze3, Tryz.underlying4, sz4, by4, ze4, Tryz.underlying9, sz9, by9, ze9, Tryz.underlying22, sz22, by22, ze22, Tryz.underlying23, sz23, by23, ze23, Tryz.underlying25, sz25, by25, ze25, Tryz.underlying27, sz27, by27, ze27, fa27_0, Tryz.underlying29, sz29, by29, ze29, Tryz.underlying31, sz31, by31, ze31, fa31_0, fa31_1, fa31_2, fa31_3, Tryz.underlying33, sz33, by33, ze33, Tryz.underlying34, sz34, by34, ze34, Tryz.underlying39, sz39, by39, ze39, fa39_0, fa39_1, fa39_2, fa39_3, fa39_4, fa39_5, Tryz.underlying46, sz46, by46, ze46, Tryz.underlying57, sz57, by57, ze57, fa57_0, fa57_1, fa57_2, fa57_3, fa57_4, fa57_5, fa57_6, fa57_7, Tryz.underlying72, sz72, by72, ze72, fa72_0, fa72_1, planE9, go_sem, ↓reduceIte, reduceCtorEq, Nat.reduceEqDiff, Nat.reduceLT, ↓all_qVz, ↓all_qVz', Int.reduceToNat, Int.reduceLT, Int.reduceLE, Nat.reduceAdd, Nat.reduceLeDiff, Nat.reduceMul, ev_callG, gcallK_b, gcallK_w, callGc_true, callGc_false]
  intro l hl
  rw [Stop_eq]
  simp (config := {maxSteps := 1000000}) only [Θ9, Θ8, Θ7, Θ6, Θ5, Θ4, Θ3, Θ2, Θ1, Ψ1, newS, preT_eq, preL_eq, preC_eq, okQ, arg1, arg2, arg3, intV, lgV, cloV, lgOf_agg, cloOf_agg, map_psOf, map_balOf, Nat.reduceBEq, psiNew_eq, List.length_map, List.take_succ_cons, List.take_nil, Tryz.underlying1, sz1, by1, ze1, Tryz.underlying3, sz3, by3, ze3, Tryz.underlying4, sz4, by4, ze4, Tryz.underlying9, sz9, by9, ze9, Tryz.underlying22, sz22, by22, ze22, Tryz.underlying23, sz23, by23, ze23, Tryz.underlying25, sz25, by25, ze25, Tryz.underlying27, sz27, by27, ze27, fa27_0, Tryz.underlying29, sz29, by29, ze29, Tryz.underlying31, sz31, by31, ze31, fa31_0, fa31_1, fa31_2, fa31_3, Tryz.underlying33, sz33, by33, ze33, Tryz.underlying34, sz34, by34, ze34, Tryz.underlying39, sz39, by39, ze39, fa39_0, fa39_1, fa39_2, fa39_3, fa39_4, fa39_5, Tryz.underlying46, sz46, by46, ze46, Tryz.underlying57, sz57, by57, ze57, fa57_0, fa57_1, fa57_2, fa57_3, fa57_4, fa57_5, fa57_6, fa57_7, Tryz.underlying72, sz72, by72, ze72, fa72_0, fa72_1, planE9, go_sem, ↓reduceIte, reduceCtorEq, Nat.reduceEqDiff, Nat.reduceLT, ↓all_qVz, ↓all_qVz', Int.reduceToNat, Int.reduceLT, Int.reduceLE, Nat.reduceAdd, Nat.reduceLeDiff, Nat.reduceMul, ev_callG, gcallK_b, gcallK_w, callGc_true, callGc_false]
  intro c hc
  rw [Stop_eq]
  simp (config := {maxSteps := 1000000}) only [Θ9, Θ8, Θ7, Θ6, Θ5, Θ4, Θ3, Θ2, Θ1, Ψ1, newS, preT_eq, preL_eq, preC_eq, okQ, arg1, arg2, arg3, intV, lgV, cloV, lgOf_agg, cloOf_agg, map_psOf, map_balOf, Nat.reduceBEq, psiNew_eq, List.length_map, List.take_succ_cons, List.take_nil, Tryz.underlying1, sz1, by1, ze1, Tryz.underlying3, sz3, by3, ze3, Tryz.underlying4, sz4, by4, ze4, Tryz.underlying9, sz9, by9, ze9, Tryz.underlying22, sz22, by22, ze22, Tryz.underlying23, sz23, by23, ze23, Tryz.underlying25, sz25, by25, ze25, Tryz.underlying27, sz27, by27, ze27, fa27_0, Tryz.underlying29, sz29, by29, ze29, Tryz.underlying31, sz31, by31, ze31, fa31_0, fa31_1, fa31_2, fa31_3, Tryz.underlying33, sz33, by33, ze33, Tryz.underlying34, sz34, by34, ze34, Tryz.underlying39, sz39, by39, ze39, fa39_0, fa39_1, fa39_2, fa39_3, fa39_4, fa39_5, Tryz.underlying46, sz46, by46, ze46, Tryz.underlying57, sz57, by57, ze57, fa57_0, fa57_1, fa57_2, fa57_3, fa57_4, fa57_5, fa57_6, fa57_7, Tryz.underlying72, sz72, by72, ze72, fa72_0, fa72_1, planE9, go_sem, ↓reduceIte, reduceCtorEq, Nat.reduceEqDiff, Nat.reduceLT, ↓all_qVz, ↓all_qVz', Int.reduceToNat, Int.reduceLT, Int.reduceLE, Nat.reduceAdd, Nat.reduceLeDiff, Nat.reduceMul, ev_callG, gcallK_b, gcallK_w, callGc_true, callGc_false]
  intro d hd
  rw [Stop_eq]
  have hn : l.length ≤ 10 := by have := hl.1; simp only [arg1] at this; omega
  obtain ⟨A, B, X, Y, r1, r2, r3, r4, rk, r5, r6, lA, lB, lX, lY⟩ := ents_plain (l := l) (c := c) (d := d) hl.2 hn hc hd
  have hcl : (c.cl.length ≤ 5 ∧ ∀ e, e ∈ c.cl → clG e) := ⟨hc.2.2.2.1, hc.2.2.2.2⟩
  have hic : ∀ e, e ∈ c.cl → isCl e := fun e he => (hcl.2 e he).1
  have hdl : (d.cl.length ≤ 5 ∧ ∀ e, e ∈ d.cl → clG e) := ⟨hd.2.2.2.1, hd.2.2.2.2⟩
  have hid : ∀ e, e ∈ d.cl → isCl e := fun e he => (hdl.2 e he).1
  obtain ⟨i, u, p, cl⟩ := c
  obtain ⟨i', u', p', cl'⟩ := d
  simp only at r1 r2 r3 r4 hcl hic hdl hid
  have nf : decide False = false := by simp
  simp (config := {maxSteps := 1000000}) only [r1, r2, r3, r4, k_entL_10, closS, on_piip_eq, k_entL_16, rlsS, on_ll_eq, k_entL_17, rbalS, on_pii_eq, Θ9, Θ8, Θ7, Θ6, Θ5, Θ4, Θ3, Θ2, Θ1, Ψ1, newS, preT_eq, preL_eq, preC_eq, okQ, arg1, arg2, arg3, intV, lgV, cloV, lgOf_agg, cloOf_agg, map_psOf, map_balOf, Nat.reduceBEq, psiNew_eq, List.length_map, List.take_succ_cons, List.take_nil, Tryz.underlying1, sz1, by1, ze1, Tryz.underlying3, sz3, by3, ze3, Tryz.underlying4, sz4, by4, ze4, Tryz.underlying9, sz9, by9, ze9, Tryz.underlying22, sz22, by22, ze22, Tryz.underlying23, sz23, by23, ze23, Tryz.underlying25, sz25, by25, ze25, Tryz.underlying27, sz27, by27, ze27, fa27_0, Tryz.underlying29, sz29, by29, ze29, Tryz.underlying31, sz31, by31, ze31, fa31_0, fa31_1, fa31_2, fa31_3, Tryz.underlying33, sz33, by33, ze33, Tryz.underlying34, sz34, by34, ze34, Tryz.underlying39, sz39, by39, ze39, fa39_0, fa39_1, fa39_2, fa39_3, fa39_4, fa39_5, Tryz.underlying46, sz46, by46, ze46, Tryz.underlying57, sz57, by57, ze57, fa57_0, fa57_1, fa57_2, fa57_3, fa57_4, fa57_5, fa57_6, fa57_7, Tryz.underlying72, sz72, by72, ze72, fa72_0, fa72_1, planE9, go_sem, ↓reduceIte, reduceCtorEq, Nat.reduceEqDiff, Nat.reduceLT, ↓all_qV, Int.reduceToNat, Int.reduceLT, Int.reduceLE, Nat.reduceAdd, Nat.reduceLeDiff, Nat.reduceMul, ev_callG, gcallK_b, gcallK_w, callGc_true, callGc_false]
  refine ⟨⟨⟨okL1, okC4⟩, ⟨l, rfl, by omega⟩, ⟨⟨i, u, p, cl⟩, rfl, hic, by simp only; omega⟩, by omega⟩, ⟨⟨okL1, okC4⟩, ⟨A, rfl, by omega⟩, ⟨⟨i', u', p', cl'⟩, rfl, hid, by simp only; omega⟩, by omega⟩, ⟨⟨okL1, okC4⟩, ⟨l, rfl, by omega⟩, ⟨⟨i', u', p', cl'⟩, rfl, hid, by simp only; omega⟩, by omega⟩, ⟨⟨okL1, okC4⟩, ⟨X, rfl, by omega⟩, ⟨⟨i, u, p, cl⟩, rfl, hic, by simp only; omega⟩, by omega⟩, ?_⟩
  refine ⟨fun h9 => (by cases h9), fun _ => ?_⟩
  refine AWp.here (T := plan0) (α := Unit) (fun _ => ([(4, .ptr 4 0), (7, .ptr 7 0), (9, .ptr 9 0), (11, .ptr 11 0), (13, .ptr 13 0)], [(4, .cells [.pv (.sl (l.map psV))]), (7, .cells [.pv (.sl (A.map psV))]), (9, .cells [.pv (.sl (B.map psV))]), (11, .cells [.pv (.sl (X.map psV))]), (13, .cells [.pv (.sl (Y.map psV))])])) (fun _ => True) ⟨(), trivial, ⟨by simp [fitR, look], by simp [fitH, hget], rfl, rfl, rfl⟩⟩ ?_
  intro _ _
  simp (config := {maxSteps := 1000000}) only [plan0, go_sem, ↓reduceIte, reduceCtorEq, Nat.reduceEqDiff, Nat.reduceLT, ↓all_qV, Int.reduceToNat, Int.reduceLT, Int.reduceLE, Nat.reduceAdd, Nat.reduceLeDiff, Nat.reduceMul, ev_callG, gcallK_b, gcallK_w, callGc_true, callGc_false]
  refine AWp.loop (T := plan0) (α := Nat) (fun k => ([(4, .ptr 4 0), (7, .ptr 7 0), (9, .ptr 9 0), (11, .ptr 11 0), (13, .ptr 13 0), (15, .pv (.int .i64 k))], [(4, .cells [.pv (.sl (l.map psV))]), (7, .cells [.pv (.sl (A.map psV))]), (9, .cells [.pv (.sl (B.map psV))]), (11, .cells [.pv (.sl (X.map psV))]), (13, .cells [.pv (.sl (Y.map psV))])])) (fun k => 1 ≤ k ∧ k ≤ 3) (fun k => 3 - k)
    ⟨1, ⟨Nat.le_refl _, by decide⟩, ⟨by simp [fitR, look], by simp [fitH, hget], rfl, rfl, rfl⟩⟩ ?_
  rintro k ⟨k1, k2⟩
  have hi1 : IntKind.i64.wrap ((k : Int) + 1) = ((k + 1 : Nat) : Int) := by rw [i64_in _ (by omega)]; omega
  have bl := fun (l : List Pst) (en d : Int) => bals_len (l := l) (en := en) (d := d)
  by_cases hlt : k ≤ 2
  · have c0 : decide ((k : Int) ≤ 2) = true := by simp; omega
    have hbk := rk (k : Int) (by omega)
    have dT : decide (balsF Y (k : Int) 719 = balsF Y (k : Int) 719) = true := decide_eq_true rfl
    simp (config := {maxSteps := 1000000}) only [c0, hi1, hbk, decide_true, k_entL_10, closS, on_piip_eq, k_entL_16, rlsS, on_ll_eq, k_entL_17, rbalS, on_pii_eq, Θ9, Θ8, Θ7, Θ6, Θ5, Θ4, Θ3, Θ2, Θ1, Ψ1, newS, preT_eq, preL_eq, preC_eq, okQ, arg1, arg2, arg3, intV, lgV, cloV, lgOf_agg, cloOf_agg, map_psOf, map_balOf, Nat.reduceBEq, psiNew_eq, List.length_map, List.take_succ_cons, List.take_nil, Tryz.underlying3, Tryz.underlying4, sz3, sz27, Tryz.underlying27, plan0, go_sem, ↓reduceIte, reduceCtorEq, Nat.reduceEqDiff, Nat.reduceLT, ↓all_qV, Int.reduceToNat, Int.reduceLT, Int.reduceLE, Nat.reduceAdd, Nat.reduceLeDiff, Nat.reduceMul, ev_callG, gcallK_b, gcallK_w, callGc_true, callGc_false]
    refine ⟨by kernel_rfl, ?_⟩
    and_intros
    all_goals try first | exact okL1 | exact ⟨_, rfl, by omega⟩ | exact ⟨_, rfl⟩ | exact Nat.le_trans (bl _ _ _) (by decide) | (intro h9; cases h9; done)
    exact ⟨k + 1, ⟨by omega, by omega⟩, by omega, ⟨by simp [fitR, look], by simp [fitH, hget], rfl, rfl, rfl⟩⟩
  · have c0 : decide ((k : Int) ≤ 2) = false := by simp; omega
    simp (config := {maxSteps := 1000000}) only [c0, r5, r6, decide_true, AJ_sane, saneS, on__eq, k_entL_10, closS, on_piip_eq, k_entL_16, rlsS, on_ll_eq, k_entL_17, rbalS, on_pii_eq, Θ9, Θ8, Θ7, Θ6, Θ5, Θ4, Θ3, Θ2, Θ1, Ψ1, newS, preT_eq, preL_eq, preC_eq, okQ, arg1, arg2, arg3, intV, lgV, cloV, lgOf_agg, cloOf_agg, map_psOf, map_balOf, Nat.reduceBEq, psiNew_eq, List.length_map, List.take_succ_cons, List.take_nil, Tryz.underlying1, sz1, by1, ze1, Tryz.underlying3, sz3, by3, ze3, Tryz.underlying4, sz4, by4, ze4, Tryz.underlying9, sz9, by9, ze9, Tryz.underlying22, sz22, by22, ze22, Tryz.underlying23, sz23, by23, ze23, Tryz.underlying25, sz25, by25, ze25, Tryz.underlying27, sz27, by27, ze27, fa27_0, Tryz.underlying29, sz29, by29, ze29, Tryz.underlying31, sz31, by31, ze31, fa31_0, fa31_1, fa31_2, fa31_3, Tryz.underlying33, sz33, by33, ze33, Tryz.underlying34, sz34, by34, ze34, Tryz.underlying39, sz39, by39, ze39, fa39_0, fa39_1, fa39_2, fa39_3, fa39_4, fa39_5, Tryz.underlying46, sz46, by46, ze46, Tryz.underlying57, sz57, by57, ze57, fa57_0, fa57_1, fa57_2, fa57_3, fa57_4, fa57_5, fa57_6, fa57_7, Tryz.underlying72, sz72, by72, ze72, fa72_0, fa72_1, plan0, go_sem, ↓reduceIte, reduceCtorEq, Nat.reduceEqDiff, Nat.reduceLT, ↓all_qV, Int.reduceToNat, Int.reduceLT, Int.reduceLE, Nat.reduceAdd, Nat.reduceLeDiff, Nat.reduceMul, ev_callG, gcallK_b, gcallK_w, callGc_true, callGc_false]
    refine ⟨by kernel_rfl, ?_⟩
    and_intros
    all_goals try first | exact okL1 | exact ⟨_, rfl, by omega⟩ | exact ⟨_, rfl⟩ | exact Nat.le_trans (bl _ _ _) (by decide) | rfl
end Go.AM
