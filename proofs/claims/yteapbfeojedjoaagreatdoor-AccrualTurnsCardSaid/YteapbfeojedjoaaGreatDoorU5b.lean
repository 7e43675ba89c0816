/-
  A part of a proof: see the last text of this claim for what is proved.
-/
import Derived.Test.YteapbfeojedjoaaGreatDoorU5x
import Derived.Test.YteapbfeojedjoaaGreatDoorZMa
/-! AccrualTurns -/
namespace Go.AM
open Go Go.Proofs Go.IntWalk
set_option maxRecDepth 100000
set_option maxHeartbeats 4000000
set_option linter.unusedSimpArgs false
set_option linter.unusedVariables false
def planT2 : Plan := { keep := fun _ => none, cut := fun _ => false, stop := fun i => i == 2 }
def planT7 : Plan := { keep := fun _ => none, cut := fun _ => false, stop := fun i => i == 7 }
noncomputable def trnLS : PSpec := on_l (fun es => es.length ≤ 9223372036854775807 ∧ ∀ e, e ∈ es → isI e) (fun _ => .bool true)
theorem k_trnL_10 {args : List PV} : AL 10 args = closS args := rfl
theorem k_trnL_13 {args : List PV} : AL 13 args = rofS args := rfl
theorem k_trnL_14 {args : List PV} : AL 14 args = rchkS args := rfl
theorem k_trnL_18 {args : List PV} : AL 18 args = reoS args := rfl
theorem AL_sane {args : List PV} : AL 15 args = saneS args := rfl
theorem w_trnLS : PSound GG 5 trnLS := by
  refine PSound.of_wpc (C := cxQ Tryz.prog AL Θ9 Ψ1 [] [] 67) (T := planT2) Tryz.func5 rfl rfl rfl (Fit.all (G := GG) hAL hΘ9 hΨ1 mixed) (fun args h => ?_)
  unfold trnLS at h
  obtain ⟨es0, rfl, he1, he2⟩ := on_l_inv h
  refine ⟨by simp [cxQ], ?_⟩
  simp only [trnLS, on_l_eq, Θ9, Θ8, Θ7, Θ6, Θ5, Θ4, Θ3, Θ2, Θ1, Ψ1, newS, preT_eq, preL_eq, preC_eq, okQ, arg1, arg2, arg3, intV, lgV, cloV, lgOf_agg, cloOf_agg, map_psOf, map_balOf, Nat.reduceBEq, psiNew_eq, List.length_map, List.take_succ_cons, List.take_nil, Tryz.underlying1, sz1, by1, ze1, Tryz.underlying3, sz3, by3, ze3, Tryz.underlying4, sz4, by4, ze4, Tryz.underlying9, sz9, by9, ze9, Tryz.underlying22, sz22, by22, ze22, Tryz.underlying23, sz23, by23, ze23, Tryz.underlying25, sz25, by25, ze25, Tryz.underlying27, sz27, by27, ze27, fa27_0, Tryz.underlying29, sz29, by29, ze29, Tryz.underlying31, sz31, by31, ze31, fa31_0, fa31_1, fa31_2, fa31_3, Tryz.underlying33, sz33, by33, ze33, Tryz.underlying34, sz34, by34, ze34, Tryz.underlying39, sz39, by39, ze39, fa39_0, fa39_1, fa39_2, fa39_3, fa39_4, fa39_5, Tryz.underlying49, sz49, by49, ze49, Tryz.underlying50, sz50, by50, ze50, Tryz.underlying57, sz57, by57, ze57, fa57_0, fa57_1, fa57_2, fa57_3, fa57_4, fa57_5, fa57_6, fa57_7, Tryz.f5, argL, planT2, go_sem, ↓reduceIte, reduceCtorEq, Nat.reduceEqDiff, Nat.reduceLT, ↓all_qVz, ↓all_qVz', Int.reduceToNat, Int.reduceLT, Int.reduceLE, Nat.reduceAdd, Nat.reduceLeDiff, Nat.reduceMul, ev_callG, gcallK_b, gcallK_w, callGc_true, callGc_false]
  refine ⟨⟨he1, he2⟩, ?_⟩
  refine AWp.here (T := planT7) (α := Unit) (fun _ => ([(2, .pv (.bool false)), (3, .ptr 15 0)], [(15, .obj Tp)])) (fun _ => True) ⟨(), trivial, ⟨by simp [fitR, look], by simp [fitH, hget], rfl, rfl, rfl⟩⟩ ?_
  intro _ _
  simp (config := {maxSteps := 1000000}) only [Θ9, Θ8, Θ7, Θ6, Θ5, Θ4, Θ3, Θ2, Θ1, Ψ1, newS, preT_eq, preL_eq, preC_eq, okQ, arg1, arg2, arg3, intV, lgV, cloV, lgOf_agg, cloOf_agg, map_psOf, map_balOf, Nat.reduceBEq, psiNew_eq, List.length_map, List.take_succ_cons, List.take_nil, Tryz.underlying1, sz1, by1, ze1, Tryz.underlying3, sz3, by3, ze3, Tryz.underlying4, sz4, by4, ze4, Tryz.underlying9, sz9, by9, ze9, Tryz.underlying22, sz22, by22, ze22, Tryz.underlying23, sz23, by23, ze23, Tryz.underlying25, sz25, by25, ze25, Tryz.underlying27, sz27, by27, ze27, fa27_0, Tryz.underlying29, sz29, by29, ze29, Tryz.underlying31, sz31, by31, ze31, fa31_0, fa31_1, fa31_2, fa31_3, Tryz.underlying33, sz33, by33, ze33, Tryz.underlying34, sz34, by34, ze34, Tryz.underlying39, sz39, by39, ze39, fa39_0, fa39_1, fa39_2, fa39_3, fa39_4, fa39_5, Tryz.underlying49, sz49, by49, ze49, Tryz.underlying50, sz50, by50, ze50, Tryz.underlying57, sz57, by57, ze57, fa57_0, fa57_1, fa57_2, fa57_3, fa57_4, fa57_5, fa57_6, fa57_7, planT7, go_sem, ↓reduceIte, reduceCtorEq, Nat.reduceEqDiff, Nat.reduceLT, ↓all_qVz, ↓all_qVz', Int.reduceToNat, Int.reduceLT, Int.reduceLE, Nat.reduceAdd, Nat.reduceLeDiff, Nat.reduceMul, ev_callG, gcallK_b, gcallK_w, callGc_true, callGc_false]
  intro l hl
  rw [Stop_eq]
  simp (config := {maxSteps := 1000000}) only [Θ9, Θ8, Θ7, Θ6, Θ5, Θ4, Θ3, Θ2, Θ1, Ψ1, newS, preT_eq, preL_eq, preC_eq, okQ, arg1, arg2, arg3, intV, lgV, cloV, lgOf_agg, cloOf_agg, map_psOf, map_balOf, Nat.reduceBEq, psiNew_eq, List.length_map, List.take_succ_cons, List.take_nil, Tryz.underlying1, sz1, by1, ze1, Tryz.underlying3, sz3, by3, ze3, Tryz.underlying4, sz4, by4, ze4, Tryz.underlying9, sz9, by9, ze9, Tryz.underlying22, sz22, by22, ze22, Tryz.underlying23, sz23, by23, ze23, Tryz.underlying25, sz25, by25, ze25, Tryz.underlying27, sz27, by27, ze27, fa27_0, Tryz.underlying29, sz29, by29, ze29, Tryz.underlying31, sz31, by31, ze31, fa31_0, fa31_1, fa31_2, fa31_3, Tryz.underlying33, sz33, by33, ze33, Tryz.underlying34, sz34, by34, ze34, Tryz.underlying39, sz39, by39, ze39, fa39_0, fa39_1, fa39_2, fa39_3, fa39_4, fa39_5, Tryz.underlying49, sz49, by49, ze49, Tryz.underlying50, sz50, by50, ze50, Tryz.underlying57, sz57, by57, ze57, fa57_0, fa57_1, fa57_2, fa57_3, fa57_4, fa57_5, fa57_6, fa57_7, planT7, go_sem, ↓reduceIte, reduceCtorEq, Nat.reduceEqDiff, Nat.reduceLT, ↓all_qVz, ↓all_qVz', Int.reduceToNat, Int.reduceLT, Int.reduceLE, Nat.reduceAdd, Nat.reduceLeDiff, Nat.reduceMul, ev_callG, gcallK_b, gcallK_w, callGc_true, callGc_false]
  intro c hc
  rw [Stop_eq]
  have hn : l.length ≤ 10 := by have := hl.1; simp only [arg1] at this; omega
  obtain ⟨X, Y, r1, r2, r3, r4, lX, lY⟩ := turns_plain (l := l) (c := c) hl.2 hn hc
  have hcl : (c.cl.length ≤ 5 ∧ ∀ e, e ∈ c.cl → clG e) := ⟨hc.2.2.2.1, hc.2.2.2.2⟩
  have hic : ∀ e, e ∈ c.cl → isCl e := fun e he => (hcl.2 e he).1
  obtain ⟨i, u, p, cl⟩ := c
  simp only at r1 hcl hic
  simp (config := {maxSteps := 1000000}) only [r1, r2, r3, k_trnL_10, closS, on_piip_eq, k_trnL_13, rofS, on_piii_eq, k_trnL_14, rchkS, on_p_eq, k_trnL_18, reoS, on_pii_eq, Θ9, Θ8, Θ7, Θ6, Θ5, Θ4, Θ3, Θ2, Θ1, Ψ1, newS, preT_eq, preL_eq, preC_eq, okQ, arg1, arg2, arg3, intV, lgV, cloV, lgOf_agg, cloOf_agg, map_psOf, map_balOf, Nat.reduceBEq, psiNew_eq, List.length_map, List.take_succ_cons, List.take_nil, Tryz.underlying1, sz1, by1, ze1, Tryz.underlying3, sz3, by3, ze3, Tryz.underlying4, sz4, by4, ze4, Tryz.underlying9, sz9, by9, ze9, Tryz.underlying22, sz22, by22, ze22, Tryz.underlying23, sz23, by23, ze23, Tryz.underlying25, sz25, by25, ze25, Tryz.underlying27, sz27, by27, ze27, fa27_0, Tryz.underlying29, sz29, by29, ze29, Tryz.underlying31, sz31, by31, ze31, fa31_0, fa31_1, fa31_2, fa31_3, Tryz.underlying33, sz33, by33, ze33, Tryz.underlying34, sz34, by34, ze34, Tryz.underlying39, sz39, by39, ze39, fa39_0, fa39_1, fa39_2, fa39_3, fa39_4, fa39_5, Tryz.underlying49, sz49, by49, ze49, Tryz.underlying50, sz50, by50, ze50, Tryz.underlying57, sz57, by57, ze57, fa57_0, fa57_1, fa57_2, fa57_3, fa57_4, fa57_5, fa57_6, fa57_7, planT7, go_sem, ↓reduceIte, reduceCtorEq, Nat.reduceEqDiff, Nat.reduceLT, ↓all_qV, Int.reduceToNat, Int.reduceLT, Int.reduceLE, Nat.reduceAdd, Nat.reduceLeDiff, Nat.reduceMul, ev_callG, gcallK_b, gcallK_w, callGc_true, callGc_false]
  refine ⟨⟨⟨okL1, okC4⟩, ⟨l, rfl, by omega⟩, ⟨⟨i, u, p, cl⟩, rfl, hic, by simp only; omega⟩, by omega⟩, ⟨okL1, X, rfl, by omega⟩, ?_⟩
  refine ⟨fun _ => ⟨okL1, Y, rfl, by omega⟩, fun h9 => (by cases h9), fun _ => ?_⟩
  refine AWp.here (T := plan0) (α := Unit) (fun _ => ([(4, .ptr 4 0), (8, .ptr 8 0)], [(4, .cells [.pv (.sl (l.map psV))]), (8, .cells [.pv (.sl (Y.map psV))])])) (fun _ => True) ⟨(), trivial, ⟨by simp [fitR, look], by simp [fitH, hget], rfl, rfl, rfl⟩⟩ ?_
  intro _ _
  simp (config := {maxSteps := 1000000}) only [Tryz.underlying1, sz1, by1, ze1, Tryz.underlying3, sz3, by3, ze3, Tryz.underlying4, sz4, by4, ze4, Tryz.underlying9, sz9, by9, ze9, Tryz.underlying22, sz22, by22, ze22, Tryz.underlying23, sz23, by23, ze23, Tryz.underlying25, sz25, by25, ze25, Tryz.underlying27, sz27, by27, ze27, fa27_0, Tryz.underlying29, sz29, by29, ze29, Tryz.underlying31, sz31, by31, ze31, fa31_0, fa31_1, fa31_2, fa31_3, Tryz.underlying33, sz33, by33, ze33, Tryz.underlying34, sz34, by34, ze34, Tryz.underlying39, sz39, by39, ze39, fa39_0, fa39_1, fa39_2, fa39_3, fa39_4, fa39_5, Tryz.underlying49, sz49, by49, ze49, Tryz.underlying50, sz50, by50, ze50, Tryz.underlying57, sz57, by57, ze57, fa57_0, fa57_1, fa57_2, fa57_3, fa57_4, fa57_5, fa57_6, fa57_7, plan0, go_sem, ↓reduceIte, reduceCtorEq, Nat.reduceEqDiff, Nat.reduceLT, ↓all_qV, Int.reduceToNat, Int.reduceLT, Int.reduceLE, Nat.reduceAdd, Nat.reduceLeDiff, Nat.reduceMul, ev_callG, gcallK_b, gcallK_w, callGc_true, callGc_false]
  refine AWp.loop (T := plan0) (α := Nat) (fun k => ([(4, .ptr 4 0), (8, .ptr 8 0), (42, .pv (.agg [.int .i64 220, .int .i64 210, .int .i64 130])), (43, .pv (.int .i64 k))], [(4, .cells [.pv (.sl (l.map psV))]), (8, .cells [.pv (.sl (Y.map psV))])])) (fun k => k ≤ 3) (fun k => 3 - k)
    ⟨0, Nat.zero_le _, ⟨by simp [fitR, look], by simp [fitH, hget], rfl, rfl, rfl⟩⟩ ?_
  intro k hk
  have hi1 : IntKind.i64.wrap ((k : Int) + 1) = ((k + 1 : Nat) : Int) := by rw [i64_in _ (by omega)]; omega
  by_cases hlt : k < 3
  · have c0 : decide ((k : Int) < 3) = true := by simp; omega
    obtain ⟨a, e1, ha⟩ : ∃ a : Int, [PV.int .i64 220, .int .i64 210, .int .i64 130].getD k default = .int .i64 a ∧ (a = 220 ∨ a = 210 ∨ a = 130 ∨ a = 520 ∨ a = 510) := by
      have : k = 0 ∨ k = 1 ∨ k = 2 := by omega
      rcases this with rfl | rfl | rfl
      · exact ⟨220, rfl, by omega⟩
      · exact ⟨210, rfl, by omega⟩
      · exact ⟨130, rfl, by omega⟩
    have hr := r4 a ha
    have hbq : (rofF l 1 a 720 != rofF l 1 a 720) = false := by simp
    simp (config := {maxSteps := 1000000}) only [c0, e1, hi1, hr, hbq, indexA, Int.toNat_natCast, Nat.mul_one, k_trnL_10, closS, on_piip_eq, k_trnL_13, rofS, on_piii_eq, k_trnL_14, rchkS, on_p_eq, k_trnL_18, reoS, on_pii_eq, Θ9, Θ8, Θ7, Θ6, Θ5, Θ4, Θ3, Θ2, Θ1, Ψ1, newS, preT_eq, preL_eq, preC_eq, okQ, arg1, arg2, arg3, intV, lgV, cloV, lgOf_agg, cloOf_agg, map_psOf, map_balOf, Nat.reduceBEq, psiNew_eq, List.length_map, List.take_succ_cons, List.take_nil, Tryz.underlying3, sz3, Tryz.underlying49, sz49, Tryz.underlying27, sz27, fa27_0, plan0, go_sem, ↓reduceIte, reduceCtorEq, Nat.reduceEqDiff, Nat.reduceLT, ↓all_qV, Int.reduceToNat, Int.reduceLT, Int.reduceLE, Nat.reduceAdd, Nat.reduceLeDiff, Nat.reduceMul, ev_callG, gcallK_b, gcallK_w, callGc_true, callGc_false]
    refine ⟨⟨by omega, by omega, by omega⟩, by kernel_rfl, ?_⟩
    and_intros
    all_goals try first | exact okL1 | exact ⟨_, rfl, by omega⟩
    exact ⟨k + 1, by omega, by omega, ⟨by simp [fitR, look], by simp [fitH, hget], rfl, rfl, rfl⟩⟩
  · have c0 : decide ((k : Int) < 3) = false := by simp; omega
    simp (config := {maxSteps := 1000000}) only [c0, Θ9, Θ8, Θ7, Θ6, Θ5, Θ4, Θ3, Θ2, Θ1, Ψ1, newS, preT_eq, preL_eq, preC_eq, okQ, arg1, arg2, arg3, intV, lgV, cloV, lgOf_agg, cloOf_agg, map_psOf, map_balOf, Nat.reduceBEq, psiNew_eq, List.length_map, List.take_succ_cons, List.take_nil, Tryz.underlying1, sz1, by1, ze1, Tryz.underlying3, sz3, by3, ze3, Tryz.underlying4, sz4, by4, ze4, Tryz.underlying9, sz9, by9, ze9, Tryz.underlying22, sz22, by22, ze22, Tryz.underlying23, sz23, by23, ze23, Tryz.underlying25, sz25, by25, ze25, Tryz.underlying27, sz27, by27, ze27, fa27_0, Tryz.underlying29, sz29, by29, ze29, Tryz.underlying31, sz31, by31, ze31, fa31_0, fa31_1, fa31_2, fa31_3, Tryz.underlying33, sz33, by33, ze33, Tryz.underlying34, sz34, by34, ze34, Tryz.underlying39, sz39, by39, ze39, fa39_0, fa39_1, fa39_2, fa39_3, fa39_4, fa39_5, Tryz.underlying49, sz49, by49, ze49, Tryz.underlying50, sz50, by50, ze50, Tryz.underlying57, sz57, by57, ze57, fa57_0, fa57_1, fa57_2, fa57_3, fa57_4, fa57_5, fa57_6, fa57_7, plan0, go_sem, ↓reduceIte, reduceCtorEq, Nat.reduceEqDiff, Nat.reduceLT, ↓all_qV, Int.reduceToNat, Int.reduceLT, Int.reduceLE, Nat.reduceAdd, Nat.reduceLeDiff, Nat.reduceMul, ev_callG, gcallK_b, gcallK_w, callGc_true, callGc_false]
    refine AWp.loop (T := plan0) (α := Nat) (fun k => ([(4, .ptr 4 0), (8, .ptr 8 0), (54, .pv (.agg [.int .i64 520, .int .i64 510])), (55, .pv (.int .i64 k))], [(4, .cells [.pv (.sl (l.map psV))]), (8, .cells [.pv (.sl (Y.map psV))])])) (fun k => k ≤ 2) (fun k => 2 - k)
      ⟨0, Nat.zero_le _, ⟨by simp [fitR, look], by simp [fitH, hget], rfl, rfl, rfl⟩⟩ ?_
    intro k hk
    have hi1 : IntKind.i64.wrap ((k : Int) + 1) = ((k + 1 : Nat) : Int) := by rw [i64_in _ (by omega)]; omega
    by_cases hlt : k < 2
    · have c0 : decide ((k : Int) < 2) = true := by simp; omega
      obtain ⟨a, e1, ha⟩ : ∃ a : Int, [PV.int .i64 520, .int .i64 510].getD k default = .int .i64 a ∧ (a = 220 ∨ a = 210 ∨ a = 130 ∨ a = 520 ∨ a = 510) := by
        have : k = 0 ∨ k = 1 := by omega
        rcases this with rfl | rfl
        · exact ⟨520, rfl, by omega⟩
        · exact ⟨510, rfl, by omega⟩
      have hr := r4 a ha
      have hbq : (rofF l 1 a 720 != rofF l 1 a 720) = false := by simp
      simp (config := {maxSteps := 1000000}) only [c0, e1, hi1, hr, hbq, indexA, Int.toNat_natCast, Nat.mul_one, k_trnL_10, closS, on_piip_eq, k_trnL_13, rofS, on_piii_eq, k_trnL_14, rchkS, on_p_eq, k_trnL_18, reoS, on_pii_eq, Θ9, Θ8, Θ7, Θ6, Θ5, Θ4, Θ3, Θ2, Θ1, Ψ1, newS, preT_eq, preL_eq, preC_eq, okQ, arg1, arg2, arg3, intV, lgV, cloV, lgOf_agg, cloOf_agg, map_psOf, map_balOf, Nat.reduceBEq, psiNew_eq, List.length_map, List.take_succ_cons, List.take_nil, Tryz.underlying3, sz3, Tryz.underlying50, sz50, Tryz.underlying27, sz27, fa27_0, plan0, go_sem, ↓reduceIte, reduceCtorEq, Nat.reduceEqDiff, Nat.reduceLT, ↓all_qV, Int.reduceToNat, Int.reduceLT, Int.reduceLE, Nat.reduceAdd, Nat.reduceLeDiff, Nat.reduceMul, ev_callG, gcallK_b, gcallK_w, callGc_true, callGc_false]
      refine ⟨⟨by omega, by omega, by omega⟩, by kernel_rfl, ?_⟩
      and_intros
      all_goals try first | exact okL1 | exact ⟨_, rfl, by omega⟩
      exact ⟨k + 1, by omega, by omega, ⟨by simp [fitR, look], by simp [fitH, hget], rfl, rfl, rfl⟩⟩
    · have c0 : decide ((k : Int) < 2) = false := by simp; omega
      simp (config := {maxSteps := 1000000}) only [c0, AL_sane, saneS, on__eq, Θ9, Θ8, Θ7, Θ6, Θ5, Θ4, Θ3, Θ2, Θ1, Ψ1, newS, preT_eq, preL_eq, preC_eq, okQ, arg1, arg2, arg3, intV, lgV, cloV, lgOf_agg, cloOf_agg, map_psOf, map_balOf, Nat.reduceBEq, psiNew_eq, List.length_map, List.take_succ_cons, List.take_nil, Tryz.underlying1, sz1, by1, ze1, Tryz.underlying3, sz3, by3, ze3, Tryz.underlying4, sz4, by4, ze4, Tryz.underlying9, sz9, by9, ze9, Tryz.underlying22, sz22, by22, ze22, Tryz.underlying23, sz23, by23, ze23, Tryz.underlying25, sz25, by25, ze25, Tryz.underlying27, sz27, by27, ze27, fa27_0, Tryz.underlying29, sz29, by29, ze29, Tryz.underlying31, sz31, by31, ze31, fa31_0, fa31_1, fa31_2, fa31_3, Tryz.underlying33, sz33, by33, ze33, Tryz.underlying34, sz34, by34, ze34, Tryz.underlying39, sz39, by39, ze39, fa39_0, fa39_1, fa39_2, fa39_3, fa39_4, fa39_5, Tryz.underlying49, sz49, by49, ze49, Tryz.underlying50, sz50, by50, ze50, Tryz.underlying57, sz57, by57, ze57, fa57_0, fa57_1, fa57_2, fa57_3, fa57_4, fa57_5, fa57_6, fa57_7, plan0, go_sem, ↓reduceIte, reduceCtorEq, Nat.reduceEqDiff, Nat.reduceLT, ↓all_qV, Int.reduceToNat, Int.reduceLT, Int.reduceLE, Nat.reduceAdd, Nat.reduceLeDiff, Nat.reduceMul, ev_callG, gcallK_b, gcallK_w, callGc_true, callGc_false]
end Go.AM
