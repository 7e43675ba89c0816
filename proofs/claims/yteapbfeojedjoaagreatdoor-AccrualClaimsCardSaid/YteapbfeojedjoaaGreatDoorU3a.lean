/-
  A part of a proof: see the last text of this claim for what is proved.
-/
import Derived.Test.YteapbfeojedjoaaGreatDoorU3p
import Derived.Test.YteapbfeojedjoaaGreatDoorZMa
/-! AccrualClaims -/
namespace Go.AM
open Go Go.Proofs Go.IntWalk
set_option maxRecDepth 100000
set_option maxHeartbeats 4000000
set_option linter.unusedSimpArgs false
set_option linter.unusedVariables false
def planA : Plan := { keep := fun _ => none, cut := fun _ => false, stop := fun i => i == 2 }
noncomputable def clmLS : PSpec := on_l (fun es => es.length ≤ 9223372036854775807 ∧ ∀ e, e ∈ es → isI e) (fun _ => .bool true)
theorem k_clmL_10 {args : List PV} : AH 10 args = closS args := rfl
theorem k_clmL_12 {args : List PV} : AH 12 args = rpsS args := rfl
theorem k_clmL_13 {args : List PV} : AH 13 args = rofS args := rfl
theorem k_clmL_14 {args : List PV} : AH 14 args = rchkS args := rfl
theorem AH_sane {args : List PV} : AH 15 args = saneS args := rfl
theorem AH_prov {args : List PV} : AH 11 args = provS args := rfl
theorem w_clmLS : PSound GG 3 clmLS := by
  refine PSound.of_wpc (C := cxQ Tryz.prog AH Θ9 Ψ1 [] [] 96) (T := planA) Tryz.func3 rfl rfl rfl (Fit.all (G := GG) hAH hΘ9 hΨ1 mixed) (fun args h => ?_)
  unfold clmLS at h
  obtain ⟨es0, rfl, he1, he2⟩ := on_l_inv h
  refine ⟨by simp [cxQ], ?_⟩
  simp only [clmLS, on_l_eq, Θ9, Θ8, Θ7, Θ6, Θ5, Θ4, Θ3, Θ2, Θ1, Ψ1, newS, preT_eq, preL_eq, preC_eq, okQ, arg1, arg2, arg3, intV, lgV, cloV, lgOf_agg, cloOf_agg, map_psOf, Nat.reduceBEq, psiNew_eq, List.length_map, List.take_succ_cons, List.take_nil, Tryz.underlying1, sz1, by1, ze1, Tryz.underlying3, sz3, by3, ze3, Tryz.underlying4, sz4, by4, ze4, Tryz.underlying9, sz9, by9, ze9, Tryz.underlying22, sz22, by22, ze22, Tryz.underlying23, sz23, by23, ze23, Tryz.underlying25, sz25, by25, ze25, Tryz.underlying27, sz27, by27, ze27, fa27_0, Tryz.underlying29, sz29, by29, ze29, Tryz.underlying31, sz31, by31, ze31, fa31_0, fa31_1, fa31_2, fa31_3, Tryz.underlying33, sz33, by33, ze33, Tryz.underlying34, sz34, by34, ze34, Tryz.underlying36, sz36, by36, ze36, Tryz.underlying39, sz39, by39, ze39, fa39_0, fa39_1, fa39_2, fa39_3, fa39_4, fa39_5, Tryz.underlying57, sz57, by57, ze57, fa57_0, fa57_1, fa57_2, fa57_3, fa57_4, fa57_5, fa57_6, fa57_7, Tryz.f3, argL, planA, go_sem, ↓reduceIte, reduceCtorEq, Nat.reduceEqDiff, Nat.reduceLT, ↓all_qVz, ↓all_qVz', Int.reduceToNat, Int.reduceLT, Int.reduceLE, Nat.reduceAdd, Nat.reduceLeDiff, Nat.reduceMul, ev_callG, gcallK_b, gcallK_w, callGc_true, callGc_false]
  refine ⟨⟨he1, he2⟩, ?_⟩
  refine AWp.here (T := plan0) (α := Unit) (fun _ => ([(2, .pv (.bool false)), (3, .ptr 16 0)], [(16, .obj Tp)])) (fun _ => True) ⟨(), trivial, ⟨by simp [fitR, look], by simp [fitH, hget], rfl, rfl, rfl⟩⟩ ?_
  intro _ _
  simp (config := {maxSteps := 1000000}) only [Θ9, Θ8, Θ7, Θ6, Θ5, Θ4, Θ3, Θ2, Θ1, Ψ1, newS, preT_eq, preL_eq, preC_eq, okQ, arg1, arg2, arg3, intV, lgV, cloV, lgOf_agg, cloOf_agg, map_psOf, Nat.reduceBEq, psiNew_eq, List.length_map, List.take_succ_cons, List.take_nil, Tryz.underlying1, sz1, by1, ze1, Tryz.underlying3, sz3, by3, ze3, Tryz.underlying4, sz4, by4, ze4, Tryz.underlying9, sz9, by9, ze9, Tryz.underlying22, sz22, by22, ze22, Tryz.underlying23, sz23, by23, ze23, Tryz.underlying25, sz25, by25, ze25, Tryz.underlying27, sz27, by27, ze27, fa27_0, Tryz.underlying29, sz29, by29, ze29, Tryz.underlying31, sz31, by31, ze31, fa31_0, fa31_1, fa31_2, fa31_3, Tryz.underlying33, sz33, by33, ze33, Tryz.underlying34, sz34, by34, ze34, Tryz.underlying36, sz36, by36, ze36, Tryz.underlying39, sz39, by39, ze39, fa39_0, fa39_1, fa39_2, fa39_3, fa39_4, fa39_5, Tryz.underlying57, sz57, by57, ze57, fa57_0, fa57_1, fa57_2, fa57_3, fa57_4, fa57_5, fa57_6, fa57_7, plan0, go_sem, ↓reduceIte, reduceCtorEq, Nat.reduceEqDiff, Nat.reduceLT, ↓all_qVz, ↓all_qVz', Int.reduceToNat, Int.reduceLT, Int.reduceLE, Nat.reduceAdd, Nat.reduceLeDiff, Nat.reduceMul, ev_callG, gcallK_b, gcallK_w, callGc_true, callGc_false]
  intro l hl
  rw [Stop_eq]
  simp (config := {maxSteps := 1000000}) only [Θ9, Θ8, Θ7, Θ6, Θ5, Θ4, Θ3, Θ2, Θ1, Ψ1, newS, preT_eq, preL_eq, preC_eq, okQ, arg1, arg2, arg3, intV, lgV, cloV, lgOf_agg, cloOf_agg, map_psOf, Nat.reduceBEq, psiNew_eq, List.length_map, List.take_succ_cons, List.take_nil, Tryz.underlying1, sz1, by1, ze1, Tryz.underlying3, sz3, by3, ze3, Tryz.underlying4, sz4, by4, ze4, Tryz.underlying9, sz9, by9, ze9, Tryz.underlying22, sz22, by22, ze22, Tryz.underlying23, sz23, by23, ze23, Tryz.underlying25, sz25, by25, ze25, Tryz.underlying27, sz27, by27, ze27, fa27_0, Tryz.underlying29, sz29, by29, ze29, Tryz.underlying31, sz31, by31, ze31, fa31_0, fa31_1, fa31_2, fa31_3, Tryz.underlying33, sz33, by33, ze33, Tryz.underlying34, sz34, by34, ze34, Tryz.underlying36, sz36, by36, ze36, Tryz.underlying39, sz39, by39, ze39, fa39_0, fa39_1, fa39_2, fa39_3, fa39_4, fa39_5, Tryz.underlying57, sz57, by57, ze57, fa57_0, fa57_1, fa57_2, fa57_3, fa57_4, fa57_5, fa57_6, fa57_7, plan0, go_sem, ↓reduceIte, reduceCtorEq, Nat.reduceEqDiff, Nat.reduceLT, ↓all_qVz, ↓all_qVz', Int.reduceToNat, Int.reduceLT, Int.reduceLE, Nat.reduceAdd, Nat.reduceLeDiff, Nat.reduceMul, ev_callG, gcallK_b, gcallK_w, callGc_true, callGc_false]
  intro c hc
  rw [Stop_eq]
  have hn : l.length ≤ 10 := by have := hl.1; simp only [arg1] at this; omega
  obtain ⟨X, n, r1, r2, r3, r4, r5, r6, r7, r8⟩ := claims_plain (l := l) (c := c) hl.2 hn hc
  obtain ⟨i, u, p, cl⟩ := c
  simp only at r1 r2 r3 r4 r5 r7
  simp (config := {maxSteps := 1000000}) only [r1, r2, r3, r4, r5, r6, AH_sane, AH_prov, provS, on_li_eq, k_clmL_10, closS, on_piip_eq, k_clmL_12, rpsS, on_ll_eq, k_clmL_13, rofS, on_piii_eq, k_clmL_14, rchkS, on_p_eq, Θ9, Θ8, Θ7, Θ6, Θ5, Θ4, Θ3, Θ2, Θ1, Ψ1, newS, preT_eq, preL_eq, preC_eq, okQ, arg1, arg2, arg3, intV, lgV, cloV, lgOf_agg, cloOf_agg, map_psOf, Nat.reduceBEq, psiNew_eq, List.length_map, List.take_succ_cons, List.take_nil, Tryz.underlying1, sz1, by1, ze1, Tryz.underlying3, sz3, by3, ze3, Tryz.underlying4, sz4, by4, ze4, Tryz.underlying9, sz9, by9, ze9, Tryz.underlying22, sz22, by22, ze22, Tryz.underlying23, sz23, by23, ze23, Tryz.underlying25, sz25, by25, ze25, Tryz.underlying27, sz27, by27, ze27, fa27_0, Tryz.underlying29, sz29, by29, ze29, Tryz.underlying31, sz31, by31, ze31, fa31_0, fa31_1, fa31_2, fa31_3, Tryz.underlying33, sz33, by33, ze33, Tryz.underlying34, sz34, by34, ze34, Tryz.underlying36, sz36, by36, ze36, Tryz.underlying39, sz39, by39, ze39, fa39_0, fa39_1, fa39_2, fa39_3, fa39_4, fa39_5, Tryz.underlying57, sz57, by57, ze57, fa57_0, fa57_1, fa57_2, fa57_3, fa57_4, fa57_5, fa57_6, fa57_7, plan0, go_sem, ↓reduceIte, reduceCtorEq, Nat.reduceEqDiff, Nat.reduceLT, ↓all_qV, Int.reduceToNat, Int.reduceLT, Int.reduceLE, Nat.reduceAdd, Nat.reduceLeDiff, Nat.reduceMul, ev_callG, gcallK_b, gcallK_w, callGc_true, callGc_false]
  have hcl : (cl.length ≤ 5 ∧ ∀ e, e ∈ cl → clG e) := ⟨hc.2.2.2.1, hc.2.2.2.2⟩
  have hic : ∀ e, e ∈ cl → isCl e := fun e he => (hcl.2 e he).1
  refine ⟨⟨⟨okL1, okC4⟩, ⟨l, rfl, by omega⟩, ⟨⟨i, u, p, cl⟩, rfl, hic, by simp only; omega⟩, by omega⟩, ⟨okL1, ⟨X, rfl, by omega⟩, ⟨⟨0, 0, 0, cl⟩, rfl, hic, by simp only; omega⟩, by omega⟩, ⟨hic, by omega⟩, ?_⟩
  refine AWp.loop (T := plan0) (α := Nat) (fun k => ([(6, .ptr 6 0), (8, .ptr 8 0), (7, .pv (.int .i64 0)), (9, .pv (.int .i64 0)), (10, .pv (.int .i64 n)), (11, .pv (.int .i64 0)), (12, .pv (.int .i64 (sumI ((cl.take k).map openF)))), (42, .pv (.sl cl)), (43, .pv (.int .i64 cl.length)), (44, .pv (.int .i64 k))],
      [(6, .cells [.pv (.sl (X.map psV))]), (8, .cells [.pv (.sl (X.map psV))])])) (fun k => k ≤ cl.length) (fun k => cl.length - k)
    ⟨0, Nat.zero_le _, ⟨by simp [fitR, look, sumI], by simp [fitH, hget], rfl, rfl, rfl⟩⟩ ?_
  intro k hk
  have hi1 : IntKind.i64.wrap ((k : Int) + 1) = ((k + 1 : Nat) : Int) := by rw [i64_in _ (by omega)]; omega
  by_cases hlt : k < cl.length
  · have c0 : decide ((k : Int) < (cl.length : Int)) = true := by simp; omega
    have hm : cl.getD k default ∈ cl := by rw [List.getD_eq_getElem?_getD, List.getElem?_eq_getElem hlt]; exact List.getElem_mem _
    have hnext : sumI ((cl.take (k + 1)).map openF) = sumI ((cl.take k).map openF) + openF (cl.getD k default) := by
      rw [List.take_add_one, List.map_append, sumI_append]
      simp [List.getElem?_eq_getElem hlt, List.getD_eq_getElem?_getD, sumI]
    have hsm := set_open 719 (cl.take k) (fun e he => hcl.2 e (List.mem_of_mem_take he))
    have htl : (cl.take k).length ≤ 5 := by rw [List.length_take]; omega
    have hox := (hcl.2 _ hm).2
    obtain ⟨id, pa, am, op, d, c, hg, _⟩ := hic _ hm
    rw [hg] at hnext hox
    have hnext : sumI ((cl.take (k + 1)).map openF) = sumI ((cl.take k).map openF) + op := hnext
    have hop := (set_le 719 hox.1).1
    have hox : op ≤ 250 := hox.2
    unfold claimV at hg
    generalize sumI ((cl.take k).map openF) = S at hnext hsm ⊢
    have w2 : IntKind.i64.wrap (S + op) = S + op := i64_in _ (by omega)
    simp (config := {maxSteps := 1000000}) only [c0, hg, hi1, w2, Nat.reduceBEq, List.take_succ_cons, List.take_nil, Tryz.underlying29, Tryz.underlying39, sz39, ze39, fa39_3, sz3, Tryz.underlying3, plan0, go_sem, ↓reduceIte, reduceCtorEq, Nat.reduceEqDiff, Nat.reduceLT, ↓all_qV, Int.reduceToNat, Int.reduceLT, Int.reduceLE, Nat.reduceAdd, Nat.reduceLeDiff, Nat.reduceMul, ev_callG, gcallK_b, gcallK_w, callGc_true, callGc_false]
    refine ⟨⟨by omega, by omega⟩, k + 1, by omega, by omega, ⟨by simp [fitR, look, hnext, -List.map_take], by simp [fitH, hget], rfl, rfl, rfl⟩⟩
  · have c0 : decide ((k : Int) < (cl.length : Int)) = false := by simp; omega
    rw [List.take_of_length_le (show cl.length ≤ k by omega)]
    generalize sumI (cl.map openF) = S at r4 r7 ⊢
    have wn : IntKind.i64.wrap (0 - n) = -n := by rw [i64_in _ (by omega)]; omega
    have b1 : (S == S) = true := by simp
    have b2 : (-n == -n) = true := by simp
    have b3 : decide (n ≤ S) = true := decide_eq_true r7.2.1
    simp (config := {maxSteps := 1000000}) only [c0, decide_true, wn, b1, b2, b3, r4, r5, r6, AH_sane, saneS, on__eq, k_clmL_10, closS, on_piip_eq, k_clmL_12, rpsS, on_ll_eq, k_clmL_13, rofS, on_piii_eq, k_clmL_14, rchkS, on_p_eq, Θ9, Θ8, Θ7, Θ6, Θ5, Θ4, Θ3, Θ2, Θ1, Ψ1, newS, preT_eq, preL_eq, preC_eq, okQ, arg1, arg2, arg3, intV, lgV, cloV, lgOf_agg, cloOf_agg, map_psOf, Nat.reduceBEq, psiNew_eq, List.length_map, List.take_succ_cons, List.take_nil, Tryz.underlying1, sz1, by1, ze1, Tryz.underlying3, sz3, by3, ze3, Tryz.underlying4, sz4, by4, ze4, Tryz.underlying9, sz9, by9, ze9, Tryz.underlying22, sz22, by22, ze22, Tryz.underlying23, sz23, by23, ze23, Tryz.underlying25, sz25, by25, ze25, Tryz.underlying27, sz27, by27, ze27, fa27_0, Tryz.underlying29, sz29, by29, ze29, Tryz.underlying31, sz31, by31, ze31, fa31_0, fa31_1, fa31_2, fa31_3, Tryz.underlying33, sz33, by33, ze33, Tryz.underlying34, sz34, by34, ze34, Tryz.underlying36, sz36, by36, ze36, Tryz.underlying39, sz39, by39, ze39, fa39_0, fa39_1, fa39_2, fa39_3, fa39_4, fa39_5, Tryz.underlying57, sz57, by57, ze57, fa57_0, fa57_1, fa57_2, fa57_3, fa57_4, fa57_5, fa57_6, fa57_7, plan0, go_sem, ↓reduceIte, reduceCtorEq, Nat.reduceEqDiff, Nat.reduceLT, ↓all_qV, Int.reduceToNat, Int.reduceLT, Int.reduceLE, Nat.reduceAdd, Nat.reduceLeDiff, Nat.reduceMul, ev_callG, gcallK_b, gcallK_w, callGc_true, callGc_false]
    and_intros
    all_goals first | exact okL1 | exact ⟨X, rfl⟩ | exact ⟨X, rfl, by omega⟩ | omega
end Go.AM
