/-
  A part of a proof: see the last text of this claim for what is proved.
-/
import Derived.Test.YtgndokeamndhoaaDoorS2c
namespace Go.AM
open Go Go.Proofs Go.IntWalk
set_option maxRecDepth 100000
set_option maxHeartbeats 1000000
set_option linter.unusedSimpArgs false
set_option linter.unusedVariables false
theorem Φ10_prov {args : List PV} : Φ10 6 args = provS args := rfl
theorem Φ10_sane {args : List PV} : Φ10 7 args = saneS args := rfl
def planA : Plan := { keep := fun _ => none, cut := fun _ => false, stop := fun i => i == 2 }
/-- One claim. -/
def oneV (n op : Int) : PV := .agg [.int .i64 1, .int .i64 1, .int .i64 n, .int .i64 op, .int .i64 500, .str [49]]
theorem parts1 : decide ((0 : Int) < (partsR [49]).length) = true := by decide +kernel
theorem prov_one {n op day : Int} (hn : 0 < n ∧ n ≤ 100000) (ho : 0 ≤ op ∧ op ≤ n) (hd : 0 ≤ day ∧ day ≤ 36000) : provF [oneV n op] day = (op * pctF (day - 500) / 100, 0) := by
  have hcb : clB (oneV n op) = true := by
    unfold oneV
    rw [clB_eq, parts1]
    simp [amg, posB, vldM]; omega
  have hc : clsF [oneV n op] = 0 := by
    unfold clsF
    simp [idxF, hcb]
  obtain ⟨_, _, h3, _, _⟩ := set_le day hcb
  unfold provF
  have h4 : amg day 0 36000 = true := by simp [amg]; omega
  rw [hc, h4]
  have h5 : setF day (oneV n op) = op * pctF (day - 500) / 100 := h3
  simp [sumI, h5]
noncomputable def agesS : PSpec := on_lUU (fun es a b => (es.length ≤ 9223372036854775807 ∧ ∀ e, e ∈ es → isI e) ∧ (0 ≤ a ∧ a ≤ 65535) ∧ 0 ≤ b ∧ b ≤ 65535) (fun _ _ _ => .bool true)
theorem w_agesS : PSound GG 3 agesS := by
  refine PSound.of_wpc (C := cxQ Tryd.prog Φ10 Θ1 Ψ1 [] [] 86) (T := planA) Tryd.func3 rfl rfl rfl (Fit.all (G := GG) hΦ10 hΘ1 hΨ1 mixed) (fun args h => ?_)
  unfold agesS at h
  obtain ⟨es, a, b, rfl, ⟨he1, he2⟩, ha, hb⟩ := on_lUU_inv h
  refine ⟨by simp [cxQ], ?_⟩
  simp (config := {maxSteps := 1000000}) only [agesS, on_lUU_eq, Θ1, Ψ1, newS, preN_eq, okN, arg1, intV, preT_eq, Φ10_prov, Φ10_sane, provS, saneS, on_li_eq, on__eq, List.take_succ_cons, List.take_nil, psiNew_eq, Tryd.underlying1, sz1, by1, ze1, Tryd.underlying3, sz3, by3, ze3, Tryd.underlying4, sz4, by4, ze4, Tryd.underlying9, sz9, by9, ze9, Tryd.underlying22, sz22, by22, ze22, Tryd.underlying23, sz23, by23, ze23, Tryd.underlying24, sz24, by24, ze24, Tryd.underlying28, sz28, by28, ze28, fa28_0, fa28_1, fa28_2, fa28_3, fa28_4, fa28_5, Tryd.underlying29, sz29, by29, ze29, Tryd.underlying30, sz30, by30, ze30, Tryd.underlying32, sz32, by32, ze32, plan0, planA, Tryd.f3, argL, ev_skip, ev_seq, ev_region, ev_ret, ev_block, ev_exit, ev_loop, ev_cond, ev_scope, ev_label, condK_true, condK_false, condK_bool, isCut, Bool.false_eq_true, if_true, if_false, ↓reduceIte, false_implies, true_and, and_true, true_implies, KS_ap, KR_ap, steps_nil, stepsG_cons, thn_n, thn_e, thn_r, blk_n, blk_e, blk_r,     ev_op, ev_opG, opK_true, opK_false, isPureOp, List.contains_nil, List.contains_cons, Bool.or_false, Bool.false_or, cond_true, cond_false, aopP, callP_fn, callV_eq, mapV, allC, frzAll, frzL, opndV, ofV, ofV1, oc, ox, stripC, stripV, look_cons, upd_look, pureK_none, pureGK_eq, reduceCtorEq, Nat.reduceEqDiff, Nat.reduceLT, gAt, List.getElem?_toArray, List.getElem?_cons_succ, List.getElem?_cons_zero, Option.bind_some, Option.isNone_none, Option.isNone_some, Bool.false_and, Bool.and_false, Bool.and_self, Bool.and_true, Bool.true_and,     gK_bool, gK_whn, mkW, pickA, beq_true, beq_false, Bool.not_false, Bool.not_true, keepA, binA, binP, binI, binS, eqP, unA, unP, isC, extractA, List.length_cons, List.length_nil, List.getD_cons_zero, List.getD_cons_succ, frzOk, frz, AV.freeL, AV.free, PV.flat, PV.flat1, List.all_cons, List.all_nil, or_true, true_or, cxP_P, cxP_N, cxP_Φ, cxP_Ψ, cxP_Θ, cxP_rows, cxP_pins, cxQ_P, cxQ_N, cxQ_Φ, cxQ_Ψ, cxQ_Θ, cxQ_rows, cxQ_pins, putΘ, putΨ, noΘ, noΨ, ev_call, ev_alloc, ev_box, ev_makeSlice, ev_store, ev_append, callK_E, callK_Q, callK_P, qV_1, ↓all_qVz, ↓all_qVz', psiNew_eq, aopE, newB_some, putD_some, putD, hget, hset, hdel, storeA, putL, cellsA, partC, partA, fieldAddrA, addOff, nilCheckA, fieldV, buildA, packA, fieldPlaces, fillA, appendA, allW, killR_look, killS, AV.kill, AV.killL, killH, ABlk.kill, putΦ, argL, implies_true, indexAddrA, loadA, partP, partL, PV.nth, isAggD, Int.reduceToNat, Int.toNat_zero, Int.toNat_one, Int.reduceLT, Int.reduceLE, List.drop_zero, List.take_zero, Nat.add_zero, Int.le_refl, Int.cast_ofNat_Int, not_false_eq_true, not_true_eq_false, imp_self, and_self, gt1, gt2, Bool.not_not, Bool.cond_false_right, Bool.cond_true_left, Bool.cond_false_left, Bool.cond_true_right, Nat.reduceAdd, Nat.zero_add, Fin_n, Fin_r, FinQ, tapeOk, filt, AV.refsIn, AV.refsInL, refsH, ABlk.refsIn, pvL, Option.isSome_some, Option.getD_some, Option.getD_none, FinN, resC, resV, res1, tupP, AV.one, List.set_cons_succ, List.set_cons_zero, Option.some.injEq, minmaxA, foldI, lenA, isSliceD, isStrD, isSliceOrStr, Int.toNat_natCast, ne_eq, sliceA, natOf, List.map_cons, List.map_nil, Option.map_none, Option.map_some, Option.toList, List.append_nil, List.nil_append, List.cons_append, buildSliceA, idxOk, elemOk, PV.width, PV.cells, PV.one, convP, convA, srcA, isStrV, isByteD, isU8, List.all_cons, List.all_nil, Nat.beq_eq_true_eq, beq_self_eq_true, Nat.reduceLeDiff, Nat.reduceMul, ev_callG, gcallK_b, gcallK_w, callGc_true, callGc_false]
  refine ⟨⟨he1, he2⟩, ?_⟩
  refine AWp.here (T := plan0) (α := Unit) (fun _ => ([(1, .pv (.int .u16 a)), (2, .pv (.int .u16 b)), (6, .pv (.bool false)), (7, .ptr 18 0)], [(18, .obj Tp)])) (fun _ => True) ⟨(), trivial, ⟨by simp [fitR, look], by simp [fitH, hget], rfl, rfl, rfl⟩⟩ ?_
  intro _ _
  simp (config := {maxSteps := 1000000}) only [Θ1, Ψ1, newS, preN_eq, okN, arg1, intV, preT_eq, Φ10_prov, Φ10_sane, provS, saneS, on_li_eq, on__eq, List.take_succ_cons, List.take_nil, psiNew_eq, Tryd.underlying1, sz1, by1, ze1, Tryd.underlying3, sz3, by3, ze3, Tryd.underlying4, sz4, by4, ze4, Tryd.underlying9, sz9, by9, ze9, Tryd.underlying22, sz22, by22, ze22, Tryd.underlying23, sz23, by23, ze23, Tryd.underlying24, sz24, by24, ze24, Tryd.underlying28, sz28, by28, ze28, fa28_0, fa28_1, fa28_2, fa28_3, fa28_4, fa28_5, Tryd.underlying29, sz29, by29, ze29, Tryd.underlying30, sz30, by30, ze30, Tryd.underlying32, sz32, by32, ze32, plan0, planA, ev_skip, ev_seq, ev_region, ev_ret, ev_block, ev_exit, ev_loop, ev_cond, ev_scope, ev_label, condK_true, condK_false, condK_bool, isCut, Bool.false_eq_true, if_true, if_false, ↓reduceIte, false_implies, true_and, and_true, true_implies, KS_ap, KR_ap, steps_nil, stepsG_cons, thn_n, thn_e, thn_r, blk_n, blk_e, blk_r,     ev_op, ev_opG, opK_true, opK_false, isPureOp, List.contains_nil, List.contains_cons, Bool.or_false, Bool.false_or, cond_true, cond_false, aopP, callP_fn, callV_eq, mapV, allC, frzAll, frzL, opndV, ofV, ofV1, oc, ox, stripC, stripV, look_cons, upd_look, pureK_none, pureGK_eq, reduceCtorEq, Nat.reduceEqDiff, Nat.reduceLT, gAt, List.getElem?_toArray, List.getElem?_cons_succ, List.getElem?_cons_zero, Option.bind_some, Option.isNone_none, Option.isNone_some, Bool.false_and, Bool.and_false, Bool.and_self, Bool.and_true, Bool.true_and,     gK_bool, gK_whn, mkW, pickA, beq_true, beq_false, Bool.not_false, Bool.not_true, keepA, binA, binP, binI, binS, eqP, unA, unP, isC, extractA, List.length_cons, List.length_nil, List.getD_cons_zero, List.getD_cons_succ, frzOk, frz, AV.freeL, AV.free, PV.flat, PV.flat1, List.all_cons, List.all_nil, or_true, true_or, cxP_P, cxP_N, cxP_Φ, cxP_Ψ, cxP_Θ, cxP_rows, cxP_pins, cxQ_P, cxQ_N, cxQ_Φ, cxQ_Ψ, cxQ_Θ, cxQ_rows, cxQ_pins, putΘ, putΨ, noΘ, noΨ, ev_call, ev_alloc, ev_box, ev_makeSlice, ev_store, ev_append, callK_E, callK_Q, callK_P, qV_1, ↓all_qVz, ↓all_qVz', psiNew_eq, aopE, newB_some, putD_some, putD, hget, hset, hdel, storeA, putL, cellsA, partC, partA, fieldAddrA, addOff, nilCheckA, fieldV, buildA, packA, fieldPlaces, fillA, appendA, allW, killR_look, killS, AV.kill, AV.killL, killH, ABlk.kill, putΦ, argL, implies_true, indexAddrA, loadA, partP, partL, PV.nth, isAggD, Int.reduceToNat, Int.toNat_zero, Int.toNat_one, Int.reduceLT, Int.reduceLE, List.drop_zero, List.take_zero, Nat.add_zero, Int.le_refl, Int.cast_ofNat_Int, not_false_eq_true, not_true_eq_false, imp_self, and_self, gt1, gt2, Bool.not_not, Bool.cond_false_right, Bool.cond_true_left, Bool.cond_false_left, Bool.cond_true_right, Nat.reduceAdd, Nat.zero_add, Fin_n, Fin_r, FinQ, tapeOk, filt, AV.refsIn, AV.refsInL, refsH, ABlk.refsIn, pvL, Option.isSome_some, Option.getD_some, Option.getD_none, FinN, resC, resV, res1, tupP, AV.one, List.set_cons_succ, List.set_cons_zero, Option.some.injEq, minmaxA, foldI, lenA, isSliceD, isStrD, isSliceOrStr, Int.toNat_natCast, ne_eq, sliceA, natOf, List.map_cons, List.map_nil, Option.map_none, Option.map_some, Option.toList, List.append_nil, List.nil_append, List.cons_append, buildSliceA, idxOk, elemOk, PV.width, PV.cells, PV.one, convP, convA, srcA, isStrV, isByteD, isU8, List.all_cons, List.all_nil, Nat.beq_eq_true_eq, beq_self_eq_true, Nat.reduceLeDiff, Nat.reduceMul, ev_callG, gcallK_b, gcallK_w, callGc_true, callGc_false]
  intro x hx
  have w1 : IntKind.i64.wrap (1 + x) = 1 + x := i64_in _ (by omega)
  have c1 : IntKind.i64.wrap a = a := i64_in _ (by omega)
  have c2 : IntKind.i64.wrap b = b := i64_in _ (by omega)
  have m1 : a.tmod 500 = a % 500 := Int.tmod_eq_emod_of_nonneg ha.1
  have m2 : b.tmod 500 = b % 500 := Int.tmod_eq_emod_of_nonneg hb.1
  have w2 : IntKind.i64.wrap (500 + a % 500) = 500 + a % 500 := i64_in _ (by omega)
  have w3 : IntKind.i64.wrap (500 + a % 500 + b % 500) = 500 + a % 500 + b % 500 := i64_in _ (by omega)
  have r1 := prov_one (n := 1 + x) (op := 1 + x) (day := 500 + a % 500) (by omega) (by omega) (by omega)
  have r2 := prov_one (n := 1 + x) (op := 1 + x) (day := 500 + a % 500 + b % 500) (by omega) (by omega) (by omega)
  have r3 := prov_one (n := 1 + x) (op := 0) (day := 500 + a % 500) (by omega) (by omega) (by omega)
  unfold oneV at r1 r2 r3
  rw [Stop_eq]
  simp (config := {maxSteps := 1000000}) only [w1, w2, w3, c1, c2, m1, m2, r1, r2, r3, Θ1, Ψ1, newS, preN_eq, okN, arg1, intV, preT_eq, Φ10_prov, Φ10_sane, provS, saneS, on_li_eq, on__eq, List.take_succ_cons, List.take_nil, psiNew_eq, Tryd.underlying1, sz1, by1, ze1, Tryd.underlying3, sz3, by3, ze3, Tryd.underlying4, sz4, by4, ze4, Tryd.underlying9, sz9, by9, ze9, Tryd.underlying22, sz22, by22, ze22, Tryd.underlying23, sz23, by23, ze23, Tryd.underlying24, sz24, by24, ze24, Tryd.underlying28, sz28, by28, ze28, fa28_0, fa28_1, fa28_2, fa28_3, fa28_4, fa28_5, Tryd.underlying29, sz29, by29, ze29, Tryd.underlying30, sz30, by30, ze30, Tryd.underlying32, sz32, by32, ze32, plan0, planA, ev_skip, ev_seq, ev_region, ev_ret, ev_block, ev_exit, ev_loop, ev_cond, ev_scope, ev_label, condK_true, condK_false, condK_bool, isCut, Bool.false_eq_true, if_true, if_false, ↓reduceIte, false_implies, true_and, and_true, true_implies, KS_ap, KR_ap, steps_nil, stepsG_cons, thn_n, thn_e, thn_r, blk_n, blk_e, blk_r,     ev_op, ev_opG, opK_true, opK_false, isPureOp, List.contains_nil, List.contains_cons, Bool.or_false, Bool.false_or, cond_true, cond_false, aopP, callP_fn, callV_eq, mapV, allC, frzAll, frzL, opndV, ofV, ofV1, oc, ox, stripC, stripV, look_cons, upd_look, pureK_none, pureGK_eq, reduceCtorEq, Nat.reduceEqDiff, Nat.reduceLT, gAt, List.getElem?_toArray, List.getElem?_cons_succ, List.getElem?_cons_zero, Option.bind_some, Option.isNone_none, Option.isNone_some, Bool.false_and, Bool.and_false, Bool.and_self, Bool.and_true, Bool.true_and,     gK_bool, gK_whn, mkW, pickA, beq_true, beq_false, Bool.not_false, Bool.not_true, keepA, binA, binP, binI, binS, eqP, unA, unP, isC, extractA, List.length_cons, List.length_nil, List.getD_cons_zero, List.getD_cons_succ, frzOk, frz, AV.freeL, AV.free, PV.flat, PV.flat1, List.all_cons, List.all_nil, or_true, true_or, cxP_P, cxP_N, cxP_Φ, cxP_Ψ, cxP_Θ, cxP_rows, cxP_pins, cxQ_P, cxQ_N, cxQ_Φ, cxQ_Ψ, cxQ_Θ, cxQ_rows, cxQ_pins, putΘ, putΨ, noΘ, noΨ, ev_call, ev_alloc, ev_box, ev_makeSlice, ev_store, ev_append, callK_E, callK_Q, callK_P, qV_1, ↓all_qVz, ↓all_qVz', psiNew_eq, aopE, newB_some, putD_some, putD, hget, hset, hdel, storeA, putL, cellsA, partC, partA, fieldAddrA, addOff, nilCheckA, fieldV, buildA, packA, fieldPlaces, fillA, appendA, allW, killR_look, killS, AV.kill, AV.killL, killH, ABlk.kill, putΦ, argL, implies_true, indexAddrA, loadA, partP, partL, PV.nth, isAggD, Int.reduceToNat, Int.toNat_zero, Int.toNat_one, Int.reduceLT, Int.reduceLE, List.drop_zero, List.take_zero, Nat.add_zero, Int.le_refl, Int.cast_ofNat_Int, not_false_eq_true, not_true_eq_false, imp_self, and_self, gt1, gt2, Bool.not_not, Bool.cond_false_right, Bool.cond_true_left, Bool.cond_false_left, Bool.cond_true_right, Nat.reduceAdd, Nat.zero_add, Fin_n, Fin_r, FinQ, tapeOk, filt, AV.refsIn, AV.refsInL, refsH, ABlk.refsIn, pvL, Option.isSome_some, Option.getD_some, Option.getD_none, FinN, resC, resV, res1, tupP, AV.one, List.set_cons_succ, List.set_cons_zero, Option.some.injEq, minmaxA, foldI, lenA, isSliceD, isStrD, isSliceOrStr, Int.toNat_natCast, ne_eq, sliceA, natOf, List.map_cons, List.map_nil, Option.map_none, Option.map_some, Option.toList, List.append_nil, List.nil_append, List.cons_append, buildSliceA, idxOk, elemOk, PV.width, PV.cells, PV.one, convP, convA, srcA, isStrV, isByteD, isU8, List.all_cons, List.all_nil, Nat.beq_eq_true_eq, beq_self_eq_true, Nat.reduceLeDiff, Nat.reduceMul, ev_callG, gcallK_b, gcallK_w, callGc_true, callGc_false]
  have hc6 : ∀ {H : AHeap} {o : Int} (c : AV), c ∈ [AV.pv (PV.int IntKind.i64 1), AV.pv (PV.int IntKind.i64 1), AV.pv (PV.int IntKind.i64 (1 + x)), AV.pv (PV.int IntKind.i64 o), AV.pv (PV.int IntKind.i64 500), AV.pv (PV.str [49])] → c.one = true ∧ frzOk H 3 c := fun c hc => by
    simp only [List.mem_cons, List.not_mem_nil, or_false] at hc
    rcases hc with rfl | rfl | rfl | rfl | rfl | rfl <;> exact ⟨rfl, by simp [frzOk]⟩
  have hcl : ∀ {o : Int} (e : PV), e ∈ [PV.agg [PV.int IntKind.i64 1, PV.int IntKind.i64 1, PV.int IntKind.i64 (1 + x), PV.int IntKind.i64 o, PV.int IntKind.i64 500, PV.str [49]]] → isCl e := fun e he => by
    simp only [List.mem_singleton] at he
    subst he
    exact ⟨_, _, _, _, _, _, rfl, by simp⟩
  have p1 := pct_le (500 + a % 500 - 500)
  have p2 := pct_le (500 + a % 500 + b % 500 - 500)
  have p3 : pctF (500 + a % 500 - 500) ≤ pctF (500 + a % 500 + b % 500 - 500) := pct_mono (by omega)
  generalize pctF (500 + a % 500 - 500) = P at p1 p3 ⊢
  generalize pctF (500 + a % 500 + b % 500 - 500) = Q at p2 p3 ⊢
  have q1 : 0 ≤ (1 + x) * P / 100 := Int.ediv_nonneg (Int.mul_nonneg (by omega) p1.1) (by omega)
  have q2 : (1 + x) * P / 100 ≤ (1 + x) * Q / 100 := Int.ediv_le_ediv (by omega) (Int.mul_le_mul_of_nonneg_left p3 (by omega))
  have q3 : (1 + x) * Q / 100 ≤ 1 + x := by
    have : (1 + x) * Q ≤ (1 + x) * 100 := Int.mul_le_mul_of_nonneg_left p2.2 (by omega)
    omega
  refine ⟨by omega, hc6, hcl, hc6, by omega, hcl, hc6, hcl, ?_⟩
  generalize (1 + x) * P / 100 = A at q1 q2 ⊢
  generalize (1 + x) * Q / 100 = B at q2 q3 ⊢
  simp [q1, q2, q3]
end Go.AM
