/-
  A part of a proof: see the last text of this claim for what is proved.
-/
import Derived.Test.YtgndokeamndhoaaDoorS2b
namespace Go.AM
open Go Go.Proofs Go.IntWalk
set_option maxRecDepth 100000
set_option maxHeartbeats 1000000
set_option linter.unusedSimpArgs false
set_option linter.unusedVariables false
noncomputable def Φ8 (g : FuncId) : PSpec := putΦ (putΦ Φ7 11 percentS) 10 prcS g
theorem hΦ8 : TabSound GG Φ8 := (hΦ7.put w_percentS).put w_prcS
theorem Φ8_claims {args : List PV} : Φ8 8 args = claimsS args := rfl
theorem Φ8_among {args : List PV} : Φ8 9 args = amongS args := rfl
theorem Φ8_percent {args : List PV} : Φ8 11 args = percentS args := rfl
theorem Φ8_prc {args : List PV} : Φ8 10 args = prcS args := rfl
theorem Φ8_total {args : List PV} : Φ8 12 args = totalS args := rfl
/-- What a claim is set aside for on a day. -/
def setF (day : Int) : PV → Int
  | .agg [_, _, _, .int _ op, .int _ d, _] => (prcF op (pctF (day - d))).1
  | _ => 0
def sumI : List Int → Int
  | [] => 0
  | x :: r => x + sumI r
theorem sumI_append (a b : List Int) : sumI (a ++ b) = sumI a + sumI b := by
  induction a with
  | nil => simp [sumI]
  | cons x r ih => simp only [List.cons_append, sumI, ih]; omega
def provF (es : List PV) (day : Int) : Int × Int :=
  bif clsF es != 0 then (0, clsF es) else bif !amg day 0 36000 then (0, 2) else (sumI (es.map (setF day)), 0)
theorem pct_le (d : Int) : 0 ≤ pctF d ∧ pctF d ≤ 100 := by unfold pctF; repeat (first | (split; omega) | omega)
theorem pct_mono {a b : Int} (h : a ≤ b) : pctF a ≤ pctF b := by unfold pctF; repeat (first | omega | split)
theorem idx_ok : ∀ {es : List PV} {i : Int}, 0 ≤ i → idxF es i < 0 → ∀ e, e ∈ es → clB e = true
  | [], _, _, _, e, he => by cases he
  | x :: r, i, hi, h, e, he => by
    unfold idxF at h
    cases hx : clB x with
    | false => rw [hx] at h; simp at h; omega
    | true =>
      rw [hx] at h
      simp only [Bool.not_true, cond_false] at h
      rcases List.mem_cons.1 he with rfl | he
      · exact hx
      · exact idx_ok (by omega) h e he
theorem cls_ok {es : List PV} (h : clsF es = 0) : es.length ≤ 60 ∧ ∀ e, e ∈ es → clB e = true := by
  unfold clsF at h
  cases h1 : decide (60 < (es.length : Int)) with
  | true => rw [h1] at h; cases h
  | false =>
    rw [h1, cond_false] at h
    cases h2 : decide (0 ≤ idxF es 0) with
    | true => rw [h2] at h; cases h
    | false =>
      have h3 := of_decide_eq_false h1
      have h4 := of_decide_eq_false h2
      exact ⟨by omega, idx_ok (Int.le_refl 0) (by omega)⟩
theorem set_le (day : Int) {id pa am op d : Int} {c : List UInt8} (h : clB (.agg [.int .i64 id, .int .i64 pa, .int .i64 am, .int .i64 op, .int .i64 d, .str c]) = true) :
    (0 ≤ op ∧ op ≤ 1000000000000) ∧ (0 ≤ d ∧ d ≤ 36000) ∧ (prcF op (pctF (day - d))).1 = op * pctF (day - d) / 100 ∧ 0 ≤ op * pctF (day - d) / 100 ∧ op * pctF (day - d) / 100 ≤ 1000000000000 := by
  rw [clB_eq] at h
  simp only [Bool.and_eq_true, amg, posB, vldM, decide_eq_true_eq] at h
  have hp := pct_le (day - d)
  have h1 : (0 ≤ op ∧ op ≤ 1000000000000) := by omega
  have h2 : (0 ≤ d ∧ d ≤ 36000) := by omega
  have h3 : 0 ≤ op * pctF (day - d) := Int.mul_nonneg h1.1 hp.1
  have h4 : op * pctF (day - d) ≤ 1000000000000 * 100 := Int.mul_le_mul h1.2 hp.2 hp.1 (by omega)
  refine ⟨h1, h2, ?_, Int.ediv_nonneg h3 (by omega), ?_⟩
  · unfold prcF
    have e1 : vldM op = true := by unfold vldM; simp; omega
    have e2 : decide (pctF (day - d) < 0) = false := by simp; omega
    have e3 : decide (100 < pctF (day - d)) = false := by simp; omega
    rw [e1, e2, e3]; rfl
  · omega
theorem sumI_le {es : List PV} {day : Int} (hc : ∀ e, e ∈ es → isCl e ∧ clB e = true) : 0 ≤ sumI (es.map (setF day)) ∧ sumI (es.map (setF day)) ≤ 1000000000000 * es.length := by
  induction es with
  | nil => simp [sumI]
  | cons e r ih =>
    have h1 := ih (fun x hx => hc x (List.mem_cons_of_mem _ hx))
    obtain ⟨⟨id, pa, am, op, d, c, rfl, _⟩, h2⟩ := hc e List.mem_cons_self
    obtain ⟨_, _, e1, e2, e3⟩ := set_le day h2
    have e4 : setF day (claimV id pa am op d c) = (prcF op (pctF (day - d))).1 := rfl
    simp only [List.map_cons, sumI, List.length_cons, e4, e1]
    rw [Int.natCast_add, Int.mul_add]; omega
noncomputable def provS : PSpec := on_li (fun es _ => (∀ e, e ∈ es → isCl e) ∧ es.length ≤ 4611686018427387904) (fun es day => .tup [.int .i64 (provF es day).1, .int .i64 (provF es day).2])
theorem w_provS : PSound GG 6 provS := by
  refine PSound.of_wpc (C := cxP Tryd.prog Φ8 [] 45) (T := plan0) Tryd.func6 rfl rfl rfl (Fit.pure (G := GG) hΦ8 mixed) (fun args h => ?_)
  unfold provS at h
  obtain ⟨es, day, rfl, hp⟩ := on_li_inv h
  refine ⟨by simp [cxP], ?_⟩
  simp only [provS, on_li_eq, Tryd.f6, argL, plan0]
  obtain ⟨he, hl⟩ := hp
  simp only [Φ8_claims, Φ8_among, claimsS, amongS, on_l_eq, on_iii_eq, Tryd.underlying1, sz1, by1, ze1, Tryd.underlying3, sz3, by3, ze3, Tryd.underlying4, sz4, by4, ze4, Tryd.underlying9, sz9, by9, ze9, Tryd.underlying28, sz28, by28, ze28, fa28_0, fa28_1, fa28_2, fa28_3, fa28_4, fa28_5, Tryd.underlying29, sz29, by29, ze29, Tryd.underlying30, sz30, by30, ze30, Tryd.underlying32, sz32, by32, ze32, ev_skip, ev_seq, ev_region, ev_ret, ev_block, ev_exit, ev_loop, ev_cond, ev_scope, ev_label, condK_true, condK_false, condK_bool, isCut, Bool.false_eq_true, if_true, if_false, ↓reduceIte, false_implies, true_and, and_true, true_implies, KS_ap, KR_ap, steps_nil, stepsG_cons, thn_n, thn_e, thn_r, blk_n, blk_e, blk_r,     ev_op, ev_opG, opK_true, opK_false, isPureOp, List.contains_nil, List.contains_cons, Bool.or_false, Bool.false_or, cond_true, cond_false, aopP, callP_fn, callV_eq, mapV, allC, frzAll, frzL, opndV, ofV, ofV1, oc, ox, stripC, stripV, look_cons, upd_look, pureK_none, pureGK_eq, reduceCtorEq, Nat.reduceEqDiff, Nat.reduceLT, gAt, List.getElem?_toArray, List.getElem?_cons_succ, List.getElem?_cons_zero, Option.bind_some, Option.isNone_none, Option.isNone_some, Bool.false_and, Bool.and_false, Bool.and_self, Bool.and_true, Bool.true_and,     gK_bool, gK_whn, mkW, pickA, beq_true, beq_false, Bool.not_false, Bool.not_true, keepA, binA, binP, binI, binS, eqP, unA, unP, isC, extractA, List.length_cons, List.length_nil, List.getD_cons_zero, List.getD_cons_succ, frzOk, frz, AV.freeL, AV.free, PV.flat, PV.flat1, List.all_cons, List.all_nil, or_true, true_or, cxP_P, cxP_N, cxP_Φ, cxP_Ψ, cxP_Θ, cxP_rows, cxP_pins, cxQ_P, cxQ_N, cxQ_Φ, cxQ_Ψ, cxQ_Θ, cxQ_rows, cxQ_pins, putΘ, putΨ, noΘ, noΨ, ev_call, ev_alloc, ev_box, ev_makeSlice, ev_store, ev_append, callK_E, callK_Q, callK_P, qV_1, ↓all_qV, psiNew_eq, aopE, newB_some, putD_some, putD, hget, hset, hdel, storeA, putL, cellsA, partC, partA, fieldAddrA, addOff, nilCheckA, fieldV, buildA, packA, fieldPlaces, fillA, appendA, allW, killR_look, killS, AV.kill, AV.killL, killH, ABlk.kill, putΦ, argL, implies_true, indexAddrA, loadA, partP, partL, PV.nth, isAggD, Int.reduceToNat, Int.toNat_zero, Int.toNat_one, Int.reduceLT, Int.reduceLE, List.drop_zero, List.take_zero, Nat.add_zero, Int.le_refl, Int.cast_ofNat_Int, not_false_eq_true, not_true_eq_false, imp_self, and_self, gt1, gt2, Bool.not_not, Bool.cond_false_right, Bool.cond_true_left, Bool.cond_false_left, Bool.cond_true_right, Nat.reduceAdd, Nat.zero_add, Fin_n, Fin_r, FinQ, tapeOk, filt, AV.refsIn, AV.refsInL, refsH, ABlk.refsIn, pvL, Option.isSome_some, Option.getD_some, Option.getD_none, FinN, resC, resV, res1, tupP, AV.one, List.set_cons_succ, List.set_cons_zero, Option.some.injEq, minmaxA, foldI, lenA, isSliceD, isStrD, isSliceOrStr, Int.toNat_natCast, ne_eq, sliceA, natOf, List.map_cons, List.map_nil, Option.map_none, Option.map_some, Option.toList, List.append_nil, List.nil_append, List.cons_append, buildSliceA, idxOk, elemOk, PV.width, PV.cells, PV.one, convP, convA, srcA, isStrV, isByteD, isU8, List.all_cons, List.all_nil, Nat.beq_eq_true_eq, beq_self_eq_true, Nat.reduceLeDiff, Nat.reduceMul]
  refine ⟨⟨he, hl⟩, fun h1 => ?_, fun h1 => ⟨fun h2 => ?_, fun h2 => ?_⟩⟩
  · unfold provF; rw [h1]; rfl
  · unfold provF; rw [h1, h2]; rfl
  have hc0 : clsF es = 0 := by simpa using h1
  obtain ⟨hl6, hok⟩ := cls_ok hc0
  have hday : 0 ≤ day ∧ day ≤ 36000 := by simpa [amg] using h2
  have hres : provF es day = (sumI (es.map (setF day)), 0) := by unfold provF; rw [h1, h2]; rfl
  refine AWp.loop (T := plan0) (α := Nat) (fun i => ([(1, .pv (.int .i64 day)), (7, .pv (.int .i64 (sumI ((es.take i).map (setF day))))), (20, .pv (.sl es)), (21, .pv (.int .i64 es.length)), (22, .pv (.int .i64 i))], [])) (fun i => i ≤ es.length) (fun i => es.length - i)
    ⟨0, Nat.zero_le _, ⟨by simp [fitR, look, sumI], trivial, rfl, rfl, rfl⟩⟩ ?_
  intro i hi
  have hi1 : IntKind.i64.wrap ((i : Int) + 1) = ((i + 1 : Nat) : Int) := by rw [i64_in _ (by omega)]; omega
  have hsum := sumI_le (es := es.take i) (day := day) (fun e he' => ⟨he e (List.mem_of_mem_take he'), hok e (List.mem_of_mem_take he')⟩)
  have htl : (es.take i).length ≤ 60 := by rw [List.length_take]; omega
  by_cases hlt : i < es.length
  · have c0 : decide ((i : Int) < (es.length : Int)) = true := by simp; omega
    have hm : es.getD i default ∈ es := by rw [List.getD_eq_getElem?_getD, List.getElem?_eq_getElem hlt]; exact List.getElem_mem _
    have hnext : sumI ((es.take (i + 1)).map (setF day)) = sumI ((es.take i).map (setF day)) + setF day (es.getD i default) := by
      rw [List.take_add_one, List.map_append, sumI_append]
      simp [List.getElem?_eq_getElem hlt, List.getD_eq_getElem?_getD, sumI]
    have hcl := he _ hm
    have hcb := hok _ hm
    obtain ⟨e, hg⟩ : ∃ e, es.getD i default = e := ⟨_, rfl⟩
    rw [hg] at hcl hcb hnext
    obtain ⟨id, pa, am, op, d, c, rfl, hc⟩ := hcl
    unfold claimV at hg hcb hnext
    obtain ⟨k1, k2, k3, k4, k5⟩ := set_le day hcb
    have hst : setF day (.agg [.int .i64 id, .int .i64 pa, .int .i64 am, .int .i64 op, .int .i64 d, .str c]) = op * pctF (day - d) / 100 := k3
    rw [hst] at hnext
    have w1 : IntKind.i64.wrap (day - d) = day - d := i64_in _ (by omega)
    generalize sumI ((es.take i).map (setF day)) = acc at hsum hnext ⊢
    have w2 : IntKind.i64.wrap (acc + op * pctF (day - d) / 100) = acc + op * pctF (day - d) / 100 := i64_in _ (by omega)
    simp only [c0, hg, hi1, w1, k3, w2, List.take_succ_cons, List.take_nil, Φ8_percent, Φ8_prc, percentS, prcS, on_i_eq, on_ii_eq, Tryd.underlying1, sz1, by1, ze1, Tryd.underlying3, sz3, by3, ze3, Tryd.underlying4, sz4, by4, ze4, Tryd.underlying9, sz9, by9, ze9, Tryd.underlying28, sz28, by28, ze28, fa28_0, fa28_1, fa28_2, fa28_3, fa28_4, fa28_5, Tryd.underlying29, sz29, by29, ze29, Tryd.underlying30, sz30, by30, ze30, Tryd.underlying32, sz32, by32, ze32, plan0, ev_skip, ev_seq, ev_region, ev_ret, ev_block, ev_exit, ev_loop, ev_cond, ev_scope, ev_label, condK_true, condK_false, condK_bool, isCut, Bool.false_eq_true, if_true, if_false, ↓reduceIte, false_implies, true_and, and_true, true_implies, KS_ap, KR_ap, steps_nil, stepsG_cons, thn_n, thn_e, thn_r, blk_n, blk_e, blk_r,     ev_op, ev_opG, opK_true, opK_false, isPureOp, List.contains_nil, List.contains_cons, Bool.or_false, Bool.false_or, cond_true, cond_false, aopP, callP_fn, callV_eq, mapV, allC, frzAll, frzL, opndV, ofV, ofV1, oc, ox, stripC, stripV, look_cons, upd_look, pureK_none, pureGK_eq, reduceCtorEq, Nat.reduceEqDiff, Nat.reduceLT, gAt, List.getElem?_toArray, List.getElem?_cons_succ, List.getElem?_cons_zero, Option.bind_some, Option.isNone_none, Option.isNone_some, Bool.false_and, Bool.and_false, Bool.and_self, Bool.and_true, Bool.true_and,     gK_bool, gK_whn, mkW, pickA, beq_true, beq_false, Bool.not_false, Bool.not_true, keepA, binA, binP, binI, binS, eqP, unA, unP, isC, extractA, List.length_cons, List.length_nil, List.getD_cons_zero, List.getD_cons_succ, frzOk, frz, AV.freeL, AV.free, PV.flat, PV.flat1, List.all_cons, List.all_nil, or_true, true_or, cxP_P, cxP_N, cxP_Φ, cxP_Ψ, cxP_Θ, cxP_rows, cxP_pins, cxQ_P, cxQ_N, cxQ_Φ, cxQ_Ψ, cxQ_Θ, cxQ_rows, cxQ_pins, putΘ, putΨ, noΘ, noΨ, ev_call, ev_alloc, ev_box, ev_makeSlice, ev_store, ev_append, callK_E, callK_Q, callK_P, qV_1, ↓all_qV, psiNew_eq, aopE, newB_some, putD_some, putD, hget, hset, hdel, storeA, putL, cellsA, partC, partA, fieldAddrA, addOff, nilCheckA, fieldV, buildA, packA, fieldPlaces, fillA, appendA, allW, killR_look, killS, AV.kill, AV.killL, killH, ABlk.kill, putΦ, argL, implies_true, indexAddrA, loadA, partP, partL, PV.nth, isAggD, Int.reduceToNat, Int.toNat_zero, Int.toNat_one, Int.reduceLT, Int.reduceLE, List.drop_zero, List.take_zero, Nat.add_zero, Int.le_refl, Int.cast_ofNat_Int, not_false_eq_true, not_true_eq_false, imp_self, and_self, gt1, gt2, Bool.not_not, Bool.cond_false_right, Bool.cond_true_left, Bool.cond_false_left, Bool.cond_true_right, Nat.reduceAdd, Nat.zero_add, Fin_n, Fin_r, FinQ, tapeOk, filt, AV.refsIn, AV.refsInL, refsH, ABlk.refsIn, pvL, Option.isSome_some, Option.getD_some, Option.getD_none, FinN, resC, resV, res1, tupP, AV.one, List.set_cons_succ, List.set_cons_zero, Option.some.injEq, minmaxA, foldI, lenA, isSliceD, isStrD, isSliceOrStr, Int.toNat_natCast, ne_eq, sliceA, natOf, List.map_cons, List.map_nil, Option.map_none, Option.map_some, Option.toList, List.append_nil, List.nil_append, List.cons_append, buildSliceA, idxOk, elemOk, PV.width, PV.cells, PV.one, convP, convA, srcA, isStrV, isByteD, isU8, List.all_cons, List.all_nil, Nat.beq_eq_true_eq, beq_self_eq_true, Nat.reduceLeDiff, Nat.reduceMul]
    refine ⟨by omega, by kernel_rfl, i + 1, by omega, by omega, ⟨?_, trivial, rfl, rfl, rfl⟩⟩
    rw [hnext]
    simp [fitR, look]
  · have c0 : decide ((i : Int) < (es.length : Int)) = false := by simp; omega
    have e1 : i = es.length := by omega
    subst e1
    rw [List.take_length] at hsum htl ⊢
    rw [hres]
    generalize sumI (es.map (setF day)) = acc at hsum ⊢
    have ht : totB acc = true := by unfold totB; simp; omega
    simp only [c0, ht, Φ8_total, totalS, on_i_eq, Tryd.underlying1, sz1, by1, ze1, Tryd.underlying3, sz3, by3, ze3, Tryd.underlying4, sz4, by4, ze4, Tryd.underlying9, sz9, by9, ze9, Tryd.underlying28, sz28, by28, ze28, fa28_0, fa28_1, fa28_2, fa28_3, fa28_4, fa28_5, Tryd.underlying29, sz29, by29, ze29, Tryd.underlying30, sz30, by30, ze30, Tryd.underlying32, sz32, by32, ze32, plan0, ev_skip, ev_seq, ev_region, ev_ret, ev_block, ev_exit, ev_loop, ev_cond, ev_scope, ev_label, condK_true, condK_false, condK_bool, isCut, Bool.false_eq_true, if_true, if_false, ↓reduceIte, false_implies, true_and, and_true, true_implies, KS_ap, KR_ap, steps_nil, stepsG_cons, thn_n, thn_e, thn_r, blk_n, blk_e, blk_r,     ev_op, ev_opG, opK_true, opK_false, isPureOp, List.contains_nil, List.contains_cons, Bool.or_false, Bool.false_or, cond_true, cond_false, aopP, callP_fn, callV_eq, mapV, allC, frzAll, frzL, opndV, ofV, ofV1, oc, ox, stripC, stripV, look_cons, upd_look, pureK_none, pureGK_eq, reduceCtorEq, Nat.reduceEqDiff, Nat.reduceLT, gAt, List.getElem?_toArray, List.getElem?_cons_succ, List.getElem?_cons_zero, Option.bind_some, Option.isNone_none, Option.isNone_some, Bool.false_and, Bool.and_false, Bool.and_self, Bool.and_true, Bool.true_and,     gK_bool, gK_whn, mkW, pickA, beq_true, beq_false, Bool.not_false, Bool.not_true, keepA, binA, binP, binI, binS, eqP, unA, unP, isC, extractA, List.length_cons, List.length_nil, List.getD_cons_zero, List.getD_cons_succ, frzOk, frz, AV.freeL, AV.free, PV.flat, PV.flat1, List.all_cons, List.all_nil, or_true, true_or, cxP_P, cxP_N, cxP_Φ, cxP_Ψ, cxP_Θ, cxP_rows, cxP_pins, cxQ_P, cxQ_N, cxQ_Φ, cxQ_Ψ, cxQ_Θ, cxQ_rows, cxQ_pins, putΘ, putΨ, noΘ, noΨ, ev_call, ev_alloc, ev_box, ev_makeSlice, ev_store, ev_append, callK_E, callK_Q, callK_P, qV_1, ↓all_qV, psiNew_eq, aopE, newB_some, putD_some, putD, hget, hset, hdel, storeA, putL, cellsA, partC, partA, fieldAddrA, addOff, nilCheckA, fieldV, buildA, packA, fieldPlaces, fillA, appendA, allW, killR_look, killS, AV.kill, AV.killL, killH, ABlk.kill, putΦ, argL, implies_true, indexAddrA, loadA, partP, partL, PV.nth, isAggD, Int.reduceToNat, Int.toNat_zero, Int.toNat_one, Int.reduceLT, Int.reduceLE, List.drop_zero, List.take_zero, Nat.add_zero, Int.le_refl, Int.cast_ofNat_Int, not_false_eq_true, not_true_eq_false, imp_self, and_self, gt1, gt2, Bool.not_not, Bool.cond_false_right, Bool.cond_true_left, Bool.cond_false_left, Bool.cond_true_right, Nat.reduceAdd, Nat.zero_add, Fin_n, Fin_r, FinQ, tapeOk, filt, AV.refsIn, AV.refsInL, refsH, ABlk.refsIn, pvL, Option.isSome_some, Option.getD_some, Option.getD_none, FinN, resC, resV, res1, tupP, AV.one, List.set_cons_succ, List.set_cons_zero, Option.some.injEq, minmaxA, foldI, lenA, isSliceD, isStrD, isSliceOrStr, Int.toNat_natCast, ne_eq, sliceA, natOf, List.map_cons, List.map_nil, Option.map_none, Option.map_some, Option.toList, List.append_nil, List.nil_append, List.cons_append, buildSliceA, idxOk, elemOk, PV.width, PV.cells, PV.one, convP, convA, srcA, isStrV, isByteD, isU8, List.all_cons, List.all_nil, Nat.beq_eq_true_eq, beq_self_eq_true, Nat.reduceLeDiff, Nat.reduceMul]
noncomputable def Φ9 (g : FuncId) : PSpec := putΦ Φ8 6 provS g
theorem hΦ9 : TabSound GG Φ9 := hΦ8.put w_provS
theorem Φ9_prov {args : List PV} : Φ9 6 args = provS args := rfl
noncomputable def saneS : PSpec := on_ (True) (.bool true)
theorem w_saneS : PSound GG 7 saneS := by
  refine PSound.of_wpc (C := cxP Tryd.prog Φ9 [] 15) (T := plan0) Tryd.func7 rfl rfl rfl (Fit.pure (G := GG) hΦ9 mixed) (fun args h => ?_)
  unfold saneS at h
  obtain ⟨rfl, hp⟩ := on__inv h
  refine ⟨by simp [cxP], ?_⟩
  simp only [saneS, on__eq, Tryd.f7, argL, plan0]
  have k : provF [.agg [.int .i64 1, .int .i64 1, .int .i64 1000, .int .i64 1000, .int .i64 0, .str [49]]] 100 = (250, 0) := by decide +kernel
  simp only [k, List.take_succ_cons, List.take_nil, Φ9_prov, provS, on_li_eq, Tryd.underlying1, sz1, by1, ze1, Tryd.underlying3, sz3, by3, ze3, Tryd.underlying4, sz4, by4, ze4, Tryd.underlying9, sz9, by9, ze9, Tryd.underlying28, sz28, by28, ze28, fa28_0, fa28_1, fa28_2, fa28_3, fa28_4, fa28_5, Tryd.underlying29, sz29, by29, ze29, Tryd.underlying30, sz30, by30, ze30, Tryd.underlying32, sz32, by32, ze32, ev_skip, ev_seq, ev_region, ev_ret, ev_block, ev_exit, ev_loop, ev_cond, ev_scope, ev_label, condK_true, condK_false, condK_bool, isCut, Bool.false_eq_true, if_true, if_false, ↓reduceIte, false_implies, true_and, and_true, true_implies, KS_ap, KR_ap, steps_nil, stepsG_cons, thn_n, thn_e, thn_r, blk_n, blk_e, blk_r,     ev_op, ev_opG, opK_true, opK_false, isPureOp, List.contains_nil, List.contains_cons, Bool.or_false, Bool.false_or, cond_true, cond_false, aopP, callP_fn, callV_eq, mapV, allC, frzAll, frzL, opndV, ofV, ofV1, oc, ox, stripC, stripV, look_cons, upd_look, pureK_none, pureGK_eq, reduceCtorEq, Nat.reduceEqDiff, Nat.reduceLT, gAt, List.getElem?_toArray, List.getElem?_cons_succ, List.getElem?_cons_zero, Option.bind_some, Option.isNone_none, Option.isNone_some, Bool.false_and, Bool.and_false, Bool.and_self, Bool.and_true, Bool.true_and,     gK_bool, gK_whn, mkW, pickA, beq_true, beq_false, Bool.not_false, Bool.not_true, keepA, binA, binP, binI, binS, eqP, unA, unP, isC, extractA, List.length_cons, List.length_nil, List.getD_cons_zero, List.getD_cons_succ, frzOk, frz, AV.freeL, AV.free, PV.flat, PV.flat1, List.all_cons, List.all_nil, or_true, true_or, cxP_P, cxP_N, cxP_Φ, cxP_Ψ, cxP_Θ, cxP_rows, cxP_pins, cxQ_P, cxQ_N, cxQ_Φ, cxQ_Ψ, cxQ_Θ, cxQ_rows, cxQ_pins, putΘ, putΨ, noΘ, noΨ, ev_call, ev_alloc, ev_box, ev_makeSlice, ev_store, ev_append, callK_E, callK_Q, callK_P, qV_1, ↓all_qV, psiNew_eq, aopE, newB_some, putD_some, putD, hget, hset, hdel, storeA, putL, cellsA, partC, partA, fieldAddrA, addOff, nilCheckA, fieldV, buildA, packA, fieldPlaces, fillA, appendA, allW, killR_look, killS, AV.kill, AV.killL, killH, ABlk.kill, putΦ, argL, implies_true, indexAddrA, loadA, partP, partL, PV.nth, isAggD, Int.reduceToNat, Int.toNat_zero, Int.toNat_one, Int.reduceLT, Int.reduceLE, List.drop_zero, List.take_zero, Nat.add_zero, Int.le_refl, Int.cast_ofNat_Int, not_false_eq_true, not_true_eq_false, imp_self, and_self, gt1, gt2, Bool.not_not, Bool.cond_false_right, Bool.cond_true_left, Bool.cond_false_left, Bool.cond_true_right, Nat.reduceAdd, Nat.zero_add, Fin_n, Fin_r, FinQ, tapeOk, filt, AV.refsIn, AV.refsInL, refsH, ABlk.refsIn, pvL, Option.isSome_some, Option.getD_some, Option.getD_none, FinN, resC, resV, res1, tupP, AV.one, List.set_cons_succ, List.set_cons_zero, Option.some.injEq, minmaxA, foldI, lenA, isSliceD, isStrD, isSliceOrStr, Int.toNat_natCast, ne_eq, sliceA, natOf, List.map_cons, List.map_nil, Option.map_none, Option.map_some, Option.toList, List.append_nil, List.nil_append, List.cons_append, buildSliceA, idxOk, elemOk, PV.width, PV.cells, PV.one, convP, convA, srcA, isStrV, isByteD, isU8, List.all_cons, List.all_nil, Nat.beq_eq_true_eq, beq_self_eq_true, Nat.reduceLeDiff, Nat.reduceMul]
  exact fun e he => (by simp only [List.mem_singleton] at he; subst he; exact ⟨_, _, _, _, _, _, rfl, by simp⟩)
noncomputable def Φ10 (g : FuncId) : PSpec := putΦ Φ9 7 saneS g
theorem hΦ10 : TabSound GG Φ10 := hΦ9.put w_saneS
end Go.AM
