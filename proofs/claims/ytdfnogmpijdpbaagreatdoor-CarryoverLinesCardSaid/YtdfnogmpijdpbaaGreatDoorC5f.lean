/-
  A part of a proof: see the last text of this claim for what is proved.
-/
import Derived.Test.YtdfnogmpijdpbaaGreatDoorC5e
/-! sums, equal lists, the example -/
namespace Go.AM
open Go Go.Proofs Go.IntWalk
set_option maxRecDepth 100000
set_option maxHeartbeats 1000000
set_option linter.unusedSimpArgs false
set_option linter.unusedVariables false
def on_ls (p : List PV → List UInt8 → Prop) (f : List PV → List UInt8 → PV) : PSpec
  | [.sl a0, .str a1] => (p a0 a1, f a0 a1)
  | _ => (False, default)
theorem on_ls_eq {p : List PV → List UInt8 → Prop} {f : List PV → List UInt8 → PV} {a0 : List PV} {a1 : List UInt8} : on_ls p f [.sl a0, .str a1] = (p a0 a1, f a0 a1) := rfl
theorem on_ls_inv {p : List PV → List UInt8 → Prop} {f : List PV → List UInt8 → PV} {args : List PV} (h : (on_ls p f args).1) : ∃ a0 : List PV, ∃ a1 : List UInt8, args = [.sl a0, .str a1] ∧ p a0 a1 := by
  unfold on_ls at h
  split at h
  · exact ⟨_, _, rfl, h⟩
  · exact h.elim
def on_llp (p : List PV → List PV → PV → Prop) (f : List PV → List PV → PV → PV) : PSpec
  | [.sl a0, .sl a1, a2] => (p a0 a1 a2, f a0 a1 a2)
  | _ => (False, default)
theorem on_llp_eq {p : List PV → List PV → PV → Prop} {f : List PV → List PV → PV → PV} {a0 : List PV} {a1 : List PV} {a2 : PV} : on_llp p f [.sl a0, .sl a1, a2] = (p a0 a1 a2, f a0 a1 a2) := rfl
theorem on_llp_inv {p : List PV → List PV → PV → Prop} {f : List PV → List PV → PV → PV} {args : List PV} (h : (on_llp p f args).1) : ∃ a0 : List PV, ∃ a1 : List PV, ∃ a2 : PV, args = [.sl a0, .sl a1, a2] ∧ p a0 a1 a2 := by
  unfold on_llp at h
  split at h
  · exact ⟨_, _, _, rfl, h⟩
  · exact h.elim
def sumU (c : List UInt8) : List Opn → Int
  | [] => 0
  | x :: r => (bif undC x.k c then x.a else 0) + sumU c r
theorem sumU_append (c : List UInt8) : ∀ a b : List Opn, sumU c (a ++ b) = sumU c a + sumU c b
  | [], b => by simp [sumU]
  | x :: r, b => by simp only [List.cons_append, sumU, sumU_append c r b]; omega
theorem sumU_le (c : List UInt8) {M : Int} (hM : 0 ≤ M) : ∀ l : List Opn, (∀ x, x ∈ l → 0 ≤ x.a ∧ x.a ≤ M) → 0 ≤ sumU c l ∧ sumU c l ≤ l.length * M
  | [], _ => by simp [sumU]
  | x :: r, h => by
    have ih := sumU_le c hM r (fun y hy => h y (List.mem_cons_of_mem _ hy))
    have hx := h x List.mem_cons_self
    simp only [sumU, List.length_cons, Int.add_mul, Int.natCast_add]
    cases undC x.k c <;> simp only [cond_true, cond_false] <;> constructor <;> omega
def smOk (l : List Opn) : Prop := ∀ x, x ∈ l → 0 ≤ x.a ∧ x.a ≤ 1000000000000
noncomputable def sumOS : PSpec := on_ls (fun es c => (∃ l : List Opn, es = l.map opV ∧ isOps l ∧ smOk l ∧ l.length ≤ 1000) ∧ c.length ≤ 1000000000000) (fun es c => .int .i64 (sumU c (es.map opOf)))
theorem k_sumOS_30 {args : List PV} : U6 30 args = underCS args := rfl
theorem w_sumOS : PSound GG 9 sumOS := by
  refine PSound.of_wpc (C := cxP Tryz.prog U6 [] 24) (T := plan0) Tryz.func9 rfl rfl rfl (Fit.pure (G := GG) hU6 mixed) (fun args h => ?_)
  unfold sumOS at h
  obtain ⟨es, c, rfl, hp⟩ := on_ls_inv h
  refine ⟨by simp [cxP], ?_⟩
  simp only [sumOS, on_ls_eq, Tryz.f9, argL, plan0]
  obtain ⟨⟨l, rfl, hl, ha, hn⟩, hc⟩ := hp
  simp only [map_opOf, List.length_map, k_sumOS_30, underCS, on_ss_eq, Tryz.underlying2, sz2, by2, ze2, Tryz.underlying3, sz3, by3, ze3, Tryz.underlying4, sz4, by4, ze4, Tryz.underlying9, sz9, by9, ze9, Tryz.underlying25, sz25, by25, ze25, Tryz.underlying51, sz51, by51, ze51, fa51_0, fa51_1, fa51_2, fa51_3, fa51_4, ev_skip, ev_seq, ev_region, ev_ret, ev_block, ev_exit, ev_loop, ev_cond, ev_scope, ev_label, condK_true, condK_false, condK_bool, isCut, Bool.false_eq_true, if_true, if_false, ↓reduceIte, false_implies, true_and, and_true, true_implies, KS_ap, KR_ap, steps_nil, stepsG_cons, thn_n, thn_e, thn_r, blk_n, blk_e, blk_r,     ev_op, ev_opG, opK_true, opK_false, isPureOp, List.contains_nil, List.contains_cons, Bool.or_false, Bool.false_or, cond_true, cond_false, aopP, callP_fn, callV_eq, mapV, allC, frzAll, frzL, opndV, ofV, ofV1, oc, ox, stripC, stripV, look_cons, upd_look, pureK_none, pureGK_eq, reduceCtorEq, Nat.reduceEqDiff, Nat.reduceLT, gAt, List.getElem?_toArray, List.getElem?_cons_succ, List.getElem?_cons_zero, Option.bind_some, Option.isNone_none, Option.isNone_some, Bool.false_and, Bool.and_false, Bool.and_self, Bool.and_true, Bool.true_and,     gK_bool, gK_whn, mkW, pickA, beq_true, beq_false, Bool.not_false, Bool.not_true, keepA, binA, binP, binI, binS, eqP, unA, unP, isC, extractA, List.length_cons, List.length_nil, List.getD_cons_zero, List.getD_cons_succ, frzOk, frz, AV.freeL, AV.free, PV.flat, PV.flat1, List.all_cons, List.all_nil, or_true, true_or, cxP_P, cxP_N, cxP_Φ, cxP_Ψ, cxP_Θ, cxP_rows, cxP_pins, cxQ_P, cxQ_N, cxQ_Φ, cxQ_Ψ, cxQ_Θ, cxQ_rows, cxQ_pins, putΘ, putΨ, noΘ, noΨ, ev_call, ev_alloc, ev_box, ev_makeSlice, ev_store, ev_append, binT_i, binT_s, binT_b, binT_ni, binT_np, binT_if, binT_pp, binT_agg, keyOk_i, keyOk_s, keyOk_b, keyOk_agg, packK_pv, packK_agg, pvL, notIn, ev_range, ev_next, rangeA, nextA, ev_makeMap, ev_mapUpdate, ev_delete, mapA, delA, lookupA, zvP, keyKind, callK_E, callK_Q, callK_P, qV_1, ↓all_qV, psiNew_eq, aopE, newB_some, putD_some, putD, hget, hset, hdel, storeA, putL, cellsA, partC, partA, fieldAddrA, addOff, nilCheckA, fieldV, buildA, packA, fieldPlaces, fillA, appendA, allW, killR_look, killS, AV.kill, AV.killL, killH, ABlk.kill, putΦ, argL, implies_true, indexAddrA, loadA, partP, partL, PV.nth, isAggD, Int.reduceToNat, Int.toNat_zero, Int.toNat_one, Int.reduceLT, Int.reduceLE, List.drop_zero, List.take_zero, Nat.add_zero, Int.le_refl, Int.cast_ofNat_Int, not_false_eq_true, not_true_eq_false, imp_self, and_self, gt1, gt2, Bool.not_not, Bool.cond_false_right, Bool.cond_true_left, Bool.cond_false_left, Bool.cond_true_right, Nat.reduceAdd, Nat.zero_add, Fin_n, Fin_r, FinQ, tapeOk, filt, AV.refsIn, AV.refsInL, refsH, ABlk.refsIn, pvL, Option.isSome_some, Option.getD_some, Option.getD_none, FinN, resC, resV, res1, tupP, AV.one, List.set_cons_succ, List.set_cons_zero, Option.some.injEq, minmaxA, foldI, lenA, isSliceD, isStrD, isSliceOrStr, Int.toNat_natCast, ne_eq, sliceA, natOf, List.map_cons, List.map_nil, Option.map_none, Option.map_some, Option.toList, List.append_nil, List.nil_append, List.cons_append, buildSliceA, idxOk, elemOk, PV.width, PV.cells, PV.one, convP, convA, srcA, isStrV, isByteD, isU8, List.all_cons, List.all_nil, Nat.beq_eq_true_eq, beq_self_eq_true, Nat.reduceLeDiff, Nat.reduceMul]
  refine AWp.loop (T := plan0) (α := Nat) (fun i => ([(1, .pv (.str c)), (5, .pv (.int .i64 (sumU c (l.take i)))), (8, .pv (.sl (l.map opV))), (9, .pv (.int .i64 l.length)), (10, .pv (.int .i64 i))], []))
    (fun i => i ≤ l.length) (fun i => l.length - i)
    ⟨0, Nat.zero_le _, ⟨by simp [fitR, look, sumU], trivial, rfl, rfl, rfl⟩⟩ ?_
  rintro i h1
  have hi1 : IntKind.i64.wrap ((i : Int) + 1) = ((i + 1 : Nat) : Int) := by rw [i64_in _ (by omega)]; omega
  by_cases hlt : i < l.length
  · have c0 : decide ((i : Int) < (l.length : Int)) = true := by simp; omega
    have e1 := getD_op hlt
    have hk := hl _ (mem_getD' hlt)
    have hx := ha _ (mem_getD' hlt)
    have hs : sumU c (l.take (i + 1)) = sumU c (l.take i) + (bif undC (l.getD i default).k c then (l.getD i default).a else 0) := by rw [take_succ' hlt, sumU_append]; simp [sumU]
    have hb := sumU_le c (M := 1000000000000) (by omega) (l.take i) (fun x hx => ha x (List.mem_of_mem_take hx))
    rw [List.length_take, Nat.min_eq_left (by omega)] at hb
    have hb2 : (i : Int) * 1000000000000 ≤ 1000 * 1000000000000 := by omega
    generalize l.getD i default = x at e1 hk hx hs
    obtain ⟨o, co, k, y, a⟩ := x
    simp only [opV] at e1
    simp only at hk hx hs
    have w1 : IntKind.i64.wrap (sumU c (l.take i) + a) = sumU c (l.take i) + a := i64_in _ (by omega)
    simp only [c0, e1, hi1, w1, List.length_map, List.take_succ_cons, List.take_nil, k_sumOS_30, underCS, on_ss_eq, Tryz.underlying2, sz2, by2, ze2, Tryz.underlying3, sz3, by3, ze3, Tryz.underlying4, sz4, by4, ze4, Tryz.underlying9, sz9, by9, ze9, Tryz.underlying25, sz25, by25, ze25, Tryz.underlying51, sz51, by51, ze51, fa51_0, fa51_1, fa51_2, fa51_3, fa51_4, plan0, ev_skip, ev_seq, ev_region, ev_ret, ev_block, ev_exit, ev_loop, ev_cond, ev_scope, ev_label, condK_true, condK_false, condK_bool, isCut, Bool.false_eq_true, if_true, if_false, ↓reduceIte, false_implies, true_and, and_true, true_implies, KS_ap, KR_ap, steps_nil, stepsG_cons, thn_n, thn_e, thn_r, blk_n, blk_e, blk_r,     ev_op, ev_opG, opK_true, opK_false, isPureOp, List.contains_nil, List.contains_cons, Bool.or_false, Bool.false_or, cond_true, cond_false, aopP, callP_fn, callV_eq, mapV, allC, frzAll, frzL, opndV, ofV, ofV1, oc, ox, stripC, stripV, look_cons, upd_look, pureK_none, pureGK_eq, reduceCtorEq, Nat.reduceEqDiff, Nat.reduceLT, gAt, List.getElem?_toArray, List.getElem?_cons_succ, List.getElem?_cons_zero, Option.bind_some, Option.isNone_none, Option.isNone_some, Bool.false_and, Bool.and_false, Bool.and_self, Bool.and_true, Bool.true_and,     gK_bool, gK_whn, mkW, pickA, beq_true, beq_false, Bool.not_false, Bool.not_true, keepA, binA, binP, binI, binS, eqP, unA, unP, isC, extractA, List.length_cons, List.length_nil, List.getD_cons_zero, List.getD_cons_succ, frzOk, frz, AV.freeL, AV.free, PV.flat, PV.flat1, List.all_cons, List.all_nil, or_true, true_or, cxP_P, cxP_N, cxP_Φ, cxP_Ψ, cxP_Θ, cxP_rows, cxP_pins, cxQ_P, cxQ_N, cxQ_Φ, cxQ_Ψ, cxQ_Θ, cxQ_rows, cxQ_pins, putΘ, putΨ, noΘ, noΨ, ev_call, ev_alloc, ev_box, ev_makeSlice, ev_store, ev_append, binT_i, binT_s, binT_b, binT_ni, binT_np, binT_if, binT_pp, binT_agg, keyOk_i, keyOk_s, keyOk_b, keyOk_agg, packK_pv, packK_agg, pvL, notIn, ev_range, ev_next, rangeA, nextA, ev_makeMap, ev_mapUpdate, ev_delete, mapA, delA, lookupA, zvP, keyKind, callK_E, callK_Q, callK_P, qV_1, ↓all_qV, psiNew_eq, aopE, newB_some, putD_some, putD, hget, hset, hdel, storeA, putL, cellsA, partC, partA, fieldAddrA, addOff, nilCheckA, fieldV, buildA, packA, fieldPlaces, fillA, appendA, allW, killR_look, killS, AV.kill, AV.killL, killH, ABlk.kill, putΦ, argL, implies_true, indexAddrA, loadA, partP, partL, PV.nth, isAggD, Int.reduceToNat, Int.toNat_zero, Int.toNat_one, Int.reduceLT, Int.reduceLE, List.drop_zero, List.take_zero, Nat.add_zero, Int.le_refl, Int.cast_ofNat_Int, not_false_eq_true, not_true_eq_false, imp_self, and_self, gt1, gt2, Bool.not_not, Bool.cond_false_right, Bool.cond_true_left, Bool.cond_false_left, Bool.cond_true_right, Nat.reduceAdd, Nat.zero_add, Fin_n, Fin_r, FinQ, tapeOk, filt, AV.refsIn, AV.refsInL, refsH, ABlk.refsIn, pvL, Option.isSome_some, Option.getD_some, Option.getD_none, FinN, resC, resV, res1, tupP, AV.one, List.set_cons_succ, List.set_cons_zero, Option.some.injEq, minmaxA, foldI, lenA, isSliceD, isStrD, isSliceOrStr, Int.toNat_natCast, ne_eq, sliceA, natOf, List.map_cons, List.map_nil, Option.map_none, Option.map_some, Option.toList, List.append_nil, List.nil_append, List.cons_append, buildSliceA, idxOk, elemOk, PV.width, PV.cells, PV.one, convP, convA, srcA, isStrV, isByteD, isU8, List.all_cons, List.all_nil, Nat.beq_eq_true_eq, beq_self_eq_true, Nat.reduceLeDiff, Nat.reduceMul, ev_callG, gcallK_b, gcallK_w, callGc_true, callGc_false, List.forall_mem_cons, List.not_mem_nil, PV.one, AV.one]
    refine ⟨⟨by omega, by omega⟩, ⟨hk, hc⟩, fun h9 => ⟨i + 1, by omega, by omega, ⟨by simp [fitR, look, hs, h9], trivial, rfl, rfl, rfl⟩⟩, fun h9 => ⟨i + 1, by omega, by omega, ⟨by simp [fitR, look, hs, h9], trivial, rfl, rfl, rfl⟩⟩⟩
  · have c0 : decide ((i : Int) < (l.length : Int)) = false := by simp; omega
    simp only [c0, List.length_map, Tryz.underlying2, sz2, by2, ze2, Tryz.underlying3, sz3, by3, ze3, Tryz.underlying4, sz4, by4, ze4, Tryz.underlying9, sz9, by9, ze9, Tryz.underlying25, sz25, by25, ze25, Tryz.underlying51, sz51, by51, ze51, fa51_0, fa51_1, fa51_2, fa51_3, fa51_4, plan0, ev_skip, ev_seq, ev_region, ev_ret, ev_block, ev_exit, ev_loop, ev_cond, ev_scope, ev_label, condK_true, condK_false, condK_bool, isCut, Bool.false_eq_true, if_true, if_false, ↓reduceIte, false_implies, true_and, and_true, true_implies, KS_ap, KR_ap, steps_nil, stepsG_cons, thn_n, thn_e, thn_r, blk_n, blk_e, blk_r,     ev_op, ev_opG, opK_true, opK_false, isPureOp, List.contains_nil, List.contains_cons, Bool.or_false, Bool.false_or, cond_true, cond_false, aopP, callP_fn, callV_eq, mapV, allC, frzAll, frzL, opndV, ofV, ofV1, oc, ox, stripC, stripV, look_cons, upd_look, pureK_none, pureGK_eq, reduceCtorEq, Nat.reduceEqDiff, Nat.reduceLT, gAt, List.getElem?_toArray, List.getElem?_cons_succ, List.getElem?_cons_zero, Option.bind_some, Option.isNone_none, Option.isNone_some, Bool.false_and, Bool.and_false, Bool.and_self, Bool.and_true, Bool.true_and,     gK_bool, gK_whn, mkW, pickA, beq_true, beq_false, Bool.not_false, Bool.not_true, keepA, binA, binP, binI, binS, eqP, unA, unP, isC, extractA, List.length_cons, List.length_nil, List.getD_cons_zero, List.getD_cons_succ, frzOk, frz, AV.freeL, AV.free, PV.flat, PV.flat1, List.all_cons, List.all_nil, or_true, true_or, cxP_P, cxP_N, cxP_Φ, cxP_Ψ, cxP_Θ, cxP_rows, cxP_pins, cxQ_P, cxQ_N, cxQ_Φ, cxQ_Ψ, cxQ_Θ, cxQ_rows, cxQ_pins, putΘ, putΨ, noΘ, noΨ, ev_call, ev_alloc, ev_box, ev_makeSlice, ev_store, ev_append, binT_i, binT_s, binT_b, binT_ni, binT_np, binT_if, binT_pp, binT_agg, keyOk_i, keyOk_s, keyOk_b, keyOk_agg, packK_pv, packK_agg, pvL, notIn, ev_range, ev_next, rangeA, nextA, ev_makeMap, ev_mapUpdate, ev_delete, mapA, delA, lookupA, zvP, keyKind, callK_E, callK_Q, callK_P, qV_1, ↓all_qV, psiNew_eq, aopE, newB_some, putD_some, putD, hget, hset, hdel, storeA, putL, cellsA, partC, partA, fieldAddrA, addOff, nilCheckA, fieldV, buildA, packA, fieldPlaces, fillA, appendA, allW, killR_look, killS, AV.kill, AV.killL, killH, ABlk.kill, putΦ, argL, implies_true, indexAddrA, loadA, partP, partL, PV.nth, isAggD, Int.reduceToNat, Int.toNat_zero, Int.toNat_one, Int.reduceLT, Int.reduceLE, List.drop_zero, List.take_zero, Nat.add_zero, Int.le_refl, Int.cast_ofNat_Int, not_false_eq_true, not_true_eq_false, imp_self, and_self, gt1, gt2, Bool.not_not, Bool.cond_false_right, Bool.cond_true_left, Bool.cond_false_left, Bool.cond_true_right, Nat.reduceAdd, Nat.zero_add, Fin_n, Fin_r, FinQ, tapeOk, filt, AV.refsIn, AV.refsInL, refsH, ABlk.refsIn, pvL, Option.isSome_some, Option.getD_some, Option.getD_none, FinN, resC, resV, res1, tupP, AV.one, List.set_cons_succ, List.set_cons_zero, Option.some.injEq, minmaxA, foldI, lenA, isSliceD, isStrD, isSliceOrStr, Int.toNat_natCast, ne_eq, sliceA, natOf, List.map_cons, List.map_nil, Option.map_none, Option.map_some, Option.toList, List.append_nil, List.nil_append, List.cons_append, buildSliceA, idxOk, elemOk, PV.width, PV.cells, PV.one, convP, convA, srcA, isStrV, isByteD, isU8, List.all_cons, List.all_nil, Nat.beq_eq_true_eq, beq_self_eq_true, Nat.reduceLeDiff, Nat.reduceMul]
    rw [List.take_of_length_le (by omega)]
noncomputable def U7 (g : FuncId) : PSpec := (putΦ U6 9 sumOS) g
theorem hU7 : TabSound GG U7 := (hU6.put w_sumOS)
theorem runC_len (l : List Opn) (left : List Lft) : (runC l left).2.1.length ≤ l.length ∧ (runC l left).2.2.length ≤ l.length := by
  have key : ∀ (s : List Opn) (z : IM × List Opn × List Opn), (s.foldl stepC z).2.1.length ≤ z.2.1.length + s.length ∧ (s.foldl stepC z).2.2.length ≤ z.2.2.length + s.length := by
    intro s
    induction s with
    | nil => intro z; simp
    | cons x r ih =>
      intro z
      have := ih (stepC z x)
      have h1 : (stepC z x).2.1.length ≤ z.2.1.length + 1 := by
        simp only [stepC]; cases decide (0 < covF z.1 x) <;> simp
      have h2 : (stepC z x).2.2.length ≤ z.2.2.length + 1 := by
        simp only [stepC]; cases decide (0 < x.a - covF z.1 x) <;> simp
      simp only [List.foldl_cons, List.length_cons]
      omega
  have := key (isort ltO l) (restI left, [], [])
  rw [isort_length] at this
  simpa [runC] using this
theorem lapF_len (m : IM) : ∀ left, (lapF m left).length ≤ left.length
  | [] => Nat.le_refl _
  | x :: r => by
    have := lapF_len m r
    simp only [lapF, List.length_cons]
    cases decide (0 < aget x.k m) <;> simp <;> omega
noncomputable def saneS : PSpec := on_ (True) (.bool true)
theorem saneCar : carF [⟨1, 1, [49], 1, 6⟩, ⟨1, 2, [49], 1, 7⟩] [⟨[49], 10⟩] = .tup [.agg [.sl [.agg [.int .i64 1, .int .i64 1, .str [49], .int .i64 1, .int .i64 6], .agg [.int .i64 1, .int .i64 2, .str [49], .int .i64 1, .int .i64 4]], .sl [.agg [.int .i64 1, .int .i64 2, .str [49], .int .i64 1, .int .i64 3]], .sl []], .int .i64 0] := by
  kernel_rfl
theorem k_saneS_5 {args : List PV} : U7 5 args = carryS args := rfl
theorem w_saneS : PSound GG 11 saneS := by
  refine PSound.of_wpc (C := cxP Tryz.prog U7 [] 56) (T := plan0) Tryz.func11 rfl rfl rfl (Fit.pure (G := GG) hU7 mixed) (fun args h => ?_)
  unfold saneS at h
  obtain ⟨rfl, hp⟩ := on__inv h
  refine ⟨by simp [cxP], ?_⟩
  simp only [saneS, on__eq, Tryz.f11, argL, plan0]
  simp only [opOf_agg, lfOf_agg, saneCar, k_saneS_5, carryS, on_ll_eq, ev_rowlit0, Tryz.underlying1, sz1, by1, ze1, Tryz.underlying2, sz2, by2, ze2, Tryz.underlying3, sz3, by3, ze3, Tryz.underlying4, sz4, by4, ze4, Tryz.underlying9, sz9, by9, ze9, Tryz.underlying25, sz25, by25, ze25, Tryz.underlying26, sz26, by26, ze26, Tryz.underlying28, sz28, by28, ze28, fa28_0, fa28_1, fa28_2, Tryz.underlying29, sz29, by29, ze29, Tryz.underlying30, sz30, by30, ze30, Tryz.underlying48, sz48, by48, ze48, fa48_0, fa48_1, Tryz.underlying51, sz51, by51, ze51, fa51_0, fa51_1, fa51_2, fa51_3, fa51_4, ev_skip, ev_seq, ev_region, ev_ret, ev_block, ev_exit, ev_loop, ev_cond, ev_scope, ev_label, condK_true, condK_false, condK_bool, isCut, Bool.false_eq_true, if_true, if_false, ↓reduceIte, false_implies, true_and, and_true, true_implies, KS_ap, KR_ap, steps_nil, stepsG_cons, thn_n, thn_e, thn_r, blk_n, blk_e, blk_r,     ev_op, ev_opG, opK_true, opK_false, isPureOp, List.contains_nil, List.contains_cons, Bool.or_false, Bool.false_or, cond_true, cond_false, aopP, callP_fn, callV_eq, mapV, allC, frzAll, frzL, opndV, ofV, ofV1, oc, ox, stripC, stripV, look_cons, upd_look, pureK_none, pureGK_eq, reduceCtorEq, Nat.reduceEqDiff, Nat.reduceLT, gAt, List.getElem?_toArray, List.getElem?_cons_succ, List.getElem?_cons_zero, Option.bind_some, Option.isNone_none, Option.isNone_some, Bool.false_and, Bool.and_false, Bool.and_self, Bool.and_true, Bool.true_and,     gK_bool, gK_whn, mkW, pickA, beq_true, beq_false, Bool.not_false, Bool.not_true, keepA, binA, binP, binI, binS, eqP, unA, unP, isC, extractA, List.length_cons, List.length_nil, List.getD_cons_zero, List.getD_cons_succ, frzOk, frz, AV.freeL, AV.free, PV.flat, PV.flat1, List.all_cons, List.all_nil, or_true, true_or, cxP_P, cxP_N, cxP_Φ, cxP_Ψ, cxP_Θ, cxP_rows, cxP_pins, cxQ_P, cxQ_N, cxQ_Φ, cxQ_Ψ, cxQ_Θ, cxQ_rows, cxQ_pins, putΘ, putΨ, noΘ, noΨ, ev_call, ev_alloc, ev_box, ev_makeSlice, ev_store, ev_append, binT_i, binT_s, binT_b, binT_ni, binT_np, binT_if, binT_pp, binT_agg, keyOk_i, keyOk_s, keyOk_b, keyOk_agg, packK_pv, packK_agg, pvL, notIn, ev_range, ev_next, rangeA, nextA, ev_makeMap, ev_mapUpdate, ev_delete, mapA, delA, lookupA, zvP, keyKind, callK_E, callK_Q, callK_P, qV_1, ↓all_qV, psiNew_eq, aopE, newB_some, putD_some, putD, hget, hset, hdel, storeA, putL, cellsA, partC, partA, fieldAddrA, addOff, nilCheckA, fieldV, buildA, packA, fieldPlaces, fillA, appendA, allW, killR_look, killS, AV.kill, AV.killL, killH, ABlk.kill, putΦ, argL, implies_true, indexAddrA, loadA, partP, partL, PV.nth, isAggD, Int.reduceToNat, Int.toNat_zero, Int.toNat_one, Int.reduceLT, Int.reduceLE, List.drop_zero, List.take_zero, Nat.add_zero, Int.le_refl, Int.cast_ofNat_Int, not_false_eq_true, not_true_eq_false, imp_self, and_self, gt1, gt2, Bool.not_not, Bool.cond_false_right, Bool.cond_true_left, Bool.cond_false_left, Bool.cond_true_right, Nat.reduceAdd, Nat.zero_add, Fin_n, Fin_r, FinQ, tapeOk, filt, AV.refsIn, AV.refsInL, refsH, ABlk.refsIn, pvL, Option.isSome_some, Option.getD_some, Option.getD_none, FinN, resC, resV, res1, tupP, AV.one, List.set_cons_succ, List.set_cons_zero, Option.some.injEq, minmaxA, foldI, lenA, isSliceD, isStrD, isSliceOrStr, Int.toNat_natCast, ne_eq, sliceA, natOf, List.map_cons, List.map_nil, Option.map_none, Option.map_some, Option.toList, List.append_nil, List.nil_append, List.cons_append, buildSliceA, idxOk, elemOk, PV.width, PV.cells, PV.one, convP, convA, srcA, isStrV, isByteD, isU8, List.all_cons, List.all_nil, Nat.beq_eq_true_eq, beq_self_eq_true, Nat.reduceLeDiff, Nat.reduceMul, ev_callG, gcallK_b, gcallK_w, callGc_true, callGc_false, List.forall_mem_cons, List.not_mem_nil, PV.one, AV.one]
  exact ⟨⟨[⟨1, 1, [49], 1, 6⟩, ⟨1, 2, [49], 1, 7⟩], rfl, by unfold isOps; decide⟩, [⟨[49], 10⟩], rfl, by unfold isLfs; decide⟩
noncomputable def U8 (g : FuncId) : PSpec := (putΦ U7 11 saneS) g
theorem hU8 : TabSound GG U8 := (hU7.put w_saneS)
end Go.AM
