/-
  A part of a proof: see the last text of this claim for what is proved.
-/
import Derived.Test.YtolbfgiflhpjpaaDoorR6h
namespace Go.AM
open Go Go.Proofs Go.IntWalk
set_option maxRecDepth 100000
set_option linter.unusedSimpArgs false
set_option linter.unusedVariables false
def strV (s : List UInt8) : PV := .str s
/-- A small tree. -/
def treeP (l : List PV) : Prop := l.length ≤ 100 ∧ ∀ e, e ∈ l → ∃ c n, e = hV c n ∧ c.length ≤ 100
theorem treeP.isH {l : List PV} (h : treeP l) : ∀ e, e ∈ l → isH e := fun e he => by obtain ⟨c, n, e1, e2⟩ := h.2 e he; exact ⟨c, n, e1, by omega⟩
theorem leavesF_mem {l : List PV} {top : List UInt8} (h : treeP l) : ∀ e, e ∈ leavesF l top → ∃ c, e = .str c ∧ c.length ≤ 100 := by
  intro e he
  unfold leavesF at he
  simp only [List.mem_map, List.mem_filter] at he
  obtain ⟨x, ⟨hx, _⟩, rfl⟩ := he
  obtain ⟨c, n, rfl, hc⟩ := h.2 x hx
  exact ⟨c, rfl, hc⟩
theorem leavesF_len {l : List PV} {top : List UInt8} : (leavesF l top).length ≤ l.length := by
  unfold leavesF
  rw [List.length_map]; exact List.length_filter_le _ _
def preLf (args : List PV) : Prop := ∃ l, args = [.sl l] ∧ treeP l
def okLf (_ : List PV) (s : List UInt8) : Prop := s.length ≤ 100
noncomputable def leafS : QSpec := qV Tp preLf strV okLf
theorem w_leafS : QSound GG 29 leafS := by
  unfold leafS
  refine QSound.of_wpcV (C := cxQ Tryd.prog Φ14 Θ3 ΨL [] [9000] 21) 9000 Tryd.func29 rfl rfl rfl (Fit.all (G := GG) hΦ14 hΘ3 hΨL mixed) rfl (fun args h => ?_) (fun args h => ?_)
  · obtain ⟨l, rfl, h1⟩ := h
    exact ⟨[], Nat.zero_le _⟩
  · obtain ⟨l, rfl, h1⟩ := h
    refine ⟨by simp [cxQ], ?_⟩
    refine wpc_sound (T := plan0) _ _ _ ?_
    have hl := h1.1
    have b1 := leavesF_len (l := l) (top := [49])
    have b2 := leavesF_len (l := l) (top := [50])
    simp only [ΨL, psiRow_eq, leavesS, on_ls_eq, all_sl, Θ3, Θ2, Θ1, nS, preN_eq, okN, arg1, List.length_map, Tryd.underlying3, sz3, by3, ze3, Tryd.underlying4, sz4, by4, ze4, Tryd.underlying9, sz9, by9, ze9, Tryd.underlying23, sz23, by23, ze23, Tryd.underlying25, sz25, by25, ze25, Tryd.underlying40, sz40, by40, ze40, Tryd.underlying55, sz55, by55, ze55, fa55_0, fa55_1, Tryd.f29, plan0, ev_skip, ev_seq, ev_region, ev_ret, ev_block, ev_exit, ev_loop, ev_cond, ev_scope, ev_label, condK_true, condK_false, condK_bool, isCut, Bool.false_eq_true, if_true, if_false, ↓reduceIte, false_implies, true_and, and_true, true_implies, KS_ap, KR_ap, steps_nil, stepsG_cons, thn_n, thn_e, thn_r, blk_n, blk_e, blk_r,     ev_op, ev_opG, opK_true, opK_false, isPureOp, List.contains_nil, List.contains_cons, Bool.or_false, Bool.false_or, cond_true, cond_false, aopP, callP_fn, callV_eq, mapV, allC, frzAll, frzL, opndV, ofV, ofV1, oc, ox, stripC, stripV, look_cons, upd_look, pureK_none, pureGK_eq, reduceCtorEq, Nat.reduceEqDiff, Nat.reduceLT, gAt, List.getElem?_toArray, List.getElem?_cons_succ, List.getElem?_cons_zero, Option.bind_some, Option.isNone_none, Option.isNone_some, Bool.false_and, Bool.and_false, Bool.and_self, Bool.and_true, Bool.true_and,     gK_bool, gK_whn, mkW, pickA, beq_true, beq_false, Bool.not_false, Bool.not_true, keepA, binA, binP, binI, binS, eqP, unA, unP, isC, extractA, List.length_cons, List.length_nil, List.getD_cons_zero, List.getD_cons_succ, frzOk, frz, AV.freeL, AV.free, PV.flat, PV.flat1, List.all_cons, List.all_nil, or_true, true_or, cxP_P, cxP_N, cxP_Φ, cxP_Ψ, cxP_Θ, cxP_rows, cxP_pins, cxQ_P, cxQ_N, cxQ_Φ, cxQ_Ψ, cxQ_Θ, cxQ_rows, cxQ_pins, putΘ, putΨ, noΘ, noΨ, ev_call, ev_alloc, ev_box, ev_makeSlice, ev_store, ev_append, callK_E, callK_Q, callK_P, qV_1, ↓all_qVs, psiNew_eq, aopE, newB_some, putD_some, putD, hget, hset, hdel, storeA, putL, cellsA, partC, partA, fieldAddrA, addOff, nilCheckA, fieldV, buildA, packA, fieldPlaces, fillA, appendA, allW, killR_look, killS, AV.kill, AV.killL, killH, ABlk.kill, putΦ, argL, implies_true, indexAddrA, loadA, partP, partL, PV.nth, isAggD, Int.reduceToNat, Int.toNat_zero, Int.toNat_one, Int.reduceLT, Int.reduceLE, List.drop_zero, List.take_zero, Nat.add_zero, Int.le_refl, Int.cast_ofNat_Int, not_false_eq_true, not_true_eq_false, imp_self, and_self, gt1, gt2, Bool.not_not, Bool.cond_false_right, Bool.cond_true_left, Bool.cond_false_left, Bool.cond_true_right, Nat.reduceAdd, Nat.zero_add, Fin_n, Fin_r, FinQ, tapeOk, filt, AV.refsIn, AV.refsInL, refsH, ABlk.refsIn, pvL, Option.isSome_some, Option.getD_some, Option.getD_none, FinN, resC, resV, res1, tupP, AV.one, List.set_cons_succ, List.set_cons_zero, Option.some.injEq, minmaxA, foldI, lenA, isSliceD, isStrD, isSliceOrStr, Int.toNat_natCast, ne_eq, sliceA, natOf, List.map_cons, List.map_nil, Option.map_none, Option.map_some, Option.toList, List.append_nil, List.nil_append, List.cons_append, buildSliceA, idxOk, elemOk, PV.width, PV.cells, PV.one, convP, convA, srcA, isStrV, isByteD, isU8, List.all_cons, List.all_nil, Nat.beq_eq_true_eq, beq_self_eq_true, Nat.reduceLeDiff, Nat.reduceMul]
    rw [List.take_length]
    refine ⟨⟨h1.isH, by omega⟩, ⟨h1.isH, by omega⟩, rfl, fun e he => ?_, Nat.le_refl _, by omega, by simp only [maxLen]; omega, fun _ => ⟨[49], rfl, by simp [okLf]⟩, fun h2 => ⟨⟨?_, by omega⟩, fun n hn => ?_⟩⟩
    · obtain ⟨c, rfl, _⟩ := leavesF_mem h1 e he
      rfl
    · have : ¬ ((((leavesF l [49]).length + (leavesF l [50]).length : Nat) : Int) = 0) := by simpa using h2
      omega
    obtain ⟨j, rfl⟩ := Int.eq_ofNat_of_zero_le hn.1
    rw [List.take_length]
    have hj : j < (leavesF l [49] ++ leavesF l [50]).length := by rw [List.length_append]; omega
    obtain ⟨c, hc, hcl⟩ : ∃ c, (leavesF l [49] ++ leavesF l [50]).getD j default = .str c ∧ c.length ≤ 100 := by
      have := getD_mem hj
      rcases List.mem_append.1 this with h | h
      · exact leavesF_mem h1 _ h
      · exact leavesF_mem h1 _ h
    simp only [Later_eq, intV, hc, List.length_map, Tryd.underlying3, sz3, by3, ze3, Tryd.underlying4, sz4, by4, ze4, Tryd.underlying9, sz9, by9, ze9, Tryd.underlying23, sz23, by23, ze23, Tryd.underlying25, sz25, by25, ze25, Tryd.underlying40, sz40, by40, ze40, Tryd.underlying55, sz55, by55, ze55, fa55_0, fa55_1, plan0, ev_skip, ev_seq, ev_region, ev_ret, ev_block, ev_exit, ev_loop, ev_cond, ev_scope, ev_label, condK_true, condK_false, condK_bool, isCut, Bool.false_eq_true, if_true, if_false, ↓reduceIte, false_implies, true_and, and_true, true_implies, KS_ap, KR_ap, steps_nil, stepsG_cons, thn_n, thn_e, thn_r, blk_n, blk_e, blk_r,     ev_op, ev_opG, opK_true, opK_false, isPureOp, List.contains_nil, List.contains_cons, Bool.or_false, Bool.false_or, cond_true, cond_false, aopP, callP_fn, callV_eq, mapV, allC, frzAll, frzL, opndV, ofV, ofV1, oc, ox, stripC, stripV, look_cons, upd_look, pureK_none, pureGK_eq, reduceCtorEq, Nat.reduceEqDiff, Nat.reduceLT, gAt, List.getElem?_toArray, List.getElem?_cons_succ, List.getElem?_cons_zero, Option.bind_some, Option.isNone_none, Option.isNone_some, Bool.false_and, Bool.and_false, Bool.and_self, Bool.and_true, Bool.true_and,     gK_bool, gK_whn, mkW, pickA, beq_true, beq_false, Bool.not_false, Bool.not_true, keepA, binA, binP, binI, binS, eqP, unA, unP, isC, extractA, List.length_cons, List.length_nil, List.getD_cons_zero, List.getD_cons_succ, frzOk, frz, AV.freeL, AV.free, PV.flat, PV.flat1, List.all_cons, List.all_nil, or_true, true_or, cxP_P, cxP_N, cxP_Φ, cxP_Ψ, cxP_Θ, cxP_rows, cxP_pins, cxQ_P, cxQ_N, cxQ_Φ, cxQ_Ψ, cxQ_Θ, cxQ_rows, cxQ_pins, putΘ, putΨ, noΘ, noΨ, ev_call, ev_alloc, ev_box, ev_makeSlice, ev_store, ev_append, callK_E, callK_Q, callK_P, qV_1, ↓all_qV, psiNew_eq, aopE, newB_some, putD_some, putD, hget, hset, hdel, storeA, putL, cellsA, partC, partA, fieldAddrA, addOff, nilCheckA, fieldV, buildA, packA, fieldPlaces, fillA, appendA, allW, killR_look, killS, AV.kill, AV.killL, killH, ABlk.kill, putΦ, argL, implies_true, indexAddrA, loadA, partP, partL, PV.nth, isAggD, Int.reduceToNat, Int.toNat_zero, Int.toNat_one, Int.reduceLT, Int.reduceLE, List.drop_zero, List.take_zero, Nat.add_zero, Int.le_refl, Int.cast_ofNat_Int, not_false_eq_true, not_true_eq_false, imp_self, and_self, gt1, gt2, Bool.not_not, Bool.cond_false_right, Bool.cond_true_left, Bool.cond_false_left, Bool.cond_true_right, Nat.reduceAdd, Nat.zero_add, Fin_n, Fin_r, FinQ, tapeOk, filt, AV.refsIn, AV.refsInL, refsH, ABlk.refsIn, pvL, Option.isSome_some, Option.getD_some, Option.getD_none, FinN, resC, resV, res1, tupP, AV.one, List.set_cons_succ, List.set_cons_zero, Option.some.injEq, minmaxA, foldI, lenA, isSliceD, isStrD, isSliceOrStr, Int.toNat_natCast, ne_eq, sliceA, natOf, List.map_cons, List.map_nil, Option.map_none, Option.map_some, Option.toList, List.append_nil, List.nil_append, List.cons_append, buildSliceA, idxOk, elemOk, PV.width, PV.cells, PV.one, convP, convA, srcA, isStrV, isByteD, isU8, List.all_cons, List.all_nil, Nat.beq_eq_true_eq, beq_self_eq_true, Nat.reduceLeDiff, Nat.reduceMul]
    exact ⟨⟨by omega, by omega⟩, hj, c, rfl, hcl⟩
noncomputable def Θ4 (g : FuncId) : Option QSpec := putΘ Θ3 29 (qV Tp preLf strV okLf) g
theorem hΘ4 : QTab GG Θ4 := hΘ3.put w_leafS
end Go.AM
