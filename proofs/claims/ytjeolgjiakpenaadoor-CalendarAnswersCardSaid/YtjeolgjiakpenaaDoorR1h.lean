/-
  A part of a proof: see the last text of this claim for what is proved.
-/
import Derived.Test.YtjeolgjiakpenaaDoorR1g
namespace Go.AM
open Go Go.Proofs Go.IntWalk Go.Shelf
set_option maxRecDepth 100000
set_option linter.unusedSimpArgs false
set_option linter.unusedVariables false
theorem hnoΘ : QTab GG noΘ := QTab.nil
theorem hnoΨ : ETab GG noΨ := ETab.nil
def isI (p : PV) : Prop := ∃ n, p = .int .i64 n ∧ -9223372036854775808 ≤ n ∧ n ≤ 9223372036854775807
/-- The tape. -/
def Tp (cs : List PV) : Prop := ∃ (ints : List PV) (k : Nat), cs = [.sl ints, .int .i64 k] ∧ k ≤ ints.length ∧ ints.length ≤ 500 ∧ ∀ e, e ∈ ints → isI e
def preN (args : List PV) : Prop := ∃ k : Int, args = [.int .i64 k] ∧ 1 ≤ k ∧ k ≤ 1000000000000000000
theorem preN_eq {k : Int} : preN [.int .i64 k] = (1 ≤ k ∧ k ≤ 1000000000000000000) := propext ⟨fun ⟨k', e, h⟩ => by simp only [List.cons.injEq, PV.int.injEq, and_true, true_and] at e; subst e; exact h, fun h => ⟨k, rfl, h⟩⟩
def intV (n : Int) : PV := .int .i64 n
def arg1 : List PV → Int
  | .int _ k :: _ => k
  | _ => 0
def arg2 : List PV → Int
  | _ :: .int _ k :: _ => k
  | _ => 0
def okN (args : List PV) (n : Int) : Prop := 0 ≤ n ∧ n < arg1 args
noncomputable def nS : QSpec := qV Tp preN intV okN
theorem w_nS : QSound GG 19 nS := by
  unfold nS
  refine QSound.of_wpcV (C := cxQ Tryd.prog Φ0 noΘ noΨ [] [9000] 41) 9000 Tryd.func19 rfl rfl rfl (Fit.all (G := GG) hΦ0 hnoΘ hnoΨ mixed) rfl (fun args h => ?_) (fun args h => ?_)
  · obtain ⟨k, rfl, h1, h2⟩ := h
    exact ⟨0, Int.le_refl _, h1⟩
  · obtain ⟨k, rfl, h1, h2⟩ := h
    refine ⟨by simp [cxQ], ?_⟩
    refine AWp.look_in (κ := 9000) (J := Tp) rfl (fun cs hJ hone => ?_)
    obtain ⟨ints, at', rfl, hk, hl, hi⟩ := hJ
    refine wpc_sound (T := plan0) _ _ _ ?_
    by_cases hlt : at' < ints.length
    · obtain ⟨m, hm, hm1, hm2⟩ : ∃ m, ints.getD at' default = .int .i64 m ∧ -9223372036854775808 ≤ m ∧ m ≤ 9223372036854775807 := by
        have h3 := hi (ints[at']'hlt) (List.getElem_mem _)
        obtain ⟨m, e, b1, b2⟩ := h3
        exact ⟨m, by simp [List.getD_eq_getElem?_getD, hlt, e], b1, b2⟩
      have c1 : decide ((ints.length : Int) ≤ (at' : Int)) = false := by simp; omega
      simp only [c1, hm, List.map_cons, List.map_nil, Tryd.underlying1, sz1, by1, ze1, Tryd.underlying3, sz3, by3, ze3, Tryd.underlying4, sz4, by4, ze4, Tryd.underlying23, sz23, by23, ze23, Tryd.underlying40, sz40, by40, ze40, Tryd.underlying54, sz54, by54, ze54, fa54_0, fa54_1, Tryd.f19, plan0, ev_skip, ev_seq, ev_region, ev_ret, ev_block, ev_exit, ev_loop, ev_cond, ev_scope, ev_label, condK_true, condK_false, condK_bool, isCut, Bool.false_eq_true, if_true, if_false, ↓reduceIte, false_implies, true_and, and_true, true_implies, KS_ap, KR_ap, steps_nil, stepsG_cons, thn_n, thn_e, thn_r, blk_n, blk_e, blk_r,     ev_op, ev_opG, opK_true, opK_false, isPureOp, List.contains_nil, List.contains_cons, Bool.or_false, Bool.false_or, cond_true, cond_false, aopP, callP_fn, callV_eq, mapV, allC, frzAll, frzL, opndV, ofV, ofV1, oc, ox, stripC, stripV, look_cons, upd_look, pureK_none, pureGK_eq, reduceCtorEq, Nat.reduceEqDiff, Nat.reduceLT, gAt, List.getElem?_toArray, List.getElem?_cons_succ, List.getElem?_cons_zero, Option.bind_some, Option.isNone_none, Option.isNone_some, Bool.false_and, Bool.and_false, Bool.and_self, Bool.and_true, Bool.true_and,     gK_bool, gK_whn, mkW, pickA, beq_true, beq_false, Bool.not_false, Bool.not_true, keepA, binA, binP, binI, binS, eqP, unA, unP, isC, extractA, List.length_cons, List.length_nil, List.getD_cons_zero, List.getD_cons_succ, frzOk, frz, AV.freeL, AV.free, PV.flat, PV.flat1, List.all_cons, List.all_nil, or_true, true_or, cxP_P, cxP_N, cxP_Φ, cxP_Ψ, cxP_Θ, cxP_rows, cxP_pins, cxQ_P, cxQ_N, cxQ_Φ, cxQ_Ψ, cxQ_Θ, cxQ_rows, cxQ_pins, putΘ, putΨ, noΘ, noΨ, ev_call, ev_alloc, ev_box, ev_makeSlice, ev_store, ev_append, callK_E, callK_Q, callK_P, qV_1, ↓all_qV, psiNew_eq, aopE, newB_some, putD_some, putD, hget, hset, hdel, storeA, putL, cellsA, partC, partA, fieldAddrA, addOff, nilCheckA, fieldV, buildA, packA, fieldPlaces, fillA, appendA, allW, killR_look, killS, AV.kill, AV.killL, killH, ABlk.kill, putΦ, argL, implies_true, indexAddrA, loadA, partP, partL, PV.nth, isAggD, Int.reduceToNat, Int.toNat_zero, Int.toNat_one, Int.reduceLT, Int.reduceLE, List.drop_zero, List.take_zero, Nat.add_zero, Int.le_refl, Int.cast_ofNat_Int, not_false_eq_true, not_true_eq_false, imp_self, and_self, gt1, gt2, Bool.not_not, Bool.cond_false_right, Bool.cond_true_left, Bool.cond_false_left, Bool.cond_true_right, Nat.reduceAdd, Nat.zero_add, Fin_n, Fin_r, FinQ, tapeOk, filt, AV.refsIn, AV.refsInL, refsH, ABlk.refsIn, pvL, Option.isSome_some, Option.getD_some, Option.getD_none, FinN, resC, resV, res1, tupP, AV.one, List.set_cons_succ, List.set_cons_zero, Option.some.injEq, minmaxA, foldI, lenA, isSliceD, isStrD, isSliceOrStr, Int.toNat_natCast, ne_eq, sliceA, natOf, List.map_cons, List.map_nil, Option.map_none, Option.map_some, Option.toList, List.append_nil, List.nil_append, List.cons_append, buildSliceA, idxOk, elemOk, PV.width, PV.cells, PV.one, convP, convA, srcA, isStrV, isByteD, isU8, List.all_cons, List.all_nil, Nat.beq_eq_true_eq, beq_self_eq_true, Nat.reduceLeDiff, Nat.reduceMul]
      have hw : IntKind.i64.wrap ((at' : Int) + 1) = ((at' + 1 : Nat) : Int) := by rw [i64_in _ (by omega)]; omega
      have tp : Tp [.sl ints, .int .i64 ((at' + 1 : Nat) : Int)] := ⟨ints, at' + 1, rfl, by omega, hl, hi⟩
      have b1 : m.tmod k < k := Int.tmod_lt_of_pos m (by omega)
      have b2 : -k < m.tmod k := Int.lt_tmod_of_pos m (by omega)
      rw [hw]
      refine ⟨by kernel_rfl, by kernel_rfl, by omega, by omega, fun h => ⟨⟨_, rfl, tp, rfl⟩, ?_⟩, fun h => ⟨⟨_, rfl, tp, rfl⟩, ?_⟩⟩
      · simp only [decide_eq_true_eq] at h
        exact ⟨_, rfl, by rw [i64_in _ (by omega)]; omega, by rw [i64_in _ (by omega)]; simp only [arg1]; omega⟩
      · simp only [decide_eq_false_iff_not] at h
        exact ⟨_, rfl, by omega, b1⟩
    · have c1 : decide ((ints.length : Int) ≤ (at' : Int)) = true := by simp; omega
      simp only [c1, List.map_cons, List.map_nil, Tryd.underlying1, sz1, by1, ze1, Tryd.underlying3, sz3, by3, ze3, Tryd.underlying4, sz4, by4, ze4, Tryd.underlying23, sz23, by23, ze23, Tryd.underlying40, sz40, by40, ze40, Tryd.underlying54, sz54, by54, ze54, fa54_0, fa54_1, Tryd.f19, plan0, ev_skip, ev_seq, ev_region, ev_ret, ev_block, ev_exit, ev_loop, ev_cond, ev_scope, ev_label, condK_true, condK_false, condK_bool, isCut, Bool.false_eq_true, if_true, if_false, ↓reduceIte, false_implies, true_and, and_true, true_implies, KS_ap, KR_ap, steps_nil, stepsG_cons, thn_n, thn_e, thn_r, blk_n, blk_e, blk_r,     ev_op, ev_opG, opK_true, opK_false, isPureOp, List.contains_nil, List.contains_cons, Bool.or_false, Bool.false_or, cond_true, cond_false, aopP, callP_fn, callV_eq, mapV, allC, frzAll, frzL, opndV, ofV, ofV1, oc, ox, stripC, stripV, look_cons, upd_look, pureK_none, pureGK_eq, reduceCtorEq, Nat.reduceEqDiff, Nat.reduceLT, gAt, List.getElem?_toArray, List.getElem?_cons_succ, List.getElem?_cons_zero, Option.bind_some, Option.isNone_none, Option.isNone_some, Bool.false_and, Bool.and_false, Bool.and_self, Bool.and_true, Bool.true_and,     gK_bool, gK_whn, mkW, pickA, beq_true, beq_false, Bool.not_false, Bool.not_true, keepA, binA, binP, binI, binS, eqP, unA, unP, isC, extractA, List.length_cons, List.length_nil, List.getD_cons_zero, List.getD_cons_succ, frzOk, frz, AV.freeL, AV.free, PV.flat, PV.flat1, List.all_cons, List.all_nil, or_true, true_or, cxP_P, cxP_N, cxP_Φ, cxP_Ψ, cxP_Θ, cxP_rows, cxP_pins, cxQ_P, cxQ_N, cxQ_Φ, cxQ_Ψ, cxQ_Θ, cxQ_rows, cxQ_pins, putΘ, putΨ, noΘ, noΨ, ev_call, ev_alloc, ev_box, ev_makeSlice, ev_store, ev_append, callK_E, callK_Q, callK_P, qV_1, ↓all_qV, psiNew_eq, aopE, newB_some, putD_some, putD, hget, hset, hdel, storeA, putL, cellsA, partC, partA, fieldAddrA, addOff, nilCheckA, fieldV, buildA, packA, fieldPlaces, fillA, appendA, allW, killR_look, killS, AV.kill, AV.killL, killH, ABlk.kill, putΦ, argL, implies_true, indexAddrA, loadA, partP, partL, PV.nth, isAggD, Int.reduceToNat, Int.toNat_zero, Int.toNat_one, Int.reduceLT, Int.reduceLE, List.drop_zero, List.take_zero, Nat.add_zero, Int.le_refl, Int.cast_ofNat_Int, not_false_eq_true, not_true_eq_false, imp_self, and_self, gt1, gt2, Bool.not_not, Bool.cond_false_right, Bool.cond_true_left, Bool.cond_false_left, Bool.cond_true_right, Nat.reduceAdd, Nat.zero_add, Fin_n, Fin_r, FinQ, tapeOk, filt, AV.refsIn, AV.refsInL, refsH, ABlk.refsIn, pvL, Option.isSome_some, Option.getD_some, Option.getD_none, FinN, resC, resV, res1, tupP, AV.one, List.set_cons_succ, List.set_cons_zero, Option.some.injEq, minmaxA, foldI, lenA, isSliceD, isStrD, isSliceOrStr, Int.toNat_natCast, ne_eq, sliceA, natOf, List.map_cons, List.map_nil, Option.map_none, Option.map_some, Option.toList, List.append_nil, List.nil_append, List.cons_append, buildSliceA, idxOk, elemOk, PV.width, PV.cells, PV.one, convP, convA, srcA, isStrV, isByteD, isU8, List.all_cons, List.all_nil, Nat.beq_eq_true_eq, beq_self_eq_true, Nat.reduceLeDiff, Nat.reduceMul]
      refine ⟨by kernel_rfl, ⟨_, rfl, ⟨ints, at', rfl, hk, hl, hi⟩, rfl⟩, ⟨0, rfl, Int.le_refl _, h1⟩⟩
noncomputable def Θ1 (g : FuncId) : Option QSpec := putΘ noΘ 19 nS g
theorem hΘ1 : QTab GG Θ1 := hnoΘ.put w_nS
def preT (args : List PV) : Prop := ∃ es, args = [.sl es] ∧ es.length ≤ 9223372036854775807 ∧ ∀ e, e ∈ es → isI e
noncomputable def newS : ESpec := psiNew Tp preT
theorem w_newS : ESound GG 18 newS := by
  unfold newS
  refine ESound.of_new (C := cxQ Tryd.prog Φ0 noΘ noΨ [] [] 10) (T := plan0) Tryd.func18 rfl rfl rfl rfl (Fit.all (G := GG) hΦ0 hnoΘ hnoΨ mixed) (fun args h => ?_)
  obtain ⟨es, rfl, h1, h2⟩ := h
  refine ⟨by simp [cxQ], ?_⟩
  simp only [Tryd.underlying3, sz3, by3, ze3, Tryd.underlying23, sz23, by23, ze23, Tryd.underlying40, sz40, by40, ze40, Tryd.underlying54, sz54, by54, ze54, fa54_0, fa54_1, Tryd.f18, plan0, ev_skip, ev_seq, ev_region, ev_ret, ev_block, ev_exit, ev_loop, ev_cond, ev_scope, ev_label, condK_true, condK_false, condK_bool, isCut, Bool.false_eq_true, if_true, if_false, ↓reduceIte, false_implies, true_and, and_true, true_implies, KS_ap, KR_ap, steps_nil, stepsG_cons, thn_n, thn_e, thn_r, blk_n, blk_e, blk_r,     ev_op, ev_opG, opK_true, opK_false, isPureOp, List.contains_nil, List.contains_cons, Bool.or_false, Bool.false_or, cond_true, cond_false, aopP, callP_fn, callV_eq, mapV, allC, frzAll, frzL, opndV, ofV, ofV1, oc, ox, stripC, stripV, look_cons, upd_look, pureK_none, pureGK_eq, reduceCtorEq, Nat.reduceEqDiff, Nat.reduceLT, gAt, List.getElem?_toArray, List.getElem?_cons_succ, List.getElem?_cons_zero, Option.bind_some, Option.isNone_none, Option.isNone_some, Bool.false_and, Bool.and_false, Bool.and_self, Bool.and_true, Bool.true_and,     gK_bool, gK_whn, mkW, pickA, beq_true, beq_false, Bool.not_false, Bool.not_true, keepA, binA, binP, binI, binS, eqP, unA, unP, isC, extractA, List.length_cons, List.length_nil, List.getD_cons_zero, List.getD_cons_succ, frzOk, frz, AV.freeL, AV.free, PV.flat, PV.flat1, List.all_cons, List.all_nil, or_true, true_or, cxP_P, cxP_N, cxP_Φ, cxP_Ψ, cxP_Θ, cxP_rows, cxP_pins, cxQ_P, cxQ_N, cxQ_Φ, cxQ_Ψ, cxQ_Θ, cxQ_rows, cxQ_pins, putΘ, putΨ, noΘ, noΨ, ev_call, ev_alloc, ev_box, ev_makeSlice, ev_store, ev_append, callK_E, callK_Q, callK_P, qV_1, ↓all_qV, psiNew_eq, aopE, newB_some, putD_some, putD, hget, hset, hdel, storeA, putL, cellsA, partC, partA, fieldAddrA, addOff, nilCheckA, fieldV, buildA, packA, fieldPlaces, fillA, appendA, allW, killR_look, killS, AV.kill, AV.killL, killH, ABlk.kill, putΦ, argL, implies_true, indexAddrA, loadA, partP, partL, PV.nth, isAggD, Int.reduceToNat, Int.toNat_zero, Int.toNat_one, Int.reduceLT, Int.reduceLE, List.drop_zero, List.take_zero, Nat.add_zero, Int.le_refl, Int.cast_ofNat_Int, not_false_eq_true, not_true_eq_false, imp_self, and_self, gt1, gt2, Bool.not_not, Bool.cond_false_right, Bool.cond_true_left, Bool.cond_false_left, Bool.cond_true_right, Nat.reduceAdd, Nat.zero_add, Fin_n, Fin_r, FinQ, tapeOk, filt, AV.refsIn, AV.refsInL, refsH, ABlk.refsIn, pvL, Option.isSome_some, Option.getD_some, Option.getD_none, FinN, resC, resV, res1, tupP, AV.one, List.set_cons_succ, List.set_cons_zero, Option.some.injEq, minmaxA, foldI, lenA, isSliceD, isStrD, isSliceOrStr, Int.toNat_natCast, ne_eq, sliceA, natOf, List.map_cons, List.map_nil, Option.map_none, Option.map_some, Option.toList, List.append_nil, List.nil_append, List.cons_append, buildSliceA, idxOk, elemOk, PV.width, PV.cells, PV.one, convP, convA, srcA, isStrV, isByteD, isU8, List.all_cons, List.all_nil, Nat.beq_eq_true_eq, beq_self_eq_true, Nat.reduceLeDiff, Nat.reduceMul]
  refine ⟨⟨by split <;> omega, by split <;> omega, fun p hp => ?_⟩, _, rfl, ⟨_, 0, rfl, Nat.zero_le _, ?_, fun e he => h2 e (List.mem_of_mem_take he)⟩, rfl⟩
  · obtain ⟨n, rfl, _⟩ := h2 p hp; rfl
  · rw [List.length_take]
    split <;> omega
noncomputable def Ψ1 (g : FuncId) : Option ESpec := putΨ noΨ 18 newS g
theorem hΨ1 : ETab GG Ψ1 := hnoΨ.put w_newS psiNew_mono

/-! ### Spoilt -/
def strV (s : List UInt8) : PV := .str s
def arg1s : List PV → Nat
  | .str s :: _ => s.length
  | _ => 0
def preSp (args : List PV) : Prop := ∃ (x : List UInt8) (ws : List (List UInt8)), args = [.str x, .sl (ws.map PV.str)] ∧ x.length ≤ 1000 ∧ ws ≠ [] ∧ ws.length ≤ 1000 ∧ ∀ w, w ∈ ws → w.length ≤ 100
def okSp (args : List PV) (s : List UInt8) : Prop := s.length ≤ 3000
noncomputable def spoiltS : QSpec := qV Tp preSp strV okSp
theorem w_spoiltS : QSound GG 30 spoiltS := by
  unfold spoiltS
  refine QSound.of_wpcV (C := cxQ Tryd.prog Φ0 Θ1 noΨ [] [9000] 36) 9000 Tryd.func30 rfl rfl rfl (Fit.all (G := GG) hΦ0 hΘ1 hnoΨ mixed) rfl (fun args h => ?_) (fun args h => ?_)
  · obtain ⟨x, ws, rfl, h1, h2, h3, h4⟩ := h
    exact ⟨[], Nat.zero_le _⟩
  · obtain ⟨x, ws, rfl, h1, h2, h3, h4⟩ := h
    refine ⟨by simp [cxQ], ?_⟩
    refine wpc_sound (T := plan0) _ _ _ ?_
    have hpos := List.length_pos_iff.2 h2
    have hw1 : IntKind.i64.wrap ((x.length : Int) + 1) = (x.length : Int) + 1 := i64_in _ (by omega)
    simp only [hw1, Θ1, nS, preN_eq, okN, arg1, List.length_map, Tryd.underlying3, sz3, by3, ze3, Tryd.underlying9, sz9, by9, ze9, Tryd.underlying40, sz40, by40, ze40, Tryd.underlying43, sz43, by43, ze43, Tryd.f30, plan0, ev_skip, ev_seq, ev_region, ev_ret, ev_block, ev_exit, ev_loop, ev_cond, ev_scope, ev_label, condK_true, condK_false, condK_bool, isCut, Bool.false_eq_true, if_true, if_false, ↓reduceIte, false_implies, true_and, and_true, true_implies, KS_ap, KR_ap, steps_nil, stepsG_cons, thn_n, thn_e, thn_r, blk_n, blk_e, blk_r,     ev_op, ev_opG, opK_true, opK_false, isPureOp, List.contains_nil, List.contains_cons, Bool.or_false, Bool.false_or, cond_true, cond_false, aopP, callP_fn, callV_eq, mapV, allC, frzAll, frzL, opndV, ofV, ofV1, oc, ox, stripC, stripV, look_cons, upd_look, pureK_none, pureGK_eq, reduceCtorEq, Nat.reduceEqDiff, Nat.reduceLT, gAt, List.getElem?_toArray, List.getElem?_cons_succ, List.getElem?_cons_zero, Option.bind_some, Option.isNone_none, Option.isNone_some, Bool.false_and, Bool.and_false, Bool.and_self, Bool.and_true, Bool.true_and,     gK_bool, gK_whn, mkW, pickA, beq_true, beq_false, Bool.not_false, Bool.not_true, keepA, binA, binP, binI, binS, eqP, unA, unP, isC, extractA, List.length_cons, List.length_nil, List.getD_cons_zero, List.getD_cons_succ, frzOk, frz, AV.freeL, AV.free, PV.flat, PV.flat1, List.all_cons, List.all_nil, or_true, true_or, cxP_P, cxP_N, cxP_Φ, cxP_Ψ, cxP_Θ, cxP_rows, cxP_pins, cxQ_P, cxQ_N, cxQ_Φ, cxQ_Ψ, cxQ_Θ, cxQ_rows, cxQ_pins, putΘ, putΨ, noΘ, noΨ, ev_call, ev_alloc, ev_box, ev_makeSlice, ev_store, ev_append, callK_E, callK_Q, callK_P, qV_1, ↓all_qVs, psiNew_eq, aopE, newB_some, putD_some, putD, hget, hset, hdel, storeA, putL, cellsA, partC, partA, fieldAddrA, addOff, nilCheckA, fieldV, buildA, packA, fieldPlaces, fillA, appendA, allW, killR_look, killS, AV.kill, AV.killL, killH, ABlk.kill, putΦ, argL, implies_true, indexAddrA, loadA, partP, partL, PV.nth, isAggD, Int.reduceToNat, Int.toNat_zero, Int.toNat_one, Int.reduceLT, Int.reduceLE, List.drop_zero, List.take_zero, Nat.add_zero, Int.le_refl, Int.cast_ofNat_Int, not_false_eq_true, not_true_eq_false, imp_self, and_self, gt1, gt2, Bool.not_not, Bool.cond_false_right, Bool.cond_true_left, Bool.cond_false_left, Bool.cond_true_right, Nat.reduceAdd, Nat.zero_add, Fin_n, Fin_r, FinQ, tapeOk, filt, AV.refsIn, AV.refsInL, refsH, ABlk.refsIn, pvL, Option.isSome_some, Option.getD_some, Option.getD_none, FinN, resC, resV, res1, tupP, AV.one, List.set_cons_succ, List.set_cons_zero, Option.some.injEq, minmaxA, foldI, lenA, isSliceD, isStrD, isSliceOrStr, Int.toNat_natCast, ne_eq, sliceA, natOf, List.map_cons, List.map_nil, Option.map_none, Option.map_some, Option.toList, List.append_nil, List.nil_append, List.cons_append, buildSliceA, idxOk, elemOk, PV.width, PV.cells, PV.one, convP, convA, srcA, isStrV, isByteD, isU8, List.all_cons, List.all_nil, Nat.beq_eq_true_eq, beq_self_eq_true, Nat.reduceLeDiff, Nat.reduceMul]
    refine ⟨⟨by omega, by omega⟩, fun n hn => ?_⟩
    obtain ⟨k, rfl⟩ := Int.eq_ofNat_of_zero_le hn.1
    have hk : k ≤ x.length := by omega
    simp only [Later_eq]
    refine ⟨⟨by omega, by omega⟩, fun n2 hn2 => ?_⟩
    obtain ⟨j, rfl⟩ := Int.eq_ofNat_of_zero_le hn2.1
    have hj : j < ws.length := by omega
    have hm := getD_strs hj
    have hwl : (ws.getD j []).length ≤ 100 := h4 _ (by rw [List.getD_eq_getElem?_getD, List.getElem?_eq_getElem hj]; exact List.getElem_mem _)
    generalize ws.getD j [] = w at hm hwl
    simp only [Later_eq, intV, hm, Θ1, nS, preN_eq, okN, arg1, List.length_map, Tryd.underlying3, sz3, by3, ze3, Tryd.underlying9, sz9, by9, ze9, Tryd.underlying40, sz40, by40, ze40, Tryd.underlying43, sz43, by43, ze43, plan0, ev_skip, ev_seq, ev_region, ev_ret, ev_block, ev_exit, ev_loop, ev_cond, ev_scope, ev_label, condK_true, condK_false, condK_bool, isCut, Bool.false_eq_true, if_true, if_false, ↓reduceIte, false_implies, true_and, and_true, true_implies, KS_ap, KR_ap, steps_nil, stepsG_cons, thn_n, thn_e, thn_r, blk_n, blk_e, blk_r,     ev_op, ev_opG, opK_true, opK_false, isPureOp, List.contains_nil, List.contains_cons, Bool.or_false, Bool.false_or, cond_true, cond_false, aopP, callP_fn, callV_eq, mapV, allC, frzAll, frzL, opndV, ofV, ofV1, oc, ox, stripC, stripV, look_cons, upd_look, pureK_none, pureGK_eq, reduceCtorEq, Nat.reduceEqDiff, Nat.reduceLT, gAt, List.getElem?_toArray, List.getElem?_cons_succ, List.getElem?_cons_zero, Option.bind_some, Option.isNone_none, Option.isNone_some, Bool.false_and, Bool.and_false, Bool.and_self, Bool.and_true, Bool.true_and,     gK_bool, gK_whn, mkW, pickA, beq_true, beq_false, Bool.not_false, Bool.not_true, keepA, binA, binP, binI, binS, eqP, unA, unP, isC, extractA, List.length_cons, List.length_nil, List.getD_cons_zero, List.getD_cons_succ, frzOk, frz, AV.freeL, AV.free, PV.flat, PV.flat1, List.all_cons, List.all_nil, or_true, true_or, cxP_P, cxP_N, cxP_Φ, cxP_Ψ, cxP_Θ, cxP_rows, cxP_pins, cxQ_P, cxQ_N, cxQ_Φ, cxQ_Ψ, cxQ_Θ, cxQ_rows, cxQ_pins, putΘ, putΨ, noΘ, noΨ, ev_call, ev_alloc, ev_box, ev_makeSlice, ev_store, ev_append, callK_E, callK_Q, callK_P, qV_1, ↓all_qVs, psiNew_eq, aopE, newB_some, putD_some, putD, hget, hset, hdel, storeA, putL, cellsA, partC, partA, fieldAddrA, addOff, nilCheckA, fieldV, buildA, packA, fieldPlaces, fillA, appendA, allW, killR_look, killS, AV.kill, AV.killL, killH, ABlk.kill, putΦ, argL, implies_true, indexAddrA, loadA, partP, partL, PV.nth, isAggD, Int.reduceToNat, Int.toNat_zero, Int.toNat_one, Int.reduceLT, Int.reduceLE, List.drop_zero, List.take_zero, Nat.add_zero, Int.le_refl, Int.cast_ofNat_Int, not_false_eq_true, not_true_eq_false, imp_self, and_self, gt1, gt2, Bool.not_not, Bool.cond_false_right, Bool.cond_true_left, Bool.cond_false_left, Bool.cond_true_right, Nat.reduceAdd, Nat.zero_add, Fin_n, Fin_r, FinQ, tapeOk, filt, AV.refsIn, AV.refsInL, refsH, ABlk.refsIn, pvL, Option.isSome_some, Option.getD_some, Option.getD_none, FinN, resC, resV, res1, tupP, AV.one, List.set_cons_succ, List.set_cons_zero, Option.some.injEq, minmaxA, foldI, lenA, isSliceD, isStrD, isSliceOrStr, Int.toNat_natCast, ne_eq, sliceA, natOf, List.map_cons, List.map_nil, Option.map_none, Option.map_some, Option.toList, List.append_nil, List.nil_append, List.cons_append, buildSliceA, idxOk, elemOk, PV.width, PV.cells, PV.one, convP, convA, srcA, isStrV, isByteD, isU8, List.all_cons, List.all_nil, Nat.beq_eq_true_eq, beq_self_eq_true, Nat.reduceLeDiff, Nat.reduceMul]
    refine ⟨⟨by omega, by omega⟩, by kernel_rfl, ⟨by omega, by omega⟩, by rw [List.length_take]; omega, fun m hm3 => ?_⟩
    have hw2 : IntKind.i64.wrap ((k : Int) + m) = (k : Int) + m := i64_in _ (by omega)
    rw [hw2]
    have hlen : (x.take k ++ w).length ≤ 1100 := by rw [List.length_append, List.length_take]; omega
    have hdl : ∀ z, (List.drop z (List.take x.length x)).length ≤ 1000 := fun z => by rw [List.length_drop, List.length_take]; omega
    refine ⟨⟨by split <;> omega, by split <;> omega⟩, ?_, _, rfl, ?_⟩
    · have := hdl ((if (k : Int) + m < (x.length : Int) then (k : Int) + m else (x.length : Int)).toNat)
      omega
    · have := hdl ((if (k : Int) + m < (x.length : Int) then (k : Int) + m else (x.length : Int)).toNat)
      simp only [okSp]
      rw [List.length_append]
      omega
noncomputable def Θ2 (g : FuncId) : Option QSpec := putΘ Θ1 30 spoiltS g
theorem hΘ2 : QTab GG Θ2 := hΘ1.put w_spoiltS
end Go.AM
