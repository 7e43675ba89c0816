/-
  A part of a proof: see the last text of this claim for what is proved.
-/
import Derived.Test.YtifefpabgchglaaGreatDoorP6
namespace Go.AM
open Go Go.Proofs Go.IntWalk
set_option maxRecDepth 100000
set_option linter.unusedSimpArgs false
set_option linter.unusedVariables false
def on_ll (p : List PV → List PV → Prop) (f : List PV → List PV → PV) : PSpec
  | [.sl a0, .sl a1] => (p a0 a1, f a0 a1)
  | _ => (False, default)
theorem on_ll_eq {p : List PV → List PV → Prop} {f : List PV → List PV → PV} {a0 : List PV} {a1 : List PV} : on_ll p f [.sl a0, .sl a1] = (p a0 a1, f a0 a1) := rfl
theorem on_ll_inv {p : List PV → List PV → Prop} {f : List PV → List PV → PV} {args : List PV} (h : (on_ll p f args).1) : ∃ a0 : List PV, ∃ a1 : List PV, args = [.sl a0, .sl a1] ∧ p a0 a1 := by
  unfold on_ll at h
  split at h
  · exact ⟨_, _, rfl, h⟩
  · exact h.elim
def nOf : PV → Int
  | .int _ n => n
  | _ => 0
def allI (es : List PV) : Prop := ∃ l : List Int, es = l.map intV
noncomputable def Φ4 (g : FuncId) : PSpec := putΦ (putΦ Φ2 18 partsS) 11 partsCS g
theorem hΦ4 : TabSound GG Φ4 := (hΦ2.put w_partsS).put w_partsCS
noncomputable def equalS : PSpec := on_ll (fun a b => allI a ∧ allI b ∧ a.length ≤ 4611686018427387904) (fun a b => .bool (a.map nOf == b.map nOf))
theorem getD_intV {l : List Int} {i : Nat} (h : i < l.length) : (l.map intV).getD i default = .int .i64 (l.getD i 0) := by
  simp [List.getD_eq_getElem?_getD, h, intV]
theorem w_equalS : PSound GG 24 equalS := by
  refine PSound.of_wpc (C := cxP Tryz.prog Φ0 [] 26) (T := plan0) Tryz.func24 rfl rfl rfl (Fit.pure (G := GG) hΦ0 mixed) (fun args h => ?_)
  unfold equalS at h
  obtain ⟨p, q, rfl, hp⟩ := on_ll_inv h
  refine ⟨by simp [cxP], ?_⟩
  simp only [equalS, on_ll_eq, Tryz.f24, argL, plan0]
  obtain ⟨⟨a, rfl⟩, ⟨b, rfl⟩, hl⟩ := hp
  have hn : ∀ l : List Int, (l.map intV).map nOf = l := fun l => by simp [List.map_map, Function.comp_def, nOf, intV]
  simp only [List.length_map] at hl
  simp only [hn, List.length_map, Tryz.underlying3, Tryz.underlying22, sz3, sz22, ev_skip, ev_seq, ev_region, ev_ret, ev_block, ev_exit, ev_loop, ev_cond, ev_scope, ev_label, condK_true, condK_false, condK_bool, isCut, Bool.false_eq_true, if_true, if_false, ↓reduceIte, false_implies, true_and, and_true, true_implies, KS_ap, KR_ap, steps_nil, stepsG_cons, thn_n, thn_e, thn_r, blk_n, blk_e, blk_r,     ev_op, ev_opG, opK_true, opK_false, isPureOp, List.contains_nil, List.contains_cons, Bool.or_false, Bool.false_or, cond_true, cond_false, aopP, callP_fn, callV_eq, mapV, allC, frzAll, frzL, opndV, ofV, ofV1, oc, ox, stripC, stripV, look_cons, upd_look, pureK_none, pureGK_eq, reduceCtorEq, Nat.reduceEqDiff, Nat.reduceLT, gAt, List.getElem?_toArray, List.getElem?_cons_succ, List.getElem?_cons_zero, Option.bind_some, Option.isNone_none, Option.isNone_some, Bool.false_and, Bool.and_false, Bool.and_self, Bool.and_true, Bool.true_and,     gK_bool, gK_whn, mkW, pickA, beq_true, beq_false, Bool.not_false, Bool.not_true, keepA, binA, binP, binI, binS, eqP, unA, unP, isC, extractA, List.length_cons, List.length_nil, List.getD_cons_zero, List.getD_cons_succ, frzOk, frz, AV.freeL, AV.free, PV.flat, PV.flat1, List.all_cons, List.all_nil, or_true, true_or, cxP_P, cxP_N, cxP_Φ, cxP_Ψ, cxP_Θ, cxP_rows, cxP_pins, cxQ_P, cxQ_N, cxQ_Φ, cxQ_Ψ, cxQ_Θ, cxQ_rows, cxQ_pins, putΘ, putΨ, noΘ, noΨ, ev_call, ev_alloc, ev_box, ev_makeSlice, ev_store, ev_append, ev_range, ev_next, rangeA, nextA, ev_makeMap, ev_mapUpdate, ev_delete, mapA, delA, lookupA, zvP, keyKind, callK_E, callK_Q, callK_P, qV_1, ↓all_qV, psiNew_eq, aopE, newB_some, putD_some, putD, hget, hset, hdel, storeA, putL, cellsA, partC, partA, fieldAddrA, addOff, nilCheckA, fieldV, buildA, packA, fieldPlaces, fillA, appendA, allW, killR_look, killS, AV.kill, AV.killL, killH, ABlk.kill, putΦ, argL, implies_true, indexAddrA, loadA, partP, partL, PV.nth, isAggD, Int.reduceToNat, Int.toNat_zero, Int.toNat_one, Int.reduceLT, Int.reduceLE, List.drop_zero, List.take_zero, Nat.add_zero, Int.le_refl, Int.cast_ofNat_Int, not_false_eq_true, not_true_eq_false, imp_self, and_self, gt1, gt2, Bool.not_not, Bool.cond_false_right, Bool.cond_true_left, Bool.cond_false_left, Bool.cond_true_right, Nat.reduceAdd, Nat.zero_add, Fin_n, Fin_r, FinQ, tapeOk, filt, AV.refsIn, AV.refsInL, refsH, ABlk.refsIn, pvL, Option.isSome_some, Option.getD_some, Option.getD_none, FinN, resC, resV, res1, tupP, AV.one, List.set_cons_succ, List.set_cons_zero, Option.some.injEq, minmaxA, foldI, lenA, isSliceD, isStrD, isSliceOrStr, Int.toNat_natCast, ne_eq, sliceA, natOf, List.map_cons, List.map_nil, Option.map_none, Option.map_some, Option.toList, List.append_nil, List.nil_append, List.cons_append, buildSliceA, idxOk, elemOk, PV.width, PV.cells, PV.one, convP, convA, srcA, isStrV, isByteD, isU8, List.all_cons, List.all_nil, Nat.beq_eq_true_eq, beq_self_eq_true, Nat.reduceLeDiff, Nat.reduceMul]
  refine ⟨fun h => ?_, fun h => ?_⟩
  · have : ¬ a = b := fun e => by subst e; simp at h
    simp [this]
  · have h9 : (a.length : Int) = b.length := by simpa using h
    have hab : a.length = b.length := by omega
    refine AWp.loop (T := plan0) (α := Nat) (fun i => ([(0, .pv (.sl (a.map intV))), (1, .pv (.sl (b.map intV))), (12, .pv (.int .i64 a.length)), (13, .pv (.int .i64 i))], [])) (fun i => i ≤ a.length ∧ a.take i = b.take i) (fun i => a.length - i)
      ⟨0, ⟨Nat.zero_le _, rfl⟩, ⟨by simp [fitR, look], trivial, rfl, rfl, rfl⟩⟩ ?_
    rintro i ⟨h1, h2⟩
    have hi1 : i < a.length → IntKind.i64.wrap ((i : Int) + 1) = ((i + 1 : Nat) : Int) := fun _ => by rw [i64_in _ (by omega)]; omega
    by_cases hlt : i < a.length
    · have c0 : decide ((i : Int) < (a.length : Int)) = true := by simp; omega
      have g1 := getD_intV hlt
      have g2 := getD_intV (l := b) (i := i) (by omega)
      simp only [c0, g1, g2, hi1 hlt, List.length_map, Tryz.underlying3, Tryz.underlying22, sz3, sz22, plan0, ev_skip, ev_seq, ev_region, ev_ret, ev_block, ev_exit, ev_loop, ev_cond, ev_scope, ev_label, condK_true, condK_false, condK_bool, isCut, Bool.false_eq_true, if_true, if_false, ↓reduceIte, false_implies, true_and, and_true, true_implies, KS_ap, KR_ap, steps_nil, stepsG_cons, thn_n, thn_e, thn_r, blk_n, blk_e, blk_r,     ev_op, ev_opG, opK_true, opK_false, isPureOp, List.contains_nil, List.contains_cons, Bool.or_false, Bool.false_or, cond_true, cond_false, aopP, callP_fn, callV_eq, mapV, allC, frzAll, frzL, opndV, ofV, ofV1, oc, ox, stripC, stripV, look_cons, upd_look, pureK_none, pureGK_eq, reduceCtorEq, Nat.reduceEqDiff, Nat.reduceLT, gAt, List.getElem?_toArray, List.getElem?_cons_succ, List.getElem?_cons_zero, Option.bind_some, Option.isNone_none, Option.isNone_some, Bool.false_and, Bool.and_false, Bool.and_self, Bool.and_true, Bool.true_and,     gK_bool, gK_whn, mkW, pickA, beq_true, beq_false, Bool.not_false, Bool.not_true, keepA, binA, binP, binI, binS, eqP, unA, unP, isC, extractA, List.length_cons, List.length_nil, List.getD_cons_zero, List.getD_cons_succ, frzOk, frz, AV.freeL, AV.free, PV.flat, PV.flat1, List.all_cons, List.all_nil, or_true, true_or, cxP_P, cxP_N, cxP_Φ, cxP_Ψ, cxP_Θ, cxP_rows, cxP_pins, cxQ_P, cxQ_N, cxQ_Φ, cxQ_Ψ, cxQ_Θ, cxQ_rows, cxQ_pins, putΘ, putΨ, noΘ, noΨ, ev_call, ev_alloc, ev_box, ev_makeSlice, ev_store, ev_append, ev_range, ev_next, rangeA, nextA, ev_makeMap, ev_mapUpdate, ev_delete, mapA, delA, lookupA, zvP, keyKind, callK_E, callK_Q, callK_P, qV_1, ↓all_qV, psiNew_eq, aopE, newB_some, putD_some, putD, hget, hset, hdel, storeA, putL, cellsA, partC, partA, fieldAddrA, addOff, nilCheckA, fieldV, buildA, packA, fieldPlaces, fillA, appendA, allW, killR_look, killS, AV.kill, AV.killL, killH, ABlk.kill, putΦ, argL, implies_true, indexAddrA, loadA, partP, partL, PV.nth, isAggD, Int.reduceToNat, Int.toNat_zero, Int.toNat_one, Int.reduceLT, Int.reduceLE, List.drop_zero, List.take_zero, Nat.add_zero, Int.le_refl, Int.cast_ofNat_Int, not_false_eq_true, not_true_eq_false, imp_self, and_self, gt1, gt2, Bool.not_not, Bool.cond_false_right, Bool.cond_true_left, Bool.cond_false_left, Bool.cond_true_right, Nat.reduceAdd, Nat.zero_add, Fin_n, Fin_r, FinQ, tapeOk, filt, AV.refsIn, AV.refsInL, refsH, ABlk.refsIn, pvL, Option.isSome_some, Option.getD_some, Option.getD_none, FinN, resC, resV, res1, tupP, AV.one, List.set_cons_succ, List.set_cons_zero, Option.some.injEq, minmaxA, foldI, lenA, isSliceD, isStrD, isSliceOrStr, Int.toNat_natCast, ne_eq, sliceA, natOf, List.map_cons, List.map_nil, Option.map_none, Option.map_some, Option.toList, List.append_nil, List.nil_append, List.cons_append, buildSliceA, idxOk, elemOk, PV.width, PV.cells, PV.one, convP, convA, srcA, isStrV, isByteD, isU8, List.all_cons, List.all_nil, Nat.beq_eq_true_eq, beq_self_eq_true, Nat.reduceLeDiff, Nat.reduceMul]
      refine ⟨by kernel_rfl, by omega, by omega, fun h3 => ?_, fun h3 => ⟨i + 1, ⟨by omega, ?_⟩, by omega, ⟨by simp [fitR, look], trivial, rfl, rfl, rfl⟩⟩⟩
      · have : ¬ a = b := fun e => by subst e; simp at h3
        simp [this]
      · have h4 : a.getD i 0 = b.getD i 0 := by simpa using h3
        rw [List.take_add_one, List.take_add_one, h2]
        simp only [List.getD_eq_getElem?_getD, List.getElem?_eq_getElem hlt, List.getElem?_eq_getElem (show i < b.length by omega), Option.getD_some, Option.toList_some] at h4 ⊢
        rw [h4]
    · have c0 : decide ((i : Int) < (a.length : Int)) = false := by simp; omega
      simp only [c0, Tryz.underlying3, Tryz.underlying22, sz3, sz22, plan0, ev_skip, ev_seq, ev_region, ev_ret, ev_block, ev_exit, ev_loop, ev_cond, ev_scope, ev_label, condK_true, condK_false, condK_bool, isCut, Bool.false_eq_true, if_true, if_false, ↓reduceIte, false_implies, true_and, and_true, true_implies, KS_ap, KR_ap, steps_nil, stepsG_cons, thn_n, thn_e, thn_r, blk_n, blk_e, blk_r,     ev_op, ev_opG, opK_true, opK_false, isPureOp, List.contains_nil, List.contains_cons, Bool.or_false, Bool.false_or, cond_true, cond_false, aopP, callP_fn, callV_eq, mapV, allC, frzAll, frzL, opndV, ofV, ofV1, oc, ox, stripC, stripV, look_cons, upd_look, pureK_none, pureGK_eq, reduceCtorEq, Nat.reduceEqDiff, Nat.reduceLT, gAt, List.getElem?_toArray, List.getElem?_cons_succ, List.getElem?_cons_zero, Option.bind_some, Option.isNone_none, Option.isNone_some, Bool.false_and, Bool.and_false, Bool.and_self, Bool.and_true, Bool.true_and,     gK_bool, gK_whn, mkW, pickA, beq_true, beq_false, Bool.not_false, Bool.not_true, keepA, binA, binP, binI, binS, eqP, unA, unP, isC, extractA, List.length_cons, List.length_nil, List.getD_cons_zero, List.getD_cons_succ, frzOk, frz, AV.freeL, AV.free, PV.flat, PV.flat1, List.all_cons, List.all_nil, or_true, true_or, cxP_P, cxP_N, cxP_Φ, cxP_Ψ, cxP_Θ, cxP_rows, cxP_pins, cxQ_P, cxQ_N, cxQ_Φ, cxQ_Ψ, cxQ_Θ, cxQ_rows, cxQ_pins, putΘ, putΨ, noΘ, noΨ, ev_call, ev_alloc, ev_box, ev_makeSlice, ev_store, ev_append, ev_range, ev_next, rangeA, nextA, ev_makeMap, ev_mapUpdate, ev_delete, mapA, delA, lookupA, zvP, keyKind, callK_E, callK_Q, callK_P, qV_1, ↓all_qV, psiNew_eq, aopE, newB_some, putD_some, putD, hget, hset, hdel, storeA, putL, cellsA, partC, partA, fieldAddrA, addOff, nilCheckA, fieldV, buildA, packA, fieldPlaces, fillA, appendA, allW, killR_look, killS, AV.kill, AV.killL, killH, ABlk.kill, putΦ, argL, implies_true, indexAddrA, loadA, partP, partL, PV.nth, isAggD, Int.reduceToNat, Int.toNat_zero, Int.toNat_one, Int.reduceLT, Int.reduceLE, List.drop_zero, List.take_zero, Nat.add_zero, Int.le_refl, Int.cast_ofNat_Int, not_false_eq_true, not_true_eq_false, imp_self, and_self, gt1, gt2, Bool.not_not, Bool.cond_false_right, Bool.cond_true_left, Bool.cond_false_left, Bool.cond_true_right, Nat.reduceAdd, Nat.zero_add, Fin_n, Fin_r, FinQ, tapeOk, filt, AV.refsIn, AV.refsInL, refsH, ABlk.refsIn, pvL, Option.isSome_some, Option.getD_some, Option.getD_none, FinN, resC, resV, res1, tupP, AV.one, List.set_cons_succ, List.set_cons_zero, Option.some.injEq, minmaxA, foldI, lenA, isSliceD, isStrD, isSliceOrStr, Int.toNat_natCast, ne_eq, sliceA, natOf, List.map_cons, List.map_nil, Option.map_none, Option.map_some, Option.toList, List.append_nil, List.nil_append, List.cons_append, buildSliceA, idxOk, elemOk, PV.width, PV.cells, PV.one, convP, convA, srcA, isStrV, isByteD, isU8, List.all_cons, List.all_nil, Nat.beq_eq_true_eq, beq_self_eq_true, Nat.reduceLeDiff, Nat.reduceMul]
      have e1 : i = a.length := by omega
      rw [List.take_of_length_le (by omega), List.take_of_length_le (by omega)] at h2
      simp [h2]
noncomputable def Φ5 (g : FuncId) : PSpec := putΦ Φ4 24 equalS g
theorem hΦ5 : TabSound GG Φ5 := hΦ4.put w_equalS
def undC (a b : List UInt8) : Bool := decide (0 < (partsR b).length) && decide ((partsR b).length ≤ (partsR a).length) && ((partsR a).take (partsR b).length == partsR b)
noncomputable def underCS : PSpec := on_ss (fun a b => a.length ≤ 1000000000000 ∧ b.length ≤ 1000000000000) (fun a b => .bool (undC a b))
theorem partsR_len (s : List UInt8) : (partsR s).length ≤ 4 := by
  unfold partsR
  split
  · simp
  · split
    · simp
    · omega
theorem w_underCS : PSound GG 9 underCS := by
  refine PSound.of_wpc (C := cxP Tryz.prog Φ5 [] 29) (T := plan0) Tryz.func9 rfl rfl rfl (Fit.pure (G := GG) hΦ5 mixed) (fun args h => ?_)
  unfold underCS at h
  obtain ⟨a, b, rfl, hp⟩ := on_ss_inv h
  refine ⟨by simp [cxP], ?_⟩
  simp only [underCS, on_ss_eq, Tryz.f9, argL, plan0]
  simp only [Φ5, Φ4, partsCS, equalS, on_s_eq, on_ll_eq, List.length_map, Tryz.underlying3, Tryz.underlying22, sz3, sz22, ev_skip, ev_seq, ev_region, ev_ret, ev_block, ev_exit, ev_loop, ev_cond, ev_scope, ev_label, condK_true, condK_false, condK_bool, isCut, Bool.false_eq_true, if_true, if_false, ↓reduceIte, false_implies, true_and, and_true, true_implies, KS_ap, KR_ap, steps_nil, stepsG_cons, thn_n, thn_e, thn_r, blk_n, blk_e, blk_r,     ev_op, ev_opG, opK_true, opK_false, isPureOp, List.contains_nil, List.contains_cons, Bool.or_false, Bool.false_or, cond_true, cond_false, aopP, callP_fn, callV_eq, mapV, allC, frzAll, frzL, opndV, ofV, ofV1, oc, ox, stripC, stripV, look_cons, upd_look, pureK_none, pureGK_eq, reduceCtorEq, Nat.reduceEqDiff, Nat.reduceLT, gAt, List.getElem?_toArray, List.getElem?_cons_succ, List.getElem?_cons_zero, Option.bind_some, Option.isNone_none, Option.isNone_some, Bool.false_and, Bool.and_false, Bool.and_self, Bool.and_true, Bool.true_and,     gK_bool, gK_whn, mkW, pickA, beq_true, beq_false, Bool.not_false, Bool.not_true, keepA, binA, binP, binI, binS, eqP, unA, unP, isC, extractA, List.length_cons, List.length_nil, List.getD_cons_zero, List.getD_cons_succ, frzOk, frz, AV.freeL, AV.free, PV.flat, PV.flat1, List.all_cons, List.all_nil, or_true, true_or, cxP_P, cxP_N, cxP_Φ, cxP_Ψ, cxP_Θ, cxP_rows, cxP_pins, cxQ_P, cxQ_N, cxQ_Φ, cxQ_Ψ, cxQ_Θ, cxQ_rows, cxQ_pins, putΘ, putΨ, noΘ, noΨ, ev_call, ev_alloc, ev_box, ev_makeSlice, ev_store, ev_append, ev_range, ev_next, rangeA, nextA, ev_makeMap, ev_mapUpdate, ev_delete, mapA, delA, lookupA, zvP, keyKind, callK_E, callK_Q, callK_P, qV_1, ↓all_qV, psiNew_eq, aopE, newB_some, putD_some, putD, hget, hset, hdel, storeA, putL, cellsA, partC, partA, fieldAddrA, addOff, nilCheckA, fieldV, buildA, packA, fieldPlaces, fillA, appendA, allW, killR_look, killS, AV.kill, AV.killL, killH, ABlk.kill, putΦ, argL, implies_true, indexAddrA, loadA, partP, partL, PV.nth, isAggD, Int.reduceToNat, Int.toNat_zero, Int.toNat_one, Int.reduceLT, Int.reduceLE, List.drop_zero, List.take_zero, Nat.add_zero, Int.le_refl, Int.cast_ofNat_Int, not_false_eq_true, not_true_eq_false, imp_self, and_self, gt1, gt2, Bool.not_not, Bool.cond_false_right, Bool.cond_true_left, Bool.cond_false_left, Bool.cond_true_right, Nat.reduceAdd, Nat.zero_add, Fin_n, Fin_r, FinQ, tapeOk, filt, AV.refsIn, AV.refsInL, refsH, ABlk.refsIn, pvL, Option.isSome_some, Option.getD_some, Option.getD_none, FinN, resC, resV, res1, tupP, AV.one, List.set_cons_succ, List.set_cons_zero, Option.some.injEq, minmaxA, foldI, lenA, isSliceD, isStrD, isSliceOrStr, Int.toNat_natCast, ne_eq, sliceA, natOf, List.map_cons, List.map_nil, Option.map_none, Option.map_some, Option.toList, List.append_nil, List.nil_append, List.cons_append, buildSliceA, idxOk, elemOk, PV.width, PV.cells, PV.one, convP, convA, srcA, isStrV, isByteD, isU8, List.all_cons, List.all_nil, Nat.beq_eq_true_eq, beq_self_eq_true, Nat.reduceLeDiff, Nat.reduceMul]
  have hn : ∀ l : List Int, (l.map intV).map nOf = l := fun l => by simp [List.map_map, Function.comp_def, nOf, intV]
  have ht : (List.map intV (partsR a)).take (partsR b).length = ((partsR a).take (partsR b).length).map intV := by rw [List.map_take]
  have b1 := partsR_len a
  have b2 := partsR_len b
  refine ⟨hp.1, hp.2, fun h1 => ⟨by omega, ?_, ?_⟩, fun h1 => ⟨⟨_, ht⟩, ⟨_, rfl⟩, ?_⟩, ?_⟩
  · simp only [Bool.and_eq_true, decide_eq_true_eq] at h1
    omega
  · intro p hp'
    simp only [List.mem_map] at hp'
    obtain ⟨x, _, rfl⟩ := hp'
    rfl
  · rw [ht, List.length_map, List.length_take]; omega
  · rw [ht, hn, hn]
    unfold undC
    simp only [Int.natCast_pos, Int.ofNat_le]
noncomputable def Φ6 (g : FuncId) : PSpec := putΦ Φ5 9 underCS g
theorem hΦ6 : TabSound GG Φ6 := hΦ5.put w_underCS
def vld (n : Int) : Bool := decide (0 ≤ n) && decide (n ≤ 36000)
noncomputable def validS : PSpec := on_i (fun _ => True) (fun n => .bool (vld n))
def amt (n : Int) : Bool := decide (-1000000000000 ≤ n) && decide (n ≤ 1000000000000)
noncomputable def amtS : PSpec := on_i (fun _ => True) (fun n => .bool (amt n))
noncomputable def Φ7 (g : FuncId) : PSpec := Φ6 g
theorem hΦ7 : TabSound GG Φ7 := hΦ6
def yrOf (n : Int) : Int := bif vld n then n / 360 else -1
noncomputable def yearS : PSpec := on_i (fun _ => True) (fun n => .int .i64 (yrOf n))
noncomputable def Φ8 (g : FuncId) : PSpec := Φ7 g
theorem hΦ8 : TabSound GG Φ8 := hΦ7
def on_lsii (p : List PV → List UInt8 → Int → Int → Prop) (f : List PV → List UInt8 → Int → Int → PV) : PSpec
  | [.sl a0, .str a1, .int .i64 a2, .int .i64 a3] => (p a0 a1 a2 a3, f a0 a1 a2 a3)
  | _ => (False, default)
theorem on_lsii_eq {p : List PV → List UInt8 → Int → Int → Prop} {f : List PV → List UInt8 → Int → Int → PV} {a0 : List PV} {a1 : List UInt8} {a2 : Int} {a3 : Int} : on_lsii p f [.sl a0, .str a1, .int .i64 a2, .int .i64 a3] = (p a0 a1 a2 a3, f a0 a1 a2 a3) := rfl
theorem on_lsii_inv {p : List PV → List UInt8 → Int → Int → Prop} {f : List PV → List UInt8 → Int → Int → PV} {args : List PV} (h : (on_lsii p f args).1) : ∃ a0 : List PV, ∃ a1 : List UInt8, ∃ a2 : Int, ∃ a3 : Int, args = [.sl a0, .str a1, .int .i64 a2, .int .i64 a3] ∧ p a0 a1 a2 a3 := by
  unfold on_lsii at h
  split at h
  · exact ⟨_, _, _, _, rfl, h⟩
  · exact h.elim
def recV (n d : Int) (c : List UInt8) (a : Int) : PV := .agg [.int .i64 n, .int .i64 d, .str c, .int .i64 a]
/-- A receipt. -/
def isR (e : PV) : Prop := ∃ n d c a, e = recV n d c a ∧ c.length ≤ 1000000000000
/-- What a receipt counts for. -/
def cntR (src : List UInt8) (y d : Int) : PV → Int
  | .agg [_, .int _ dd, .str c, .int _ a] => if (vld dd && decide (dd ≤ d) && yrOf dd == y && amt a && undC c src) = true then a else 0
  | _ => 0
def sumL : List Int → Int
  | [] => 0
  | x :: r => x + sumL r
theorem sumL_append (a b : List Int) : sumL (a ++ b) = sumL a + sumL b := by
  induction a with
  | nil => simp [sumL]
  | cons x r ih => simp only [List.cons_append, sumL, ih]; omega
def recF (rs : List PV) (src : List UInt8) (y d : Int) : Int := sumL ((rs.take 1000).map (cntR src y d))
theorem cntR_le (src : List UInt8) (y d : Int) (e : PV) : -1000000000000 ≤ cntR src y d e ∧ cntR src y d e ≤ 1000000000000 := by
  unfold cntR
  split
  · split
    · rename_i h
      simp only [Bool.and_eq_true, amt, decide_eq_true_eq] at h
      omega
    · omega
  · omega
theorem sumL_le (src : List UInt8) (y d : Int) : ∀ l : List PV, -(1000000000000 * (l.length : Int)) ≤ sumL (l.map (cntR src y d)) ∧ sumL (l.map (cntR src y d)) ≤ 1000000000000 * (l.length : Int)
  | [] => by simp [sumL]
  | e :: r => by
    have h1 := cntR_le src y d e
    have h2 := sumL_le src y d r
    simp only [List.map_cons, sumL, List.length_cons]
    omega
noncomputable def receivedS : PSpec := on_lsii (fun rs src y d => (∀ e, e ∈ rs → isR e) ∧ rs.length ≤ 4611686018427387904 ∧ src.length ≤ 1000000000000) (fun rs src y d => .int .i64 (recF rs src y d))
noncomputable def Φ9 (g : FuncId) : PSpec := Φ8 g
theorem hΦ9 : TabSound GG Φ9 := hΦ8
def on_plii (p : PV → List PV → Int → Int → Prop) (f : PV → List PV → Int → Int → PV) : PSpec
  | [a0, .sl a1, .int .i64 a2, .int .i64 a3] => (p a0 a1 a2 a3, f a0 a1 a2 a3)
  | _ => (False, default)
theorem on_plii_eq {p : PV → List PV → Int → Int → Prop} {f : PV → List PV → Int → Int → PV} {a0 : PV} {a1 : List PV} {a2 : Int} {a3 : Int} : on_plii p f [a0, .sl a1, .int .i64 a2, .int .i64 a3] = (p a0 a1 a2 a3, f a0 a1 a2 a3) := rfl
theorem on_plii_inv {p : PV → List PV → Int → Int → Prop} {f : PV → List PV → Int → Int → PV} {args : List PV} (h : (on_plii p f args).1) : ∃ a0 : PV, ∃ a1 : List PV, ∃ a2 : Int, ∃ a3 : Int, args = [a0, .sl a1, .int .i64 a2, .int .i64 a3] ∧ p a0 a1 a2 a3 := by
  unfold on_plii at h
  split at h
  · exact ⟨_, _, _, _, rfl, h⟩
  · exact h.elim
def earV (s c : List UInt8) (p : Int) : PV := .agg [.str s, .str c, .int .i64 p]
def shrF (p : Int) (n : Int) : Int × Int := if (decide (p < 0) || decide (100 < p) || decide (1000000000000000 < n)) = true then (0, 2) else ((if n < 0 then 0 else n) * p / 100, 0)
/-- An earmark's source and part. -/
def srcOf : PV → List UInt8
  | .agg [.str s, _, _] => s
  | _ => []
def pctOf : PV → Int
  | .agg [_, _, .int _ p] => p
  | _ => 0
noncomputable def shareS : PSpec := on_plii (fun e rs y d => (∃ s c p, e = earV s c p ∧ s.length ≤ 1000000000000) ∧ (∀ x, x ∈ rs → isR x) ∧ rs.length ≤ 4611686018427387904)
  (fun e rs y d => .tup [.int .i64 (shrF (pctOf e) (recF rs (srcOf e) y d)).1, .int .i64 (shrF (pctOf e) (recF rs (srcOf e) y d)).2])
theorem recF_le (rs : List PV) (src : List UInt8) (y d : Int) : -1000000000000000 ≤ recF rs src y d ∧ recF rs src y d ≤ 1000000000000000 := by
  unfold recF
  have h := sumL_le src y d (rs.take 1000)
  have : (rs.take 1000).length ≤ 1000 := by rw [List.length_take]; omega
  omega
noncomputable def Φ10 (g : FuncId) : PSpec := Φ9 g
theorem hΦ10 : TabSound GG Φ10 := hΦ9
def on_ (p : Prop) (f : PV) : PSpec
  | [] => (p , f )
  | _ => (False, default)
theorem on__eq {p : Prop} {f : PV}  : on_ p f [] = (p , f ) := rfl
theorem on__inv {p : Prop} {f : PV} {args : List PV} (h : (on_ p f args).1) : args = [] ∧ p  := by
  unfold on_ at h
  split at h
  · exact ⟨rfl, h⟩
  · exact h.elim
noncomputable def awake11S : PSpec := on_ (True) (.bool true)
theorem und99 : undC [57] [57] = true := by decide +kernel
end Go.AM
