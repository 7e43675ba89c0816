/-
  A part of a proof: see the last text of this claim for what is proved.
-/
import Derived.Test.YtjeolgjiakpenaaDoorAMy
import Derived.Test.YtjeolgjiakpenaaDoorProg
import Derived.IntWalk
namespace Go.AM
open Go Go.Proofs Go.IntWalk
set_option maxRecDepth 100000
set_option linter.unusedSimpArgs false
set_option linter.unusedVariables false
def plan0 : Plan := { keep := fun _ => none, cut := fun _ => false, stop := fun _ => false }
noncomputable def GG : Glob := { P := Tryd.prog, nG := 0, I := fun _ => True, stable := fun _ _ _ _ _ => trivial }
theorem mixed : GG.P.follows .mixedOrders = true := by kernel_rfl
def on_ (p : Prop) (f : PV) : PSpec
  | [] => (p , f )
  | _ => (False, default)
theorem on__eq {p : Prop} {f : PV}  : on_ p f [] = (p , f ) := rfl
theorem on__inv {p : Prop} {f : PV} {args : List PV} (h : (on_ p f args).1) : args = [] ∧ p  := by
  unfold on_ at h
  split at h
  · exact ⟨rfl, h⟩
  · exact h.elim
def on_i (p : Int → Prop) (f : Int → PV) : PSpec
  | [.int .i64 a0] => (p a0, f a0)
  | _ => (False, default)
theorem on_i_eq {p : Int → Prop} {f : Int → PV} {a0 : Int} : on_i p f [.int .i64 a0] = (p a0, f a0) := rfl
theorem on_i_inv {p : Int → Prop} {f : Int → PV} {args : List PV} (h : (on_i p f args).1) : ∃ a0 : Int, args = [.int .i64 a0] ∧ p a0 := by
  unfold on_i at h
  split at h
  · exact ⟨_, rfl, h⟩
  · exact h.elim
def on_ii (p : Int → Int → Prop) (f : Int → Int → PV) : PSpec
  | [.int .i64 a0, .int .i64 a1] => (p a0 a1, f a0 a1)
  | _ => (False, default)
theorem on_ii_eq {p : Int → Int → Prop} {f : Int → Int → PV} {a0 : Int} {a1 : Int} : on_ii p f [.int .i64 a0, .int .i64 a1] = (p a0 a1, f a0 a1) := rfl
theorem on_ii_inv {p : Int → Int → Prop} {f : Int → Int → PV} {args : List PV} (h : (on_ii p f args).1) : ∃ a0 : Int, ∃ a1 : Int, args = [.int .i64 a0, .int .i64 a1] ∧ p a0 a1 := by
  unfold on_ii at h
  split at h
  · exact ⟨_, _, rfl, h⟩
  · exact h.elim
def on_iii (p : Int → Int → Int → Prop) (f : Int → Int → Int → PV) : PSpec
  | [.int .i64 a0, .int .i64 a1, .int .i64 a2] => (p a0 a1 a2, f a0 a1 a2)
  | _ => (False, default)
theorem on_iii_eq {p : Int → Int → Int → Prop} {f : Int → Int → Int → PV} {a0 : Int} {a1 : Int} {a2 : Int} : on_iii p f [.int .i64 a0, .int .i64 a1, .int .i64 a2] = (p a0 a1 a2, f a0 a1 a2) := rfl
theorem on_iii_inv {p : Int → Int → Int → Prop} {f : Int → Int → Int → PV} {args : List PV} (h : (on_iii p f args).1) : ∃ a0 : Int, ∃ a1 : Int, ∃ a2 : Int, args = [.int .i64 a0, .int .i64 a1, .int .i64 a2] ∧ p a0 a1 a2 := by
  unfold on_iii at h
  split at h
  · exact ⟨_, _, _, rfl, h⟩
  · exact h.elim
def vld (n : Int) : Bool := decide (0 ≤ n) && decide (n ≤ 36000)
theorem vld_iff {n : Int} : vld n = true ↔ 0 ≤ n ∧ n ≤ 36000 := by simp [vld]
theorem vld_not {n : Int} : vld n = false ↔ ¬ (0 ≤ n ∧ n ≤ 36000) := by rw [← vld_iff]; simp
def amg (a b c : Int) : Bool := decide (b ≤ a) && decide (a ≤ c)
noncomputable def validS : PSpec := on_i (fun _ => True) (fun n => .bool (vld n))
noncomputable def amongS : PSpec := on_iii (fun _ _ _ => True) (fun a b c => .bool (amg a b c))
def chk (n : Int) : Int × Int := bif vld n then (n, 0) else (0, 2)
noncomputable def checkedS : PSpec := on_i (fun _ => True) (fun n => .tup [.int .i64 (chk n).1, .int .i64 (chk n).2])
def mon (a b : Int) : Int × Int := bif !vld a || !amg b (-36000) 36000 then (0, 2) else chk (a + 30 * b)
noncomputable def monthsS : PSpec := on_ii (fun _ _ => True) (fun a b => .tup [.int .i64 (mon a b).1, .int .i64 (mon a b).2])
def dat (n : Int) : Int × Int × Int := bif vld n then (n / 360, n % 360 / 30 + 1, n % 30 + 1) else (0, 0, 0)
noncomputable def dateS : PSpec := on_i (fun _ => True) (fun n => .tup [.int .i64 (dat n).1, .int .i64 (dat n).2.1, .int .i64 (dat n).2.2])
def bus (n : Int) : Bool := vld n && decide (n % 7 < 5)
noncomputable def businessS : PSpec := on_i (fun _ => True) (fun n => .bool (bus n))
noncomputable def Φ0 : FuncId → PSpec := fun _ => noSpec
theorem hΦ0 : TabSound GG Φ0 := TabSound.nil
theorem w_validS : PSound GG 22 validS := by
  refine PSound.of_wpc (C := cxP Tryd.prog Φ0 [] 9) (T := plan0) Tryd.func22 rfl rfl rfl (Fit.pure (G := GG) hΦ0 mixed) (fun args h => ?_)
  unfold validS at h
  obtain ⟨n, rfl, hp⟩ := on_i_inv h
  refine ⟨by simp [cxP], ?_⟩
  simp only [validS, on_i_eq, Tryd.f22, argL, plan0]
  simp only [ev_skip, ev_seq, ev_region, ev_ret, ev_block, ev_exit, ev_loop, ev_cond, ev_scope, ev_label, condK_true, condK_false, condK_bool, isCut, Bool.false_eq_true, if_true, if_false, ↓reduceIte, false_implies, true_and, and_true, true_implies, KS_ap, KR_ap, steps_nil, stepsG_cons, thn_n, thn_e, thn_r, blk_n, blk_e, blk_r,     ev_op, ev_opG, opK_true, opK_false, isPureOp, List.contains_nil, List.contains_cons, Bool.or_false, Bool.false_or, cond_true, cond_false, aopP, callP_fn, callV_eq, mapV, allC, frzAll, frzL, opndV, ofV, ofV1, oc, ox, stripC, stripV, look_cons, upd_look, pureK_none, pureGK_eq, reduceCtorEq, Nat.reduceEqDiff, Nat.reduceLT, gAt, List.getElem?_toArray, List.getElem?_cons_succ, List.getElem?_cons_zero, Option.bind_some, Option.isNone_none, Bool.and_self, Bool.and_true, Bool.true_and,     gK_bool, gK_whn, mkW, pickA, beq_true, beq_false, Bool.not_false, Bool.not_true, keepA, binA, binP, binI, binS, eqP, unA, unP, isC, extractA, List.length_cons, List.length_nil, List.getD_cons_zero, List.getD_cons_succ, frzOk, frz, AV.freeL, AV.free, PV.flat, PV.flat1, List.all_cons, List.all_nil, or_true, true_or, cxP_P, cxP_N, cxP_Φ, cxP_Ψ, cxP_Θ, cxP_rows, putΦ, argL, implies_true, indexAddrA, loadA, partP, partL, PV.nth, isAggD, Int.reduceToNat, Int.toNat_zero, Int.toNat_one, Int.reduceLT, Int.reduceLE, List.drop_zero, List.take_zero, Nat.add_zero, Int.le_refl, Int.cast_ofNat_Int, not_false_eq_true, not_true_eq_false, imp_self, and_self, Bool.cond_false_right, Bool.cond_true_left, Bool.cond_false_left, Bool.cond_true_right, Nat.reduceAdd, Nat.zero_add, Fin_n, Fin_r, resC, resV, res1, tupP, minmaxA, foldI, sliceA, natOf, List.map_cons, List.map_nil, Option.map_none, Option.map_some, Option.toList, List.append_nil, List.nil_append, List.cons_append, buildSliceA, idxOk, elemOk, PV.width, PV.cells, PV.one, convP, convA, srcA, isStrV, isByteD, isU8, List.all_cons, List.all_nil, Nat.beq_eq_true_eq, beq_self_eq_true, Nat.reduceLeDiff, Nat.reduceMul]
  rfl
theorem w_amongS : PSound GG 34 amongS := by
  refine PSound.of_wpc (C := cxP Tryd.prog Φ0 [] 15) (T := plan0) Tryd.func34 rfl rfl rfl (Fit.pure (G := GG) hΦ0 mixed) (fun args h => ?_)
  unfold amongS at h
  obtain ⟨a, b, c, rfl, hp⟩ := on_iii_inv h
  refine ⟨by simp [cxP], ?_⟩
  simp only [amongS, on_iii_eq, Tryd.f34, argL, plan0]
  simp only [ev_skip, ev_seq, ev_region, ev_ret, ev_block, ev_exit, ev_loop, ev_cond, ev_scope, ev_label, condK_true, condK_false, condK_bool, isCut, Bool.false_eq_true, if_true, if_false, ↓reduceIte, false_implies, true_and, and_true, true_implies, KS_ap, KR_ap, steps_nil, stepsG_cons, thn_n, thn_e, thn_r, blk_n, blk_e, blk_r,     ev_op, ev_opG, opK_true, opK_false, isPureOp, List.contains_nil, List.contains_cons, Bool.or_false, Bool.false_or, cond_true, cond_false, aopP, callP_fn, callV_eq, mapV, allC, frzAll, frzL, opndV, ofV, ofV1, oc, ox, stripC, stripV, look_cons, upd_look, pureK_none, pureGK_eq, reduceCtorEq, Nat.reduceEqDiff, Nat.reduceLT, gAt, List.getElem?_toArray, List.getElem?_cons_succ, List.getElem?_cons_zero, Option.bind_some, Option.isNone_none, Bool.and_self, Bool.and_true, Bool.true_and,     gK_bool, gK_whn, mkW, pickA, beq_true, beq_false, Bool.not_false, Bool.not_true, keepA, binA, binP, binI, binS, eqP, unA, unP, isC, extractA, List.length_cons, List.length_nil, List.getD_cons_zero, List.getD_cons_succ, frzOk, frz, AV.freeL, AV.free, PV.flat, PV.flat1, List.all_cons, List.all_nil, or_true, true_or, cxP_P, cxP_N, cxP_Φ, cxP_Ψ, cxP_Θ, cxP_rows, putΦ, argL, implies_true, indexAddrA, loadA, partP, partL, PV.nth, isAggD, Int.reduceToNat, Int.toNat_zero, Int.toNat_one, Int.reduceLT, Int.reduceLE, List.drop_zero, List.take_zero, Nat.add_zero, Int.le_refl, Int.cast_ofNat_Int, not_false_eq_true, not_true_eq_false, imp_self, and_self, Bool.cond_false_right, Bool.cond_true_left, Bool.cond_false_left, Bool.cond_true_right, Nat.reduceAdd, Nat.zero_add, Fin_n, Fin_r, resC, resV, res1, tupP, minmaxA, foldI, sliceA, natOf, List.map_cons, List.map_nil, Option.map_none, Option.map_some, Option.toList, List.append_nil, List.nil_append, List.cons_append, buildSliceA, idxOk, elemOk, PV.width, PV.cells, PV.one, convP, convA, srcA, isStrV, isByteD, isU8, List.all_cons, List.all_nil, Nat.beq_eq_true_eq, beq_self_eq_true, Nat.reduceLeDiff, Nat.reduceMul]
  rfl
noncomputable def Φ1 (g : FuncId) : PSpec := putΦ (putΦ Φ0 22 validS) 34 amongS g
theorem hΦ1 : TabSound GG Φ1 := (hΦ0.put w_validS).put w_amongS
theorem w_checkedS : PSound GG 35 checkedS := by
  refine PSound.of_wpc (C := cxP Tryd.prog Φ1 [] 8) (T := plan0) Tryd.func35 rfl rfl rfl (Fit.pure (G := GG) hΦ1 mixed) (fun args h => ?_)
  unfold checkedS at h
  obtain ⟨n, rfl, hp⟩ := on_i_inv h
  refine ⟨by simp [cxP], ?_⟩
  simp only [checkedS, on_i_eq, Tryd.f35, argL, plan0]
  simp only [Φ1, validS, on_i_eq, ev_skip, ev_seq, ev_region, ev_ret, ev_block, ev_exit, ev_loop, ev_cond, ev_scope, ev_label, condK_true, condK_false, condK_bool, isCut, Bool.false_eq_true, if_true, if_false, ↓reduceIte, false_implies, true_and, and_true, true_implies, KS_ap, KR_ap, steps_nil, stepsG_cons, thn_n, thn_e, thn_r, blk_n, blk_e, blk_r,     ev_op, ev_opG, opK_true, opK_false, isPureOp, List.contains_nil, List.contains_cons, Bool.or_false, Bool.false_or, cond_true, cond_false, aopP, callP_fn, callV_eq, mapV, allC, frzAll, frzL, opndV, ofV, ofV1, oc, ox, stripC, stripV, look_cons, upd_look, pureK_none, pureGK_eq, reduceCtorEq, Nat.reduceEqDiff, Nat.reduceLT, gAt, List.getElem?_toArray, List.getElem?_cons_succ, List.getElem?_cons_zero, Option.bind_some, Option.isNone_none, Bool.and_self, Bool.and_true, Bool.true_and,     gK_bool, gK_whn, mkW, pickA, beq_true, beq_false, Bool.not_false, Bool.not_true, keepA, binA, binP, binI, binS, eqP, unA, unP, isC, extractA, List.length_cons, List.length_nil, List.getD_cons_zero, List.getD_cons_succ, frzOk, frz, AV.freeL, AV.free, PV.flat, PV.flat1, List.all_cons, List.all_nil, or_true, true_or, cxP_P, cxP_N, cxP_Φ, cxP_Ψ, cxP_Θ, cxP_rows, putΦ, argL, implies_true, indexAddrA, loadA, partP, partL, PV.nth, isAggD, Int.reduceToNat, Int.toNat_zero, Int.toNat_one, Int.reduceLT, Int.reduceLE, List.drop_zero, List.take_zero, Nat.add_zero, Int.le_refl, Int.cast_ofNat_Int, not_false_eq_true, not_true_eq_false, imp_self, and_self, Bool.cond_false_right, Bool.cond_true_left, Bool.cond_false_left, Bool.cond_true_right, Nat.reduceAdd, Nat.zero_add, Fin_n, Fin_r, resC, resV, res1, tupP, minmaxA, foldI, sliceA, natOf, List.map_cons, List.map_nil, Option.map_none, Option.map_some, Option.toList, List.append_nil, List.nil_append, List.cons_append, buildSliceA, idxOk, elemOk, PV.width, PV.cells, PV.one, convP, convA, srcA, isStrV, isByteD, isU8, List.all_cons, List.all_nil, Nat.beq_eq_true_eq, beq_self_eq_true, Nat.reduceLeDiff, Nat.reduceMul]
  refine ⟨fun h1 => ?_, fun h1 => ?_⟩ <;> simp at h1 <;> simp [chk, h1]
theorem w_businessS : PSound GG 9 businessS := by
  refine PSound.of_wpc (C := cxP Tryd.prog Φ1 [] 10) (T := plan0) Tryd.func9 rfl rfl rfl (Fit.pure (G := GG) hΦ1 mixed) (fun args h => ?_)
  unfold businessS at h
  obtain ⟨n, rfl, hp⟩ := on_i_inv h
  refine ⟨by simp [cxP], ?_⟩
  simp only [businessS, on_i_eq, Tryd.f9, argL, plan0]
  simp only [Φ1, validS, on_i_eq, ev_skip, ev_seq, ev_region, ev_ret, ev_block, ev_exit, ev_loop, ev_cond, ev_scope, ev_label, condK_true, condK_false, condK_bool, isCut, Bool.false_eq_true, if_true, if_false, ↓reduceIte, false_implies, true_and, and_true, true_implies, KS_ap, KR_ap, steps_nil, stepsG_cons, thn_n, thn_e, thn_r, blk_n, blk_e, blk_r,     ev_op, ev_opG, opK_true, opK_false, isPureOp, List.contains_nil, List.contains_cons, Bool.or_false, Bool.false_or, cond_true, cond_false, aopP, callP_fn, callV_eq, mapV, allC, frzAll, frzL, opndV, ofV, ofV1, oc, ox, stripC, stripV, look_cons, upd_look, pureK_none, pureGK_eq, reduceCtorEq, Nat.reduceEqDiff, Nat.reduceLT, gAt, List.getElem?_toArray, List.getElem?_cons_succ, List.getElem?_cons_zero, Option.bind_some, Option.isNone_none, Bool.and_self, Bool.and_true, Bool.true_and,     gK_bool, gK_whn, mkW, pickA, beq_true, beq_false, Bool.not_false, Bool.not_true, keepA, binA, binP, binI, binS, eqP, unA, unP, isC, extractA, List.length_cons, List.length_nil, List.getD_cons_zero, List.getD_cons_succ, frzOk, frz, AV.freeL, AV.free, PV.flat, PV.flat1, List.all_cons, List.all_nil, or_true, true_or, cxP_P, cxP_N, cxP_Φ, cxP_Ψ, cxP_Θ, cxP_rows, putΦ, argL, implies_true, indexAddrA, loadA, partP, partL, PV.nth, isAggD, Int.reduceToNat, Int.toNat_zero, Int.toNat_one, Int.reduceLT, Int.reduceLE, List.drop_zero, List.take_zero, Nat.add_zero, Int.le_refl, Int.cast_ofNat_Int, not_false_eq_true, not_true_eq_false, imp_self, and_self, Bool.cond_false_right, Bool.cond_true_left, Bool.cond_false_left, Bool.cond_true_right, Nat.reduceAdd, Nat.zero_add, Fin_n, Fin_r, resC, resV, res1, tupP, minmaxA, foldI, sliceA, natOf, List.map_cons, List.map_nil, Option.map_none, Option.map_some, Option.toList, List.append_nil, List.nil_append, List.cons_append, buildSliceA, idxOk, elemOk, PV.width, PV.cells, PV.one, convP, convA, srcA, isStrV, isByteD, isU8, List.all_cons, List.all_nil, Nat.beq_eq_true_eq, beq_self_eq_true, Nat.reduceLeDiff, Nat.reduceMul]
  refine ⟨fun h1 => ⟨h1, by decide⟩, ?_⟩
  cases h1 : vld n
  · simp [bus, h1]
  · simp [bus, h1, Int.tmod_eq_emod_of_nonneg (vld_iff.1 h1).1]
theorem w_dateS : PSound GG 12 dateS := by
  refine PSound.of_wpc (C := cxP Tryd.prog Φ1 [] 17) (T := plan0) Tryd.func12 rfl rfl rfl (Fit.pure (G := GG) hΦ1 mixed) (fun args h => ?_)
  unfold dateS at h
  obtain ⟨n, rfl, hp⟩ := on_i_inv h
  refine ⟨by simp [cxP], ?_⟩
  simp only [dateS, on_i_eq, Tryd.f12, argL, plan0]
  simp only [Φ1, validS, on_i_eq, ev_skip, ev_seq, ev_region, ev_ret, ev_block, ev_exit, ev_loop, ev_cond, ev_scope, ev_label, condK_true, condK_false, condK_bool, isCut, Bool.false_eq_true, if_true, if_false, ↓reduceIte, false_implies, true_and, and_true, true_implies, KS_ap, KR_ap, steps_nil, stepsG_cons, thn_n, thn_e, thn_r, blk_n, blk_e, blk_r,     ev_op, ev_opG, opK_true, opK_false, isPureOp, List.contains_nil, List.contains_cons, Bool.or_false, Bool.false_or, cond_true, cond_false, aopP, callP_fn, callV_eq, mapV, allC, frzAll, frzL, opndV, ofV, ofV1, oc, ox, stripC, stripV, look_cons, upd_look, pureK_none, pureGK_eq, reduceCtorEq, Nat.reduceEqDiff, Nat.reduceLT, gAt, List.getElem?_toArray, List.getElem?_cons_succ, List.getElem?_cons_zero, Option.bind_some, Option.isNone_none, Bool.and_self, Bool.and_true, Bool.true_and,     gK_bool, gK_whn, mkW, pickA, beq_true, beq_false, Bool.not_false, Bool.not_true, keepA, binA, binP, binI, binS, eqP, unA, unP, isC, extractA, List.length_cons, List.length_nil, List.getD_cons_zero, List.getD_cons_succ, frzOk, frz, AV.freeL, AV.free, PV.flat, PV.flat1, List.all_cons, List.all_nil, or_true, true_or, cxP_P, cxP_N, cxP_Φ, cxP_Ψ, cxP_Θ, cxP_rows, putΦ, argL, implies_true, indexAddrA, loadA, partP, partL, PV.nth, isAggD, Int.reduceToNat, Int.toNat_zero, Int.toNat_one, Int.reduceLT, Int.reduceLE, List.drop_zero, List.take_zero, Nat.add_zero, Int.le_refl, Int.cast_ofNat_Int, not_false_eq_true, not_true_eq_false, imp_self, and_self, Bool.cond_false_right, Bool.cond_true_left, Bool.cond_false_left, Bool.cond_true_right, Nat.reduceAdd, Nat.zero_add, Fin_n, Fin_r, resC, resV, res1, tupP, minmaxA, foldI, sliceA, natOf, List.map_cons, List.map_nil, Option.map_none, Option.map_some, Option.toList, List.append_nil, List.nil_append, List.cons_append, buildSliceA, idxOk, elemOk, PV.width, PV.cells, PV.one, convP, convA, srcA, isStrV, isByteD, isU8, List.all_cons, List.all_nil, Nat.beq_eq_true_eq, beq_self_eq_true, Nat.reduceLeDiff, Nat.reduceMul]
  refine ⟨fun h1 => ?_, fun h1 => ⟨by decide, by decide, by decide, by decide, ?_⟩⟩ <;> simp at h1
  · simp [dat, h1]
  · have h2 := vld_iff.1 h1
    rw [Int.tmod_eq_emod_of_nonneg h2.1, Int.tmod_eq_emod_of_nonneg h2.1, i64_quo _ _ (by omega), i64_quo _ _ (by omega), i64_in _ (by omega), i64_in _ (by omega)]
    simp [dat, h1]
noncomputable def Φ2 (g : FuncId) : PSpec := putΦ (putΦ (putΦ Φ1 35 checkedS) 9 businessS) 12 dateS g
theorem hΦ2 : TabSound GG Φ2 := ((hΦ1.put w_checkedS).put w_businessS).put w_dateS
theorem w_monthsS : PSound GG 11 monthsS := by
  refine PSound.of_wpc (C := cxP Tryd.prog Φ2 [] 21) (T := plan0) Tryd.func11 rfl rfl rfl (Fit.pure (G := GG) hΦ2 mixed) (fun args h => ?_)
  unfold monthsS at h
  obtain ⟨a, b, rfl, hp⟩ := on_ii_inv h
  refine ⟨by simp [cxP], ?_⟩
  simp only [monthsS, on_ii_eq, Tryd.f11, argL, plan0]
  simp only [Φ2, Φ1, validS, checkedS, amongS, on_i_eq, on_iii_eq, ev_skip, ev_seq, ev_region, ev_ret, ev_block, ev_exit, ev_loop, ev_cond, ev_scope, ev_label, condK_true, condK_false, condK_bool, isCut, Bool.false_eq_true, if_true, if_false, ↓reduceIte, false_implies, true_and, and_true, true_implies, KS_ap, KR_ap, steps_nil, stepsG_cons, thn_n, thn_e, thn_r, blk_n, blk_e, blk_r,     ev_op, ev_opG, opK_true, opK_false, isPureOp, List.contains_nil, List.contains_cons, Bool.or_false, Bool.false_or, cond_true, cond_false, aopP, callP_fn, callV_eq, mapV, allC, frzAll, frzL, opndV, ofV, ofV1, oc, ox, stripC, stripV, look_cons, upd_look, pureK_none, pureGK_eq, reduceCtorEq, Nat.reduceEqDiff, Nat.reduceLT, gAt, List.getElem?_toArray, List.getElem?_cons_succ, List.getElem?_cons_zero, Option.bind_some, Option.isNone_none, Bool.and_self, Bool.and_true, Bool.true_and,     gK_bool, gK_whn, mkW, pickA, beq_true, beq_false, Bool.not_false, Bool.not_true, keepA, binA, binP, binI, binS, eqP, unA, unP, isC, extractA, List.length_cons, List.length_nil, List.getD_cons_zero, List.getD_cons_succ, frzOk, frz, AV.freeL, AV.free, PV.flat, PV.flat1, List.all_cons, List.all_nil, or_true, true_or, cxP_P, cxP_N, cxP_Φ, cxP_Ψ, cxP_Θ, cxP_rows, putΦ, argL, implies_true, indexAddrA, loadA, partP, partL, PV.nth, isAggD, Int.reduceToNat, Int.toNat_zero, Int.toNat_one, Int.reduceLT, Int.reduceLE, List.drop_zero, List.take_zero, Nat.add_zero, Int.le_refl, Int.cast_ofNat_Int, not_false_eq_true, not_true_eq_false, imp_self, and_self, Bool.cond_false_right, Bool.cond_true_left, Bool.cond_false_left, Bool.cond_true_right, Nat.reduceAdd, Nat.zero_add, Fin_n, Fin_r, resC, resV, res1, tupP, minmaxA, foldI, sliceA, natOf, List.map_cons, List.map_nil, Option.map_none, Option.map_some, Option.toList, List.append_nil, List.nil_append, List.cons_append, buildSliceA, idxOk, elemOk, PV.width, PV.cells, PV.one, convP, convA, srcA, isStrV, isByteD, isU8, List.all_cons, List.all_nil, Nat.beq_eq_true_eq, beq_self_eq_true, Nat.reduceLeDiff, Nat.reduceMul]
  refine ⟨by simp, fun h1 => ?_, fun h1 => ?_⟩ <;> simp at h1
  · rcases h1 with h1 | h1 <;> simp [mon, h1]
  · have h2 := vld_iff.1 h1.1
    have h3 : -36000 ≤ b ∧ b ≤ 36000 := by simpa [amg] using h1.2
    rw [i64_in (30 * b) (by omega), i64_in _ (by omega)]
    simp [mon, h1]
def bef (n : Int) : Int := n / 7 * 5 + (if 5 < n % 7 then 5 else n % 7)
noncomputable def beforeS : PSpec := on_i (fun n => 0 ≤ n ∧ n ≤ 36000) (fun n => .int .i64 (bef n))
theorem w_beforeS : PSound GG 33 beforeS := by
  refine PSound.of_wpc (C := cxP Tryd.prog Φ2 [] 10) (T := plan0) Tryd.func33 rfl rfl rfl (Fit.pure (G := GG) hΦ2 mixed) (fun args h => ?_)
  unfold beforeS at h
  obtain ⟨n, rfl, hp⟩ := on_i_inv h
  refine ⟨by simp [cxP], ?_⟩
  simp only [beforeS, on_i_eq, Tryd.f33, argL, plan0]
  simp only [ev_skip, ev_seq, ev_region, ev_ret, ev_block, ev_exit, ev_loop, ev_cond, ev_scope, ev_label, condK_true, condK_false, condK_bool, isCut, Bool.false_eq_true, if_true, if_false, ↓reduceIte, false_implies, true_and, and_true, true_implies, KS_ap, KR_ap, steps_nil, stepsG_cons, thn_n, thn_e, thn_r, blk_n, blk_e, blk_r,     ev_op, ev_opG, opK_true, opK_false, isPureOp, List.contains_nil, List.contains_cons, Bool.or_false, Bool.false_or, cond_true, cond_false, aopP, callP_fn, callV_eq, mapV, allC, frzAll, frzL, opndV, ofV, ofV1, oc, ox, stripC, stripV, look_cons, upd_look, pureK_none, pureGK_eq, reduceCtorEq, Nat.reduceEqDiff, Nat.reduceLT, gAt, List.getElem?_toArray, List.getElem?_cons_succ, List.getElem?_cons_zero, Option.bind_some, Option.isNone_none, Bool.and_self, Bool.and_true, Bool.true_and,     gK_bool, gK_whn, mkW, pickA, beq_true, beq_false, Bool.not_false, Bool.not_true, keepA, binA, binP, binI, binS, eqP, unA, unP, isC, extractA, List.length_cons, List.length_nil, List.getD_cons_zero, List.getD_cons_succ, frzOk, frz, AV.freeL, AV.free, PV.flat, PV.flat1, List.all_cons, List.all_nil, or_true, true_or, cxP_P, cxP_N, cxP_Φ, cxP_Ψ, cxP_Θ, cxP_rows, putΦ, argL, implies_true, indexAddrA, loadA, partP, partL, PV.nth, isAggD, Int.reduceToNat, Int.toNat_zero, Int.toNat_one, Int.reduceLT, Int.reduceLE, List.drop_zero, List.take_zero, Nat.add_zero, Int.le_refl, Int.cast_ofNat_Int, not_false_eq_true, not_true_eq_false, imp_self, and_self, Bool.cond_false_right, Bool.cond_true_left, Bool.cond_false_left, Bool.cond_true_right, Nat.reduceAdd, Nat.zero_add, Fin_n, Fin_r, resC, resV, res1, tupP, minmaxA, foldI, sliceA, natOf, List.map_cons, List.map_nil, Option.map_none, Option.map_some, Option.toList, List.append_nil, List.nil_append, List.cons_append, buildSliceA, idxOk, elemOk, PV.width, PV.cells, PV.one, convP, convA, srcA, isStrV, isByteD, isU8, List.all_cons, List.all_nil, Nat.beq_eq_true_eq, beq_self_eq_true, Nat.reduceLeDiff, Nat.reduceMul]
  refine ⟨by decide, by decide, ?_⟩
  rw [Int.tmod_eq_emod_of_nonneg hp.1, i64_quo _ _ (by omega), i64_in (n / 7 * 5) (by omega), i64_in _ (by split <;> omega)]
  rfl
theorem bef_le {n : Int} (h : 0 ≤ n ∧ n ≤ 36000) : 0 ≤ bef n ∧ bef n ≤ 30000 := by unfold bef; split <;> omega
noncomputable def Φ3 (g : FuncId) : PSpec := putΦ Φ2 33 beforeS g
theorem hΦ3 : TabSound GG Φ3 := hΦ2.put w_beforeS
def cnt (a b : Int) : Int × Int := bif !vld a || !vld b then (0, 2) else bif decide (b < a) then (0, 8) else (bef b - bef a, 0)
noncomputable def countS : PSpec := on_ii (fun _ _ => True) (fun a b => .tup [.int .i64 (cnt a b).1, .int .i64 (cnt a b).2])
theorem w_countS : PSound GG 7 countS := by
  refine PSound.of_wpc (C := cxP Tryd.prog Φ3 [] 22) (T := plan0) Tryd.func7 rfl rfl rfl (Fit.pure (G := GG) hΦ3 mixed) (fun args h => ?_)
  unfold countS at h
  obtain ⟨a, b, rfl, hp⟩ := on_ii_inv h
  refine ⟨by simp [cxP], ?_⟩
  simp only [countS, on_ii_eq, Tryd.f7, argL, plan0]
  simp only [Φ3, Φ2, Φ1, validS, beforeS, on_i_eq, ev_skip, ev_seq, ev_region, ev_ret, ev_block, ev_exit, ev_loop, ev_cond, ev_scope, ev_label, condK_true, condK_false, condK_bool, isCut, Bool.false_eq_true, if_true, if_false, ↓reduceIte, false_implies, true_and, and_true, true_implies, KS_ap, KR_ap, steps_nil, stepsG_cons, thn_n, thn_e, thn_r, blk_n, blk_e, blk_r,     ev_op, ev_opG, opK_true, opK_false, isPureOp, List.contains_nil, List.contains_cons, Bool.or_false, Bool.false_or, cond_true, cond_false, aopP, callP_fn, callV_eq, mapV, allC, frzAll, frzL, opndV, ofV, ofV1, oc, ox, stripC, stripV, look_cons, upd_look, pureK_none, pureGK_eq, reduceCtorEq, Nat.reduceEqDiff, Nat.reduceLT, gAt, List.getElem?_toArray, List.getElem?_cons_succ, List.getElem?_cons_zero, Option.bind_some, Option.isNone_none, Bool.and_self, Bool.and_true, Bool.true_and,     gK_bool, gK_whn, mkW, pickA, beq_true, beq_false, Bool.not_false, Bool.not_true, keepA, binA, binP, binI, binS, eqP, unA, unP, isC, extractA, List.length_cons, List.length_nil, List.getD_cons_zero, List.getD_cons_succ, frzOk, frz, AV.freeL, AV.free, PV.flat, PV.flat1, List.all_cons, List.all_nil, or_true, true_or, cxP_P, cxP_N, cxP_Φ, cxP_Ψ, cxP_Θ, cxP_rows, putΦ, argL, implies_true, indexAddrA, loadA, partP, partL, PV.nth, isAggD, Int.reduceToNat, Int.toNat_zero, Int.toNat_one, Int.reduceLT, Int.reduceLE, List.drop_zero, List.take_zero, Nat.add_zero, Int.le_refl, Int.cast_ofNat_Int, not_false_eq_true, not_true_eq_false, imp_self, and_self, Bool.cond_false_right, Bool.cond_true_left, Bool.cond_false_left, Bool.cond_true_right, Nat.reduceAdd, Nat.zero_add, Fin_n, Fin_r, resC, resV, res1, tupP, minmaxA, foldI, sliceA, natOf, List.map_cons, List.map_nil, Option.map_none, Option.map_some, Option.toList, List.append_nil, List.nil_append, List.cons_append, buildSliceA, idxOk, elemOk, PV.width, PV.cells, PV.one, convP, convA, srcA, isStrV, isByteD, isU8, List.all_cons, List.all_nil, Nat.beq_eq_true_eq, beq_self_eq_true, Nat.reduceLeDiff, Nat.reduceMul]
  refine ⟨by simp, fun h1 => ?_, fun h1 => ⟨fun h2 => ?_, fun h2 => ?_⟩⟩
  · simp at h1
    rcases h1 with h1 | h1 <;> simp [cnt, h1]
  · simp at h1
    simp only [cnt, h1, h2]; rfl
  · simp at h1
    have ha := vld_iff.1 h1.1
    have hb := vld_iff.1 h1.2
    have := bef_le ha
    have := bef_le hb
    refine ⟨hb, ha, ?_⟩
    rw [i64_in _ (by omega)]
    simp only [cnt, h1, h2]; rfl
def nxt1 (a : Int) : Int := if a % 7 < 5 then a else a + (7 - a % 7)
def nxt (a : Int) : Int × Int := bif vld a && vld (nxt1 a) then (nxt1 a, 0) else (0, 2)
theorem nxt_bus {x : Int} (h : bus x = true) : nxt x = (x, 0) := by
  simp only [bus, Bool.and_eq_true, decide_eq_true_eq] at h
  simp [nxt, nxt1, h.2, h.1]
theorem nxt_inv {x : Int} (h : vld x = false) : nxt x = (0, 2) := by simp [nxt, h]
theorem nxt_step {x : Int} (h : vld x = true) (hb : bus x = false) : nxt (x + 1) = nxt x := by
  simp only [bus, h, Bool.true_and, decide_eq_false_iff_not] at hb
  have h2 := vld_iff.1 h
  by_cases h5 : x % 7 = 5
  · have e1 : nxt1 x = x + 2 := by unfold nxt1; rw [if_neg (by omega)]; omega
    have e2 : nxt1 (x + 1) = x + 2 := by unfold nxt1; rw [if_neg (by omega)]; omega
    have e3 : (vld (x + 1) && vld (x + 2)) = (vld x && vld (x + 2)) := by
      cases h6 : vld (x + 2)
      · simp
      · have := vld_iff.1 h6
        rw [h, vld_iff.2 (by omega : 0 ≤ x + 1 ∧ x + 1 ≤ 36000)]
    unfold nxt
    rw [e1, e2, e3]
  · have e1 : nxt1 x = x + 1 := by unfold nxt1; rw [if_neg (by omega)]; omega
    have e2 : nxt1 (x + 1) = x + 1 := by unfold nxt1; rw [if_pos (by omega)]
    unfold nxt
    rw [e1, e2, h]
    simp
noncomputable def nextS : PSpec := on_i (fun _ => True) (fun n => .tup [.int .i64 (nxt n).1, .int .i64 (nxt n).2])
theorem w_nextS : PSound GG 8 nextS := by
  refine PSound.of_wpc (C := cxP Tryd.prog Φ3 [] 11) (T := plan0) Tryd.func8 rfl rfl rfl (Fit.pure (G := GG) hΦ3 mixed) (fun args h => ?_)
  unfold nextS at h
  obtain ⟨n, rfl, hp⟩ := on_i_inv h
  refine ⟨by simp [cxP], ?_⟩
  simp only [nextS, on_i_eq, Tryd.f8, argL, plan0]
  simp only [ev_skip, ev_seq, ev_region, ev_ret, ev_block, ev_exit, ev_loop, ev_cond, ev_scope, ev_label, condK_true, condK_false, condK_bool, isCut, Bool.false_eq_true, if_true, if_false, ↓reduceIte, false_implies, true_and, and_true, true_implies, KS_ap, KR_ap, steps_nil, stepsG_cons, thn_n, thn_e, thn_r, blk_n, blk_e, blk_r,     ev_op, ev_opG, opK_true, opK_false, isPureOp, List.contains_nil, List.contains_cons, Bool.or_false, Bool.false_or, cond_true, cond_false, aopP, callP_fn, callV_eq, mapV, allC, frzAll, frzL, opndV, ofV, ofV1, oc, ox, stripC, stripV, look_cons, upd_look, pureK_none, pureGK_eq, reduceCtorEq, Nat.reduceEqDiff, Nat.reduceLT, gAt, List.getElem?_toArray, List.getElem?_cons_succ, List.getElem?_cons_zero, Option.bind_some, Option.isNone_none, Bool.and_self, Bool.and_true, Bool.true_and,     gK_bool, gK_whn, mkW, pickA, beq_true, beq_false, Bool.not_false, Bool.not_true, keepA, binA, binP, binI, binS, eqP, unA, unP, isC, extractA, List.length_cons, List.length_nil, List.getD_cons_zero, List.getD_cons_succ, frzOk, frz, AV.freeL, AV.free, PV.flat, PV.flat1, List.all_cons, List.all_nil, or_true, true_or, cxP_P, cxP_N, cxP_Φ, cxP_Ψ, cxP_Θ, cxP_rows, putΦ, argL, implies_true, indexAddrA, loadA, partP, partL, PV.nth, isAggD, Int.reduceToNat, Int.toNat_zero, Int.toNat_one, Int.reduceLT, Int.reduceLE, List.drop_zero, List.take_zero, Nat.add_zero, Int.le_refl, Int.cast_ofNat_Int, not_false_eq_true, not_true_eq_false, imp_self, and_self, Bool.cond_false_right, Bool.cond_true_left, Bool.cond_false_left, Bool.cond_true_right, Nat.reduceAdd, Nat.zero_add, Fin_n, Fin_r, resC, resV, res1, tupP, minmaxA, foldI, sliceA, natOf, List.map_cons, List.map_nil, Option.map_none, Option.map_some, Option.toList, List.append_nil, List.nil_append, List.cons_append, buildSliceA, idxOk, elemOk, PV.width, PV.cells, PV.one, convP, convA, srcA, isStrV, isByteD, isU8, List.all_cons, List.all_nil, Nat.beq_eq_true_eq, beq_self_eq_true, Nat.reduceLeDiff, Nat.reduceMul]
  refine AWp.loop (T := plan0) (α := Int) (fun x => ([(0, .pv (.int .i64 x)), (2, .pv (.int .i64 0)), (3, .pv (.int .i64 0))], [])) (fun x => nxt x = nxt n) (fun x => (40000 - x).toNat) ⟨n, rfl, ⟨by simp [fitR, look], trivial, rfl, rfl⟩⟩ ?_
  intro x hx
  simp only [Φ3, Φ2, Φ1, plan0, validS, businessS, on_i_eq, ev_skip, ev_seq, ev_region, ev_ret, ev_block, ev_exit, ev_loop, ev_cond, ev_scope, ev_label, condK_true, condK_false, condK_bool, isCut, Bool.false_eq_true, if_true, if_false, ↓reduceIte, false_implies, true_and, and_true, true_implies, KS_ap, KR_ap, steps_nil, stepsG_cons, thn_n, thn_e, thn_r, blk_n, blk_e, blk_r,     ev_op, ev_opG, opK_true, opK_false, isPureOp, List.contains_nil, List.contains_cons, Bool.or_false, Bool.false_or, cond_true, cond_false, aopP, callP_fn, callV_eq, mapV, allC, frzAll, frzL, opndV, ofV, ofV1, oc, ox, stripC, stripV, look_cons, upd_look, pureK_none, pureGK_eq, reduceCtorEq, Nat.reduceEqDiff, Nat.reduceLT, gAt, List.getElem?_toArray, List.getElem?_cons_succ, List.getElem?_cons_zero, Option.bind_some, Option.isNone_none, Bool.and_self, Bool.and_true, Bool.true_and,     gK_bool, gK_whn, mkW, pickA, beq_true, beq_false, Bool.not_false, Bool.not_true, keepA, binA, binP, binI, binS, eqP, unA, unP, isC, extractA, List.length_cons, List.length_nil, List.getD_cons_zero, List.getD_cons_succ, frzOk, frz, AV.freeL, AV.free, PV.flat, PV.flat1, List.all_cons, List.all_nil, or_true, true_or, cxP_P, cxP_N, cxP_Φ, cxP_Ψ, cxP_Θ, cxP_rows, putΦ, argL, implies_true, indexAddrA, loadA, partP, partL, PV.nth, isAggD, Int.reduceToNat, Int.toNat_zero, Int.toNat_one, Int.reduceLT, Int.reduceLE, List.drop_zero, List.take_zero, Nat.add_zero, Int.le_refl, Int.cast_ofNat_Int, not_false_eq_true, not_true_eq_false, imp_self, and_self, Bool.cond_false_right, Bool.cond_true_left, Bool.cond_false_left, Bool.cond_true_right, Nat.reduceAdd, Nat.zero_add, Fin_n, Fin_r, resC, resV, res1, tupP, minmaxA, foldI, sliceA, natOf, List.map_cons, List.map_nil, Option.map_none, Option.map_some, Option.toList, List.append_nil, List.nil_append, List.cons_append, buildSliceA, idxOk, elemOk, PV.width, PV.cells, PV.one, convP, convA, srcA, isStrV, isByteD, isU8, List.all_cons, List.all_nil, Nat.beq_eq_true_eq, beq_self_eq_true, Nat.reduceLeDiff, Nat.reduceMul]
  refine ⟨fun h1 => ⟨fun h2 => ?_, fun h2 => ?_⟩, fun h1 => ?_⟩
  · rw [← hx, nxt_bus h2]
  · have h3 := vld_iff.1 h1
    exact ⟨x + 1, by rw [nxt_step h1 h2, hx], by omega, ⟨by simp [fitR, look, i64_in (x + 1) (by omega)], trivial, rfl, rfl⟩⟩
  · rw [← hx, nxt_inv h1]
def twoV (n : Int) : List UInt8 := [UInt8.ofNat (48 + n / 10).toNat, UInt8.ofNat (48 + n % 10).toNat]
noncomputable def twoS : PSpec := on_i (fun n => 0 ≤ n ∧ n < 100) (fun n => .str (twoV n))
theorem sz5 : szOf Tryd.prog 5 = some 1 := by kernel_rfl
theorem ze5 : zeroT Tryd.prog 5 = some (.int .u8 0) := by kernel_rfl
theorem w_twoS : PSound GG 39 twoS := by
  refine PSound.of_wpc (C := cxP Tryd.prog Φ3 [] 13) (T := plan0) Tryd.func39 rfl rfl rfl (Fit.pure (G := GG) hΦ3 mixed) (fun args h => ?_)
  unfold twoS at h
  obtain ⟨n, rfl, hp⟩ := on_i_inv h
  refine ⟨by simp [cxP], ?_⟩
  simp only [twoS, on_i_eq, Tryd.f39, argL, plan0]
  simp only [Tryd.underlying3, Tryd.underlying5, Tryd.underlying57, Tryd.underlying9, sz5, ze5, ev_skip, ev_seq, ev_region, ev_ret, ev_block, ev_exit, ev_loop, ev_cond, ev_scope, ev_label, condK_true, condK_false, condK_bool, isCut, Bool.false_eq_true, if_true, if_false, ↓reduceIte, false_implies, true_and, and_true, true_implies, KS_ap, KR_ap, steps_nil, stepsG_cons, thn_n, thn_e, thn_r, blk_n, blk_e, blk_r,     ev_op, ev_opG, opK_true, opK_false, isPureOp, List.contains_nil, List.contains_cons, Bool.or_false, Bool.false_or, cond_true, cond_false, aopP, callP_fn, callV_eq, mapV, allC, frzAll, frzL, opndV, ofV, ofV1, oc, ox, stripC, stripV, look_cons, upd_look, pureK_none, pureGK_eq, reduceCtorEq, Nat.reduceEqDiff, Nat.reduceLT, gAt, List.getElem?_toArray, List.getElem?_cons_succ, List.getElem?_cons_zero, Option.bind_some, Option.isNone_none, Bool.and_self, Bool.and_true, Bool.true_and,     gK_bool, gK_whn, mkW, pickA, beq_true, beq_false, Bool.not_false, Bool.not_true, keepA, binA, binP, binI, binS, eqP, unA, unP, isC, extractA, List.length_cons, List.length_nil, List.getD_cons_zero, List.getD_cons_succ, frzOk, frz, AV.freeL, AV.free, PV.flat, PV.flat1, List.all_cons, List.all_nil, or_true, true_or, cxP_P, cxP_N, cxP_Φ, cxP_Ψ, cxP_Θ, cxP_rows, putΦ, argL, implies_true, indexAddrA, loadA, partP, partL, PV.nth, isAggD, Int.reduceToNat, Int.toNat_zero, Int.toNat_one, Int.reduceLT, Int.reduceLE, List.drop_zero, List.take_zero, Nat.add_zero, Int.le_refl, Int.cast_ofNat_Int, not_false_eq_true, not_true_eq_false, imp_self, and_self, Bool.cond_false_right, Bool.cond_true_left, Bool.cond_false_left, Bool.cond_true_right, Nat.reduceAdd, Nat.zero_add, Fin_n, Fin_r, resC, resV, res1, tupP, minmaxA, foldI, sliceA, natOf, List.map_cons, List.map_nil, Option.map_none, Option.map_some, Option.toList, List.append_nil, List.nil_append, List.cons_append, buildSliceA, idxOk, elemOk, PV.width, PV.cells, PV.one, convP, convA, srcA, isStrV, isByteD, isU8, List.all_cons, List.all_nil, Nat.beq_eq_true_eq, beq_self_eq_true, Nat.reduceLeDiff, Nat.reduceMul]
  refine ⟨by decide, by decide, ?_⟩
  rw [Int.tmod_eq_emod_of_nonneg hp.1, i64_quo _ _ (by omega), i64_in (48 + n / 10) (by omega), i64_in (48 + n % 10) (by omega), u8_in _ (by omega), u8_in _ (by omega)]
  rfl
def smallV (n : Int) : List UInt8 := if n < 10 then [UInt8.ofNat (48 + n).toNat] else twoV n
noncomputable def smallS : PSpec := on_i (fun n => 0 ≤ n ∧ n < 100) (fun n => .str (smallV n))
theorem w_smallS : PSound GG 61 smallS := by
  refine PSound.of_wpc (C := cxP Tryd.prog Φ3 [] 15) (T := plan0) Tryd.func61 rfl rfl rfl (Fit.pure (G := GG) hΦ3 mixed) (fun args h => ?_)
  unfold smallS at h
  obtain ⟨n, rfl, hp⟩ := on_i_inv h
  refine ⟨by simp [cxP], ?_⟩
  simp only [smallS, on_i_eq, Tryd.f61, argL, plan0]
  simp only [Tryd.underlying3, Tryd.underlying5, Tryd.underlying57, Tryd.underlying9, sz5, ze5, ev_skip, ev_seq, ev_region, ev_ret, ev_block, ev_exit, ev_loop, ev_cond, ev_scope, ev_label, condK_true, condK_false, condK_bool, isCut, Bool.false_eq_true, if_true, if_false, ↓reduceIte, false_implies, true_and, and_true, true_implies, KS_ap, KR_ap, steps_nil, stepsG_cons, thn_n, thn_e, thn_r, blk_n, blk_e, blk_r,     ev_op, ev_opG, opK_true, opK_false, isPureOp, List.contains_nil, List.contains_cons, Bool.or_false, Bool.false_or, cond_true, cond_false, aopP, callP_fn, callV_eq, mapV, allC, frzAll, frzL, opndV, ofV, ofV1, oc, ox, stripC, stripV, look_cons, upd_look, pureK_none, pureGK_eq, reduceCtorEq, Nat.reduceEqDiff, Nat.reduceLT, gAt, List.getElem?_toArray, List.getElem?_cons_succ, List.getElem?_cons_zero, Option.bind_some, Option.isNone_none, Bool.and_self, Bool.and_true, Bool.true_and,     gK_bool, gK_whn, mkW, pickA, beq_true, beq_false, Bool.not_false, Bool.not_true, keepA, binA, binP, binI, binS, eqP, unA, unP, isC, extractA, List.length_cons, List.length_nil, List.getD_cons_zero, List.getD_cons_succ, frzOk, frz, AV.freeL, AV.free, PV.flat, PV.flat1, List.all_cons, List.all_nil, or_true, true_or, cxP_P, cxP_N, cxP_Φ, cxP_Ψ, cxP_Θ, cxP_rows, putΦ, argL, implies_true, indexAddrA, loadA, partP, partL, PV.nth, isAggD, Int.reduceToNat, Int.toNat_zero, Int.toNat_one, Int.reduceLT, Int.reduceLE, List.drop_zero, List.take_zero, Nat.add_zero, Int.le_refl, Int.cast_ofNat_Int, not_false_eq_true, not_true_eq_false, imp_self, and_self, Bool.cond_false_right, Bool.cond_true_left, Bool.cond_false_left, Bool.cond_true_right, Nat.reduceAdd, Nat.zero_add, Fin_n, Fin_r, resC, resV, res1, tupP, minmaxA, foldI, sliceA, natOf, List.map_cons, List.map_nil, Option.map_none, Option.map_some, Option.toList, List.append_nil, List.nil_append, List.cons_append, buildSliceA, idxOk, elemOk, PV.width, PV.cells, PV.one, convP, convA, srcA, isStrV, isByteD, isU8, List.all_cons, List.all_nil, Nat.beq_eq_true_eq, beq_self_eq_true, Nat.reduceLeDiff, Nat.reduceMul]
  clear h
  obtain ⟨m, rfl⟩ := Int.eq_ofNat_of_zero_le hp.1
  have hm : m < 100 := by omega
  clear hp
  simp only [PV.str.injEq]
  revert m
  decide +kernel
noncomputable def Φ4 (g : FuncId) : PSpec := putΦ (putΦ (putΦ (putΦ Φ3 39 twoS) 61 smallS) 8 nextS) 7 countS g
theorem hΦ4 : TabSound GG Φ4 := (((hΦ3.put w_twoS).put w_smallS).put w_nextS).put w_countS
noncomputable def fmtS : PSpec := on_ii (fun n b => (0 ≤ n ∧ n < 100) ∧ b = 10) (fun n _ => .str (smallV n))
theorem w_fmtS : PSound GG 53 fmtS := by
  refine PSound.of_wpc (C := cxP Tryd.prog Φ4 [] 54) (T := plan0) Tryd.func53 rfl rfl rfl (Fit.pure (G := GG) hΦ4 mixed) (fun args h => ?_)
  unfold fmtS at h
  obtain ⟨n, b, rfl, hp⟩ := on_ii_inv h
  refine ⟨by simp [cxP], ?_⟩
  simp only [fmtS, on_ii_eq, Tryd.f53, argL, plan0]
  obtain ⟨hp, rfl⟩ := hp
  have c1 : decide (0 ≤ n) = true := by simp [hp.1]
  have c2 : decide (n < 100) = true := by simp [hp.2]
  simp only [c1, c2, Φ4, smallS, on_i_eq, ev_skip, ev_seq, ev_region, ev_ret, ev_block, ev_exit, ev_loop, ev_cond, ev_scope, ev_label, condK_true, condK_false, condK_bool, isCut, Bool.false_eq_true, if_true, if_false, ↓reduceIte, false_implies, true_and, and_true, true_implies, KS_ap, KR_ap, steps_nil, stepsG_cons, thn_n, thn_e, thn_r, blk_n, blk_e, blk_r,     ev_op, ev_opG, opK_true, opK_false, isPureOp, List.contains_nil, List.contains_cons, Bool.or_false, Bool.false_or, cond_true, cond_false, aopP, callP_fn, callV_eq, mapV, allC, frzAll, frzL, opndV, ofV, ofV1, oc, ox, stripC, stripV, look_cons, upd_look, pureK_none, pureGK_eq, reduceCtorEq, Nat.reduceEqDiff, Nat.reduceLT, gAt, List.getElem?_toArray, List.getElem?_cons_succ, List.getElem?_cons_zero, Option.bind_some, Option.isNone_none, Bool.and_self, Bool.and_true, Bool.true_and,     gK_bool, gK_whn, mkW, pickA, beq_true, beq_false, Bool.not_false, Bool.not_true, keepA, binA, binP, binI, binS, eqP, unA, unP, isC, extractA, List.length_cons, List.length_nil, List.getD_cons_zero, List.getD_cons_succ, frzOk, frz, AV.freeL, AV.free, PV.flat, PV.flat1, List.all_cons, List.all_nil, or_true, true_or, cxP_P, cxP_N, cxP_Φ, cxP_Ψ, cxP_Θ, cxP_rows, putΦ, argL, implies_true, indexAddrA, loadA, partP, partL, PV.nth, isAggD, Int.reduceToNat, Int.toNat_zero, Int.toNat_one, Int.reduceLT, Int.reduceLE, List.drop_zero, List.take_zero, Nat.add_zero, Int.le_refl, Int.cast_ofNat_Int, not_false_eq_true, not_true_eq_false, imp_self, and_self, Bool.cond_false_right, Bool.cond_true_left, Bool.cond_false_left, Bool.cond_true_right, Nat.reduceAdd, Nat.zero_add, Fin_n, Fin_r, resC, resV, res1, tupP, minmaxA, foldI, sliceA, natOf, List.map_cons, List.map_nil, Option.map_none, Option.map_some, Option.toList, List.append_nil, List.nil_append, List.cons_append, buildSliceA, idxOk, elemOk, PV.width, PV.cells, PV.one, convP, convA, srcA, isStrV, isByteD, isU8, List.all_cons, List.all_nil, Nat.beq_eq_true_eq, beq_self_eq_true, Nat.reduceLeDiff, Nat.reduceMul]
  exact hp
noncomputable def Φ5 (g : FuncId) : PSpec := putΦ Φ4 53 fmtS g
theorem hΦ5 : TabSound GG Φ5 := hΦ4.put w_fmtS
noncomputable def itoaS : PSpec := on_i (fun n => 0 ≤ n ∧ n < 100) (fun n => .str (smallV n))
theorem w_itoaS : PSound GG 44 itoaS := by
  refine PSound.of_wpc (C := cxP Tryd.prog Φ5 [] 5) (T := plan0) Tryd.func44 rfl rfl rfl (Fit.pure (G := GG) hΦ5 mixed) (fun args h => ?_)
  unfold itoaS at h
  obtain ⟨n, rfl, hp⟩ := on_i_inv h
  refine ⟨by simp [cxP], ?_⟩
  simp only [itoaS, on_i_eq, Tryd.f44, argL, plan0]
  simp only [Φ5, fmtS, on_ii_eq, ev_skip, ev_seq, ev_region, ev_ret, ev_block, ev_exit, ev_loop, ev_cond, ev_scope, ev_label, condK_true, condK_false, condK_bool, isCut, Bool.false_eq_true, if_true, if_false, ↓reduceIte, false_implies, true_and, and_true, true_implies, KS_ap, KR_ap, steps_nil, stepsG_cons, thn_n, thn_e, thn_r, blk_n, blk_e, blk_r,     ev_op, ev_opG, opK_true, opK_false, isPureOp, List.contains_nil, List.contains_cons, Bool.or_false, Bool.false_or, cond_true, cond_false, aopP, callP_fn, callV_eq, mapV, allC, frzAll, frzL, opndV, ofV, ofV1, oc, ox, stripC, stripV, look_cons, upd_look, pureK_none, pureGK_eq, reduceCtorEq, Nat.reduceEqDiff, Nat.reduceLT, gAt, List.getElem?_toArray, List.getElem?_cons_succ, List.getElem?_cons_zero, Option.bind_some, Option.isNone_none, Bool.and_self, Bool.and_true, Bool.true_and,     gK_bool, gK_whn, mkW, pickA, beq_true, beq_false, Bool.not_false, Bool.not_true, keepA, binA, binP, binI, binS, eqP, unA, unP, isC, extractA, List.length_cons, List.length_nil, List.getD_cons_zero, List.getD_cons_succ, frzOk, frz, AV.freeL, AV.free, PV.flat, PV.flat1, List.all_cons, List.all_nil, or_true, true_or, cxP_P, cxP_N, cxP_Φ, cxP_Ψ, cxP_Θ, cxP_rows, putΦ, argL, implies_true, indexAddrA, loadA, partP, partL, PV.nth, isAggD, Int.reduceToNat, Int.toNat_zero, Int.toNat_one, Int.reduceLT, Int.reduceLE, List.drop_zero, List.take_zero, Nat.add_zero, Int.le_refl, Int.cast_ofNat_Int, not_false_eq_true, not_true_eq_false, imp_self, and_self, Bool.cond_false_right, Bool.cond_true_left, Bool.cond_false_left, Bool.cond_true_right, Nat.reduceAdd, Nat.zero_add, Fin_n, Fin_r, resC, resV, res1, tupP, minmaxA, foldI, sliceA, natOf, List.map_cons, List.map_nil, Option.map_none, Option.map_some, Option.toList, List.append_nil, List.nil_append, List.cons_append, buildSliceA, idxOk, elemOk, PV.width, PV.cells, PV.one, convP, convA, srcA, isStrV, isByteD, isU8, List.all_cons, List.all_nil, Nat.beq_eq_true_eq, beq_self_eq_true, Nat.reduceLeDiff, Nat.reduceMul]
  exact hp
noncomputable def Φ6 (g : FuncId) : PSpec := putΦ Φ5 44 itoaS g
theorem hΦ6 : TabSound GG Φ6 := hΦ5.put w_itoaS
noncomputable def itoaSS : PSpec := on_i (fun n => 0 ≤ n ∧ n < 100) (fun n => .str (smallV n))
theorem w_itoaSS : PSound GG 38 itoaSS := by
  refine PSound.of_wpc (C := cxP Tryd.prog Φ6 [] 5) (T := plan0) Tryd.func38 rfl rfl rfl (Fit.pure (G := GG) hΦ6 mixed) (fun args h => ?_)
  unfold itoaSS at h
  obtain ⟨n, rfl, hp⟩ := on_i_inv h
  refine ⟨by simp [cxP], ?_⟩
  simp only [itoaSS, on_i_eq, Tryd.f38, argL, plan0]
  simp only [Φ6, itoaS, on_i_eq, ev_skip, ev_seq, ev_region, ev_ret, ev_block, ev_exit, ev_loop, ev_cond, ev_scope, ev_label, condK_true, condK_false, condK_bool, isCut, Bool.false_eq_true, if_true, if_false, ↓reduceIte, false_implies, true_and, and_true, true_implies, KS_ap, KR_ap, steps_nil, stepsG_cons, thn_n, thn_e, thn_r, blk_n, blk_e, blk_r,     ev_op, ev_opG, opK_true, opK_false, isPureOp, List.contains_nil, List.contains_cons, Bool.or_false, Bool.false_or, cond_true, cond_false, aopP, callP_fn, callV_eq, mapV, allC, frzAll, frzL, opndV, ofV, ofV1, oc, ox, stripC, stripV, look_cons, upd_look, pureK_none, pureGK_eq, reduceCtorEq, Nat.reduceEqDiff, Nat.reduceLT, gAt, List.getElem?_toArray, List.getElem?_cons_succ, List.getElem?_cons_zero, Option.bind_some, Option.isNone_none, Bool.and_self, Bool.and_true, Bool.true_and,     gK_bool, gK_whn, mkW, pickA, beq_true, beq_false, Bool.not_false, Bool.not_true, keepA, binA, binP, binI, binS, eqP, unA, unP, isC, extractA, List.length_cons, List.length_nil, List.getD_cons_zero, List.getD_cons_succ, frzOk, frz, AV.freeL, AV.free, PV.flat, PV.flat1, List.all_cons, List.all_nil, or_true, true_or, cxP_P, cxP_N, cxP_Φ, cxP_Ψ, cxP_Θ, cxP_rows, putΦ, argL, implies_true, indexAddrA, loadA, partP, partL, PV.nth, isAggD, Int.reduceToNat, Int.toNat_zero, Int.toNat_one, Int.reduceLT, Int.reduceLE, List.drop_zero, List.take_zero, Nat.add_zero, Int.le_refl, Int.cast_ofNat_Int, not_false_eq_true, not_true_eq_false, imp_self, and_self, Bool.cond_false_right, Bool.cond_true_left, Bool.cond_false_left, Bool.cond_true_right, Nat.reduceAdd, Nat.zero_add, Fin_n, Fin_r, resC, resV, res1, tupP, minmaxA, foldI, sliceA, natOf, List.map_cons, List.map_nil, Option.map_none, Option.map_some, Option.toList, List.append_nil, List.nil_append, List.cons_append, buildSliceA, idxOk, elemOk, PV.width, PV.cells, PV.one, convP, convA, srcA, isStrV, isByteD, isU8, List.all_cons, List.all_nil, Nat.beq_eq_true_eq, beq_self_eq_true, Nat.reduceLeDiff, Nat.reduceMul]
  exact hp
noncomputable def Φ7 (g : FuncId) : PSpec := putΦ Φ6 38 itoaSS g
theorem hΦ7 : TabSound GG Φ7 := hΦ6.put w_itoaSS
def txt (n : Int) : List UInt8 := smallV (n / 360) ++ [45] ++ twoV (n % 360 / 30 + 1) ++ [45] ++ twoV (n % 30 + 1)
noncomputable def textS : PSpec := on_i (fun n => 0 ≤ n ∧ n < 36000) (fun n => .str (txt n))
theorem w_textS : PSound GG 15 textS := by
  refine PSound.of_wpc (C := cxP Tryd.prog Φ7 [] 25) (T := plan0) Tryd.func15 rfl rfl rfl (Fit.pure (G := GG) hΦ7 mixed) (fun args h => ?_)
  unfold textS at h
  obtain ⟨n, rfl, hp⟩ := on_i_inv h
  refine ⟨by simp [cxP], ?_⟩
  simp only [textS, on_i_eq, Tryd.f15, argL, plan0]
  have c1 : vld n = true := vld_iff.2 (by omega)
  have c2 : dat n = (n / 360, n % 360 / 30 + 1, n % 30 + 1) := by simp [dat, c1]
  simp only [c1, c2, Φ7, Φ6, Φ5, Φ4, Φ3, Φ2, Φ1, validS, dateS, itoaSS, twoS, on_i_eq, ev_skip, ev_seq, ev_region, ev_ret, ev_block, ev_exit, ev_loop, ev_cond, ev_scope, ev_label, condK_true, condK_false, condK_bool, isCut, Bool.false_eq_true, if_true, if_false, ↓reduceIte, false_implies, true_and, and_true, true_implies, KS_ap, KR_ap, steps_nil, stepsG_cons, thn_n, thn_e, thn_r, blk_n, blk_e, blk_r,     ev_op, ev_opG, opK_true, opK_false, isPureOp, List.contains_nil, List.contains_cons, Bool.or_false, Bool.false_or, cond_true, cond_false, aopP, callP_fn, callV_eq, mapV, allC, frzAll, frzL, opndV, ofV, ofV1, oc, ox, stripC, stripV, look_cons, upd_look, pureK_none, pureGK_eq, reduceCtorEq, Nat.reduceEqDiff, Nat.reduceLT, gAt, List.getElem?_toArray, List.getElem?_cons_succ, List.getElem?_cons_zero, Option.bind_some, Option.isNone_none, Bool.and_self, Bool.and_true, Bool.true_and,     gK_bool, gK_whn, mkW, pickA, beq_true, beq_false, Bool.not_false, Bool.not_true, keepA, binA, binP, binI, binS, eqP, unA, unP, isC, extractA, List.length_cons, List.length_nil, List.getD_cons_zero, List.getD_cons_succ, frzOk, frz, AV.freeL, AV.free, PV.flat, PV.flat1, List.all_cons, List.all_nil, or_true, true_or, cxP_P, cxP_N, cxP_Φ, cxP_Ψ, cxP_Θ, cxP_rows, putΦ, argL, implies_true, indexAddrA, loadA, partP, partL, PV.nth, isAggD, Int.reduceToNat, Int.toNat_zero, Int.toNat_one, Int.reduceLT, Int.reduceLE, List.drop_zero, List.take_zero, Nat.add_zero, Int.le_refl, Int.cast_ofNat_Int, not_false_eq_true, not_true_eq_false, imp_self, and_self, Bool.cond_false_right, Bool.cond_true_left, Bool.cond_false_left, Bool.cond_true_right, Nat.reduceAdd, Nat.zero_add, Fin_n, Fin_r, resC, resV, res1, tupP, minmaxA, foldI, sliceA, natOf, List.map_cons, List.map_nil, Option.map_none, Option.map_some, Option.toList, List.append_nil, List.nil_append, List.cons_append, buildSliceA, idxOk, elemOk, PV.width, PV.cells, PV.one, convP, convA, srcA, isStrV, isByteD, isU8, List.all_cons, List.all_nil, Nat.beq_eq_true_eq, beq_self_eq_true, Nat.reduceLeDiff, Nat.reduceMul]
  have l1 : (smallV (n / 360)).length ≤ 2 := by unfold smallV; split <;> simp [twoV]
  have l2 : ∀ k, (twoV k).length = 2 := fun k => rfl
  refine ⟨by omega, by omega, by omega, ?_, ?_, by omega, ?_, rfl⟩ <;> simp only [List.length_append, List.length_cons, List.length_nil, l2] <;> omega
noncomputable def Φ8 (g : FuncId) : PSpec := putΦ (putΦ Φ7 15 textS) 11 monthsS g
theorem hΦ8 : TabSound GG Φ8 := (hΦ7.put w_textS).put w_monthsS
noncomputable def awakeS : PSpec := on_ (True) (.bool true)
theorem w_awakeS : PSound GG 10 awakeS := by
  refine PSound.of_wpc (C := cxP Tryd.prog Φ8 [] 37) (T := plan0) Tryd.func10 rfl rfl rfl (Fit.pure (G := GG) hΦ8 mixed) (fun args h => ?_)
  unfold awakeS at h
  obtain ⟨rfl, hp⟩ := on__inv h
  refine ⟨by simp [cxP], ?_⟩
  simp only [awakeS, on__eq, Tryd.f10, argL, plan0]
  have c2 : dat 365 = (1, 1, 6) := by decide
  have c3 : nxt 5 = (7, 0) := by decide
  have c4 : txt 365 = [49, 45, 48, 49, 45, 48, 54] := by decide
  simp only [c2, c3, Φ8, Φ7, Φ6, Φ5, Φ4, Φ3, Φ2, Φ1, dateS, nextS, textS, c4, on_i_eq, ev_skip, ev_seq, ev_region, ev_ret, ev_block, ev_exit, ev_loop, ev_cond, ev_scope, ev_label, condK_true, condK_false, condK_bool, isCut, Bool.false_eq_true, if_true, if_false, ↓reduceIte, false_implies, true_and, and_true, true_implies, KS_ap, KR_ap, steps_nil, stepsG_cons, thn_n, thn_e, thn_r, blk_n, blk_e, blk_r,     ev_op, ev_opG, opK_true, opK_false, isPureOp, List.contains_nil, List.contains_cons, Bool.or_false, Bool.false_or, cond_true, cond_false, aopP, callP_fn, callV_eq, mapV, allC, frzAll, frzL, opndV, ofV, ofV1, oc, ox, stripC, stripV, look_cons, upd_look, pureK_none, pureGK_eq, reduceCtorEq, Nat.reduceEqDiff, Nat.reduceLT, gAt, List.getElem?_toArray, List.getElem?_cons_succ, List.getElem?_cons_zero, Option.bind_some, Option.isNone_none, Bool.and_self, Bool.and_true, Bool.true_and,     gK_bool, gK_whn, mkW, pickA, beq_true, beq_false, Bool.not_false, Bool.not_true, keepA, binA, binP, binI, binS, eqP, unA, unP, isC, extractA, List.length_cons, List.length_nil, List.getD_cons_zero, List.getD_cons_succ, frzOk, frz, AV.freeL, AV.free, PV.flat, PV.flat1, List.all_cons, List.all_nil, or_true, true_or, cxP_P, cxP_N, cxP_Φ, cxP_Ψ, cxP_Θ, cxP_rows, putΦ, argL, implies_true, indexAddrA, loadA, partP, partL, PV.nth, isAggD, Int.reduceToNat, Int.toNat_zero, Int.toNat_one, Int.reduceLT, Int.reduceLE, List.drop_zero, List.take_zero, Nat.add_zero, Int.le_refl, Int.cast_ofNat_Int, not_false_eq_true, not_true_eq_false, imp_self, and_self, Bool.cond_false_right, Bool.cond_true_left, Bool.cond_false_left, Bool.cond_true_right, Nat.reduceAdd, Nat.zero_add, Fin_n, Fin_r, resC, resV, res1, tupP, minmaxA, foldI, sliceA, natOf, List.map_cons, List.map_nil, Option.map_none, Option.map_some, Option.toList, List.append_nil, List.nil_append, List.cons_append, buildSliceA, idxOk, elemOk, PV.width, PV.cells, PV.one, convP, convA, srcA, isStrV, isByteD, isU8, List.all_cons, List.all_nil, Nat.beq_eq_true_eq, beq_self_eq_true, Nat.reduceLeDiff, Nat.reduceMul]
noncomputable def Φ9 (g : FuncId) : PSpec := putΦ Φ8 10 awakeS g
theorem hΦ9 : TabSound GG Φ9 := hΦ8.put w_awakeS
def on_Ujj (p : Int → Int → Int → Prop) (f : Int → Int → Int → PV) : PSpec
  | [.int .u16 a0, .int .i8 a1, .int .i8 a2] => (p a0 a1 a2, f a0 a1 a2)
  | _ => (False, default)
theorem on_Ujj_eq {p : Int → Int → Int → Prop} {f : Int → Int → Int → PV} {a0 : Int} {a1 : Int} {a2 : Int} : on_Ujj p f [.int .u16 a0, .int .i8 a1, .int .i8 a2] = (p a0 a1 a2, f a0 a1 a2) := rfl
theorem on_Ujj_inv {p : Int → Int → Int → Prop} {f : Int → Int → Int → PV} {args : List PV} (h : (on_Ujj p f args).1) : ∃ a0 : Int, ∃ a1 : Int, ∃ a2 : Int, args = [.int .u16 a0, .int .i8 a1, .int .i8 a2] ∧ p a0 a1 a2 := by
  unfold on_Ujj at h
  split at h
  · exact ⟨_, _, _, rfl, h⟩
  · exact h.elim
def on_UUU (p : Int → Int → Int → Prop) (f : Int → Int → Int → PV) : PSpec
  | [.int .u16 a0, .int .u16 a1, .int .u16 a2] => (p a0 a1 a2, f a0 a1 a2)
  | _ => (False, default)
theorem on_UUU_eq {p : Int → Int → Int → Prop} {f : Int → Int → Int → PV} {a0 : Int} {a1 : Int} {a2 : Int} : on_UUU p f [.int .u16 a0, .int .u16 a1, .int .u16 a2] = (p a0 a1 a2, f a0 a1 a2) := rfl
theorem on_UUU_inv {p : Int → Int → Int → Prop} {f : Int → Int → Int → PV} {args : List PV} (h : (on_UUU p f args).1) : ∃ a0 : Int, ∃ a1 : Int, ∃ a2 : Int, args = [.int .u16 a0, .int .u16 a1, .int .u16 a2] ∧ p a0 a1 a2 := by
  unfold on_UUU at h
  split at h
  · exact ⟨_, _, _, rfl, h⟩
  · exact h.elim
theorem sz3 : szOf Tryd.prog 3 = some 1 := by kernel_rfl
theorem ze3 : zeroT Tryd.prog 3 = some (.int .i64 0) := by kernel_rfl
theorem mon_eq {d b : Int} (h : 0 ≤ d ∧ d ≤ 36000) (hb : -36000 ≤ b ∧ b ≤ 36000) : mon d b = chk (d + 30 * b) := by
  have h1 := vld_iff.2 h
  have h2 : amg b (-36000) 36000 = true := by simp [amg, hb]
  simp [mon, h1, h2]
theorem months_law {d b c : Int} (h : 0 ≤ d ∧ d ≤ 36000) (hb : -128 ≤ b ∧ b ≤ 127) (hc : -128 ≤ c ∧ c ≤ 127) :
    (((mon d b).2 != 0) = true → d + 30 * b < 0 ∨ 36000 < d + 30 * b) ∧
    (((mon d b).2 != 0) = false → (mon (mon d b).1 c).2 = (mon d (b + c)).2 ∧ (mon (mon d b).1 c).1 = (mon d (b + c)).1 ∧ (mon (mon d b).1 (0 - b)).2 = 0 ∧ (mon (mon d b).1 (0 - b)).1 = d ∧ (dat d).2.2 = (dat (mon d b).1).2.2) := by
  rw [mon_eq h (by omega)]
  cases hv : vld (d + 30 * b) with
  | false =>
    have := vld_not.1 hv
    simp only [chk, hv, cond_false]
    exact ⟨fun _ => by omega, fun h => by simp at h⟩
  | true =>
    have h2 := vld_iff.1 hv
    have e : chk (d + 30 * b) = (d + 30 * b, 0) := by simp [chk, hv]
    rw [e]
    refine ⟨fun h => by simp at h, fun _ => ?_⟩
    rw [mon_eq h2 (by omega), mon_eq h2 (by omega), mon_eq h (by omega), show d + 30 * b + 30 * c = d + 30 * (b + c) by omega, show d + 30 * b + 30 * (0 - b) = d by omega]
    have h3 := vld_iff.2 h
    refine ⟨rfl, rfl, by simp [chk, h3], by simp [chk, h3], ?_⟩
    simp only [dat, h3, hv, cond_true]
    omega
noncomputable def monthsLawS : PSpec := on_Ujj (fun a b c => (0 ≤ a ∧ a ≤ 65535) ∧ (-128 ≤ b ∧ b ≤ 127) ∧ (-128 ≤ c ∧ c ≤ 127)) (fun _ _ _ => .bool true)
theorem w_monthsLawS : PSound GG 4 monthsLawS := by
  refine PSound.of_wpc (C := cxP Tryd.prog Φ9 [] 116) (T := plan0) Tryd.func4 rfl rfl rfl (Fit.pure (G := GG) hΦ9 mixed) (fun args h => ?_)
  unfold monthsLawS at h
  obtain ⟨a, b, c, rfl, hp⟩ := on_Ujj_inv h
  refine ⟨by simp [cxP], ?_⟩
  simp only [monthsLawS, on_Ujj_eq, Tryd.f4, argL, plan0]
  simp only [Tryd.underlying3, Tryd.underlying22, Tryd.underlying31, Tryd.underlying24, Φ9, Φ8, Φ7, Φ6, Φ5, Φ4, Φ3, Φ2, Φ1, dateS, monthsS, awakeS, on_i_eq, on_ii_eq, on__eq, ev_skip, ev_seq, ev_region, ev_ret, ev_block, ev_exit, ev_loop, ev_cond, ev_scope, ev_label, condK_true, condK_false, condK_bool, isCut, Bool.false_eq_true, if_true, if_false, ↓reduceIte, false_implies, true_and, and_true, true_implies, KS_ap, KR_ap, steps_nil, stepsG_cons, thn_n, thn_e, thn_r, blk_n, blk_e, blk_r,     ev_op, ev_opG, opK_true, opK_false, isPureOp, List.contains_nil, List.contains_cons, Bool.or_false, Bool.false_or, cond_true, cond_false, aopP, callP_fn, callV_eq, mapV, allC, frzAll, frzL, opndV, ofV, ofV1, oc, ox, stripC, stripV, look_cons, upd_look, pureK_none, pureGK_eq, reduceCtorEq, Nat.reduceEqDiff, Nat.reduceLT, gAt, List.getElem?_toArray, List.getElem?_cons_succ, List.getElem?_cons_zero, Option.bind_some, Option.isNone_none, Bool.and_self, Bool.and_true, Bool.true_and,     gK_bool, gK_whn, mkW, pickA, beq_true, beq_false, Bool.not_false, Bool.not_true, keepA, binA, binP, binI, binS, eqP, unA, unP, isC, extractA, List.length_cons, List.length_nil, List.getD_cons_zero, List.getD_cons_succ, frzOk, frz, AV.freeL, AV.free, PV.flat, PV.flat1, List.all_cons, List.all_nil, or_true, true_or, cxP_P, cxP_N, cxP_Φ, cxP_Ψ, cxP_Θ, cxP_rows, putΦ, argL, implies_true, indexAddrA, loadA, partP, partL, PV.nth, isAggD, Int.reduceToNat, Int.toNat_zero, Int.toNat_one, Int.reduceLT, Int.reduceLE, List.drop_zero, List.take_zero, Nat.add_zero, Int.le_refl, Int.cast_ofNat_Int, not_false_eq_true, not_true_eq_false, imp_self, and_self, Bool.cond_false_right, Bool.cond_true_left, Bool.cond_false_left, Bool.cond_true_right, Nat.reduceAdd, Nat.zero_add, Fin_n, Fin_r, resC, resV, res1, tupP, minmaxA, foldI, sliceA, natOf, List.map_cons, List.map_nil, Option.map_none, Option.map_some, Option.toList, List.append_nil, List.nil_append, List.cons_append, buildSliceA, idxOk, elemOk, PV.width, PV.cells, PV.one, convP, convA, srcA, isStrV, isByteD, isU8, List.all_cons, List.all_nil, Nat.beq_eq_true_eq, beq_self_eq_true, Nat.reduceLeDiff, Nat.reduceMul]
  obtain ⟨⟨ha1, ha2⟩, ⟨hb1, hb2⟩, hc1, hc2⟩ := hp
  have hd : 0 ≤ a % 36001 ∧ a % 36001 ≤ 36000 := by omega
  simp only [i64_in a (by omega), Int.tmod_eq_emod_of_nonneg ha1, i64_in b (by omega), i64_in c (by omega), i64_in (b + c) (by omega), i64_in (0 - b) (by omega), i64_in (30 * b) (by omega), i64_in (a % 36001 + 30 * b) (by omega)]
  generalize a % 36001 = d at hd ⊢
  obtain ⟨h1, h2⟩ := months_law hd ⟨hb1, hb2⟩ ⟨hc1, hc2⟩
  refine ⟨by decide, fun h => ⟨?_, ?_, ?_⟩, fun h => ?_⟩
  · intro h3; refine ⟨h3, fun h4 => by rw [h3, h4]; rfl⟩
  · intro h3; rw [h3]; rfl
  · have := h1 h
    simp only [PV.bool.injEq, Bool.or_eq_true, decide_eq_true_eq]
    exact this
  · obtain ⟨e1, e2, e3, e4, e5⟩ := h2 h
    simp only [e1, e2, e3, e4, e5, beq_self_eq_true, Bool.and_self]
end Go.AM
