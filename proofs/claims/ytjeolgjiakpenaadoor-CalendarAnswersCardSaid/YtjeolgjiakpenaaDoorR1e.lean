/-
  A part of a proof: see the last text of this claim for what is proved.
-/
import Derived.Test.YtjeolgjiakpenaaDoorR1d
namespace Go.AM
open Go Go.Proofs Go.IntWalk Go.Shelf
set_option maxRecDepth 100000
set_option linter.unusedSimpArgs false
set_option linter.unusedVariables false
def wordsN (s : List UInt8) : List (List UInt8) := Lib.splitK [45] 0 (min 3 (s.length + 1) - 1) s
def finP (s : List UInt8) (x : Int × Int × Int) : Int × Int :=
  bif (dayF x.1 x.2.1 x.2.2).2 != 0 || !(txtF (dayF x.1 x.2.1 x.2.2).1 == s) then (0, 4) else ((dayF x.1 x.2.1 x.2.2).1, 0)
def set3 (x : Int × Int × Int) : Nat → Int → Int × Int × Int
  | 0, v => (v, x.2.1, x.2.2)
  | 1, v => (x.1, v, x.2.2)
  | _, v => (x.1, x.2.1, v)
def prsG (s : List UInt8) : List (List UInt8) → Nat → Int × Int × Int → Int × Int
  | [], _, x => finP s x
  | w :: ws, i, x => match Lib.atoiAll w with | .ok v => prsG s ws (i + 1) (set3 x i v) | _ => (0, 4)
def prsF (s : List UInt8) : Int × Int := prsG s (wordsN s) 0 (0, 0, 0)
noncomputable def parseS : PSpec := on_s (fun s => s.length ≤ 1000000) (fun s => .tup [.int .i64 (prsF s).1, .int .i64 (prsF s).2])
theorem splitK_len : ∀ (k : Nat) (s : List UInt8), (Lib.splitK [45] 0 k s).length ≤ k + 1
  | 0, _ => Nat.le_refl _
  | k + 1, s => by
    unfold Lib.splitK
    split
    · simp
    · have := splitK_len k (s.drop ((Lib.index s [45]).toNat + ([45] : List UInt8).length))
      simp only [List.length_cons] at this ⊢; omega
theorem splitK_le : ∀ (k : Nat) (s : List UInt8), ∀ w, w ∈ Lib.splitK [45] 0 k s → w.length ≤ s.length
  | 0, s, w, hw => by simp only [Lib.splitK, List.mem_singleton] at hw; subst hw; exact Nat.le_refl _
  | k + 1, s, w, hw => by
    unfold Lib.splitK at hw
    split at hw
    · simp only [List.mem_singleton] at hw; subst hw; exact Nat.le_refl _
    · rcases List.mem_cons.1 hw with rfl | hw
      · rw [List.length_take]; omega
      · have := splitK_le k _ w hw
        rw [List.length_drop] at this; omega
theorem getD_strs {l : List (List UInt8)} {i : Nat} (h : i < l.length) : (l.map PV.str).getD i default = .str (l.getD i []) := by
  simp [List.getD_eq_getElem?_getD, h]
theorem w_parseS : PSound GG 14 parseS := by
  refine PSound.of_wpc (C := cxP Tryd.prog Φ5 [] 49) (T := plan0) Tryd.func14 rfl rfl rfl (Fit.pure (G := GG) hΦ5 mixed) (fun args h => ?_)
  unfold parseS at h
  obtain ⟨s, rfl, hp⟩ := on_s_inv h
  refine ⟨by simp [cxP], ?_⟩
  simp only [parseS, on_s_eq, Tryd.f14, argL, plan0]
  have hwl : (wordsN s).length ≤ 3 := by
    unfold wordsN
    have := splitK_len (min 3 (s.length + 1) - 1) s
    omega
  have hws : ∀ w, w ∈ wordsN s → w.length ≤ s.length := splitK_le _ _
  have hwd : Lib.splitK [45] 0 (min (Int.toNat 3) (s.length + 1) - 1) s = wordsN s := rfl
  have ht : Int.toNat 3 = 3 := rfl
  rw [ht] at hwd
  unfold prsF
  simp only [hwd, ht, Φ5, Φ4, splitNQ, on_ssi_eq, List.length_map, Tryd.underlying1, sz1, by1, ze1, Tryd.underlying3, sz3, by3, ze3, Tryd.underlying4, sz4, by4, ze4, Tryd.underlying9, sz9, by9, ze9, Tryd.underlying24, sz24, by24, ze24, Tryd.underlying25, sz25, by25, ze25, Tryd.underlying43, sz43, by43, ze43, Tryd.underlying44, sz44, by44, ze44, Tryd.underlying50, sz50, by50, ze50, Tryd.underlying51, sz51, by51, ze51, ev_skip, ev_seq, ev_region, ev_ret, ev_block, ev_exit, ev_loop, ev_cond, ev_scope, ev_label, condK_true, condK_false, condK_bool, isCut, Bool.false_eq_true, if_true, if_false, ↓reduceIte, false_implies, true_and, and_true, true_implies, KS_ap, KR_ap, steps_nil, stepsG_cons, thn_n, thn_e, thn_r, blk_n, blk_e, blk_r,     ev_op, ev_opG, opK_true, opK_false, isPureOp, List.contains_nil, List.contains_cons, Bool.or_false, Bool.false_or, cond_true, cond_false, aopP, callP_fn, callV_eq, mapV, allC, frzAll, frzL, opndV, ofV, ofV1, oc, ox, stripC, stripV, look_cons, upd_look, pureK_none, pureGK_eq, reduceCtorEq, Nat.reduceEqDiff, Nat.reduceLT, gAt, List.getElem?_toArray, List.getElem?_cons_succ, List.getElem?_cons_zero, Option.bind_some, Option.isNone_none, Option.isNone_some, Bool.false_and, Bool.and_false, Bool.and_self, Bool.and_true, Bool.true_and,     gK_bool, gK_whn, mkW, pickA, beq_true, beq_false, Bool.not_false, Bool.not_true, keepA, binA, binP, binI, binS, eqP, unA, unP, isC, extractA, List.length_cons, List.length_nil, List.getD_cons_zero, List.getD_cons_succ, frzOk, frz, AV.freeL, AV.free, PV.flat, PV.flat1, List.all_cons, List.all_nil, or_true, true_or, cxP_P, cxP_N, cxP_Φ, cxP_Ψ, cxP_Θ, cxP_rows, cxP_pins, cxQ_P, cxQ_N, cxQ_Φ, cxQ_Ψ, cxQ_Θ, cxQ_rows, cxQ_pins, putΘ, putΨ, noΘ, noΨ, ev_call, ev_alloc, ev_box, ev_makeSlice, ev_store, ev_append, callK_E, callK_Q, callK_P, qV_1, ↓all_qV, psiNew_eq, aopE, newB_some, putD_some, putD, hget, hset, hdel, storeA, putL, cellsA, partC, partA, fieldAddrA, addOff, nilCheckA, fieldV, buildA, packA, fieldPlaces, fillA, appendA, allW, killR_look, killS, AV.kill, AV.killL, killH, ABlk.kill, putΦ, argL, implies_true, indexAddrA, loadA, partP, partL, PV.nth, isAggD, Int.reduceToNat, Int.toNat_zero, Int.toNat_one, Int.reduceLT, Int.reduceLE, List.drop_zero, List.take_zero, Nat.add_zero, Int.le_refl, Int.cast_ofNat_Int, not_false_eq_true, not_true_eq_false, imp_self, and_self, gt1, gt2, Bool.not_not, Bool.cond_false_right, Bool.cond_true_left, Bool.cond_false_left, Bool.cond_true_right, Nat.reduceAdd, Nat.zero_add, Fin_n, Fin_r, FinQ, tapeOk, filt, AV.refsIn, AV.refsInL, refsH, ABlk.refsIn, pvL, Option.isSome_some, Option.getD_some, Option.getD_none, FinN, resC, resV, res1, tupP, AV.one, List.set_cons_succ, List.set_cons_zero, Option.some.injEq, minmaxA, foldI, lenA, isSliceD, isStrD, isSliceOrStr, Int.toNat_natCast, ne_eq, sliceA, natOf, List.map_cons, List.map_nil, Option.map_none, Option.map_some, Option.toList, List.append_nil, List.nil_append, List.cons_append, buildSliceA, idxOk, elemOk, PV.width, PV.cells, PV.one, convP, convA, srcA, isStrV, isByteD, isU8, List.all_cons, List.all_nil, Nat.beq_eq_true_eq, beq_self_eq_true, Nat.reduceLeDiff, Nat.reduceMul]
  refine ⟨by omega, ?_⟩
  refine AWp.loop (T := plan0) (α := Nat × Int × Int × Int) (fun x => ([(0, .pv (.str s)), (4, .ptr 4 0), (12, .pv (.sl ((wordsN s).map PV.str))), (13, .pv (.int .i64 (wordsN s).length)), (14, .pv (.int .i64 x.1))], [(4, .cells [.pv (.int .i64 x.2.1), .pv (.int .i64 x.2.2.1), .pv (.int .i64 x.2.2.2)])]))
    (fun x => x.1 ≤ (wordsN s).length ∧ prsG s ((wordsN s).drop x.1) x.1 x.2 = prsG s (wordsN s) 0 (0, 0, 0)) (fun x => (wordsN s).length - x.1)
    ⟨(0, 0, 0, 0), ⟨Nat.zero_le _, rfl⟩, ⟨by simp [fitR, look], by simp [fitH, hget], rfl, rfl, rfl⟩⟩ ?_
  rintro ⟨i, a, b, c⟩ ⟨h1, h2⟩
  simp only at h1 h2
  generalize prsG s (wordsN s) 0 (0, 0, 0) = R at h2 ⊢
  have hi1 : IntKind.i64.wrap ((i : Int) + 1) = ((i + 1 : Nat) : Int) := by rw [i64_in _ (by omega)]; omega
  by_cases hlt : i < (wordsN s).length
  · have c0 : decide ((i : Int) < ((wordsN s).length : Int)) = true := by simp; omega
    have d1 : (wordsN s).drop i = (wordsN s).getD i [] :: (wordsN s).drop (i + 1) := by rw [List.drop_eq_getElem_cons hlt]; simp [List.getD_eq_getElem?_getD, hlt]
    have g1 := getD_strs hlt
    have hm : (wordsN s).getD i [] ∈ wordsN s := by rw [List.getD_eq_getElem?_getD, List.getElem?_eq_getElem hlt]; exact List.getElem_mem _
    have hwl2 := hws _ hm
    rw [d1, prsG] at h2
    generalize (wordsN s).getD i [] = w at h2 g1 hwl2
    rcases ha : Lib.atoiAll w with v | _ | _
    · have hv : atoiV (lAtoi_ren.t 168) w = .tup [.int .i64 v, .nilI] := by unfold atoiV; rw [ha]
      rw [ha] at h2
      simp only at h2
      have hi3 : i = 0 ∨ i = 1 ∨ i = 2 := by omega
      rcases hi3 with rfl | rfl | rfl
      · have c1 : decide ((0 : Int) < ((wordsN s).length : Int)) = true := by simp; omega
        have w1 : IntKind.i64.wrap (1 : Int) = 1 := by decide
        simp only [c1, w1, g1, hv, isIfaceD, Int.reduceAdd, Int.reduceToNat, Int.reduceMul, Nat.reduceMul, Nat.one_mul, List.length_cons, putL, List.set_cons_succ, List.set_cons_zero, List.getD_cons_zero, List.getD_cons_succ, Φ5, Φ4, atoiQ, on_s_eq, List.length_map, Tryd.underlying1, sz1, by1, ze1, Tryd.underlying3, sz3, by3, ze3, Tryd.underlying4, sz4, by4, ze4, Tryd.underlying9, sz9, by9, ze9, Tryd.underlying24, sz24, by24, ze24, Tryd.underlying25, sz25, by25, ze25, Tryd.underlying43, sz43, by43, ze43, Tryd.underlying44, sz44, by44, ze44, Tryd.underlying50, sz50, by50, ze50, Tryd.underlying51, sz51, by51, ze51, plan0, ev_skip, ev_seq, ev_region, ev_ret, ev_block, ev_exit, ev_loop, ev_cond, ev_scope, ev_label, condK_true, condK_false, condK_bool, isCut, Bool.false_eq_true, if_true, if_false, ↓reduceIte, false_implies, true_and, and_true, true_implies, KS_ap, KR_ap, steps_nil, stepsG_cons, thn_n, thn_e, thn_r, blk_n, blk_e, blk_r,     ev_op, ev_opG, opK_true, opK_false, isPureOp, List.contains_nil, List.contains_cons, Bool.or_false, Bool.false_or, cond_true, cond_false, aopP, callP_fn, callV_eq, mapV, allC, frzAll, frzL, opndV, ofV, ofV1, oc, ox, stripC, stripV, look_cons, upd_look, pureK_none, pureGK_eq, reduceCtorEq, Nat.reduceEqDiff, Nat.reduceLT, gAt, List.getElem?_toArray, List.getElem?_cons_succ, List.getElem?_cons_zero, Option.bind_some, Option.isNone_none, Option.isNone_some, Bool.false_and, Bool.and_false, Bool.and_self, Bool.and_true, Bool.true_and,     gK_bool, gK_whn, mkW, pickA, beq_true, beq_false, Bool.not_false, Bool.not_true, keepA, binA, binP, binI, binS, eqP, unA, unP, isC, extractA, List.length_cons, List.length_nil, List.getD_cons_zero, List.getD_cons_succ, frzOk, frz, AV.freeL, AV.free, PV.flat, PV.flat1, List.all_cons, List.all_nil, or_true, true_or, cxP_P, cxP_N, cxP_Φ, cxP_Ψ, cxP_Θ, cxP_rows, cxP_pins, cxQ_P, cxQ_N, cxQ_Φ, cxQ_Ψ, cxQ_Θ, cxQ_rows, cxQ_pins, putΘ, putΨ, noΘ, noΨ, ev_call, ev_alloc, ev_box, ev_makeSlice, ev_store, ev_append, callK_E, callK_Q, callK_P, qV_1, ↓all_qV, psiNew_eq, aopE, newB_some, putD_some, putD, hget, hset, hdel, storeA, putL, cellsA, partC, partA, fieldAddrA, addOff, nilCheckA, fieldV, buildA, packA, fieldPlaces, fillA, appendA, allW, killR_look, killS, AV.kill, AV.killL, killH, ABlk.kill, putΦ, argL, implies_true, indexAddrA, loadA, partP, partL, PV.nth, isAggD, Int.reduceToNat, Int.toNat_zero, Int.toNat_one, Int.reduceLT, Int.reduceLE, List.drop_zero, List.take_zero, Nat.add_zero, Int.le_refl, Int.cast_ofNat_Int, not_false_eq_true, not_true_eq_false, imp_self, and_self, gt1, gt2, Bool.not_not, Bool.cond_false_right, Bool.cond_true_left, Bool.cond_false_left, Bool.cond_true_right, Nat.reduceAdd, Nat.zero_add, Fin_n, Fin_r, FinQ, tapeOk, filt, AV.refsIn, AV.refsInL, refsH, ABlk.refsIn, pvL, Option.isSome_some, Option.getD_some, Option.getD_none, FinN, resC, resV, res1, tupP, AV.one, List.set_cons_succ, List.set_cons_zero, Option.some.injEq, minmaxA, foldI, lenA, isSliceD, isStrD, isSliceOrStr, Int.toNat_natCast, ne_eq, sliceA, natOf, List.map_cons, List.map_nil, Option.map_none, Option.map_some, Option.toList, List.append_nil, List.nil_append, List.cons_append, buildSliceA, idxOk, elemOk, PV.width, PV.cells, PV.one, convP, convA, srcA, isStrV, isByteD, isU8, List.all_cons, List.all_nil, Nat.beq_eq_true_eq, beq_self_eq_true, Nat.reduceLeDiff, Nat.reduceMul]
        refine ⟨by omega, by omega, (1, (v, b, c)), ⟨by simp only; omega, h2⟩, by simp only; omega, ⟨by simp [fitR, look], by simp [fitH, hget], rfl, rfl, rfl⟩⟩
      · have c1 : decide ((1 : Int) < ((wordsN s).length : Int)) = true := by simp; omega
        have w1 : IntKind.i64.wrap (2 : Int) = 2 := by decide
        simp only [c1, w1, g1, hv, isIfaceD, Int.reduceAdd, Int.reduceToNat, Int.reduceMul, Nat.reduceMul, Nat.one_mul, List.length_cons, putL, List.set_cons_succ, List.set_cons_zero, List.getD_cons_zero, List.getD_cons_succ, Φ5, Φ4, atoiQ, on_s_eq, List.length_map, Tryd.underlying1, sz1, by1, ze1, Tryd.underlying3, sz3, by3, ze3, Tryd.underlying4, sz4, by4, ze4, Tryd.underlying9, sz9, by9, ze9, Tryd.underlying24, sz24, by24, ze24, Tryd.underlying25, sz25, by25, ze25, Tryd.underlying43, sz43, by43, ze43, Tryd.underlying44, sz44, by44, ze44, Tryd.underlying50, sz50, by50, ze50, Tryd.underlying51, sz51, by51, ze51, plan0, ev_skip, ev_seq, ev_region, ev_ret, ev_block, ev_exit, ev_loop, ev_cond, ev_scope, ev_label, condK_true, condK_false, condK_bool, isCut, Bool.false_eq_true, if_true, if_false, ↓reduceIte, false_implies, true_and, and_true, true_implies, KS_ap, KR_ap, steps_nil, stepsG_cons, thn_n, thn_e, thn_r, blk_n, blk_e, blk_r,     ev_op, ev_opG, opK_true, opK_false, isPureOp, List.contains_nil, List.contains_cons, Bool.or_false, Bool.false_or, cond_true, cond_false, aopP, callP_fn, callV_eq, mapV, allC, frzAll, frzL, opndV, ofV, ofV1, oc, ox, stripC, stripV, look_cons, upd_look, pureK_none, pureGK_eq, reduceCtorEq, Nat.reduceEqDiff, Nat.reduceLT, gAt, List.getElem?_toArray, List.getElem?_cons_succ, List.getElem?_cons_zero, Option.bind_some, Option.isNone_none, Option.isNone_some, Bool.false_and, Bool.and_false, Bool.and_self, Bool.and_true, Bool.true_and,     gK_bool, gK_whn, mkW, pickA, beq_true, beq_false, Bool.not_false, Bool.not_true, keepA, binA, binP, binI, binS, eqP, unA, unP, isC, extractA, List.length_cons, List.length_nil, List.getD_cons_zero, List.getD_cons_succ, frzOk, frz, AV.freeL, AV.free, PV.flat, PV.flat1, List.all_cons, List.all_nil, or_true, true_or, cxP_P, cxP_N, cxP_Φ, cxP_Ψ, cxP_Θ, cxP_rows, cxP_pins, cxQ_P, cxQ_N, cxQ_Φ, cxQ_Ψ, cxQ_Θ, cxQ_rows, cxQ_pins, putΘ, putΨ, noΘ, noΨ, ev_call, ev_alloc, ev_box, ev_makeSlice, ev_store, ev_append, callK_E, callK_Q, callK_P, qV_1, ↓all_qV, psiNew_eq, aopE, newB_some, putD_some, putD, hget, hset, hdel, storeA, putL, cellsA, partC, partA, fieldAddrA, addOff, nilCheckA, fieldV, buildA, packA, fieldPlaces, fillA, appendA, allW, killR_look, killS, AV.kill, AV.killL, killH, ABlk.kill, putΦ, argL, implies_true, indexAddrA, loadA, partP, partL, PV.nth, isAggD, Int.reduceToNat, Int.toNat_zero, Int.toNat_one, Int.reduceLT, Int.reduceLE, List.drop_zero, List.take_zero, Nat.add_zero, Int.le_refl, Int.cast_ofNat_Int, not_false_eq_true, not_true_eq_false, imp_self, and_self, gt1, gt2, Bool.not_not, Bool.cond_false_right, Bool.cond_true_left, Bool.cond_false_left, Bool.cond_true_right, Nat.reduceAdd, Nat.zero_add, Fin_n, Fin_r, FinQ, tapeOk, filt, AV.refsIn, AV.refsInL, refsH, ABlk.refsIn, pvL, Option.isSome_some, Option.getD_some, Option.getD_none, FinN, resC, resV, res1, tupP, AV.one, List.set_cons_succ, List.set_cons_zero, Option.some.injEq, minmaxA, foldI, lenA, isSliceD, isStrD, isSliceOrStr, Int.toNat_natCast, ne_eq, sliceA, natOf, List.map_cons, List.map_nil, Option.map_none, Option.map_some, Option.toList, List.append_nil, List.nil_append, List.cons_append, buildSliceA, idxOk, elemOk, PV.width, PV.cells, PV.one, convP, convA, srcA, isStrV, isByteD, isU8, List.all_cons, List.all_nil, Nat.beq_eq_true_eq, beq_self_eq_true, Nat.reduceLeDiff, Nat.reduceMul]
        refine ⟨by omega, by omega, (2, (a, v, c)), ⟨by simp only; omega, h2⟩, by simp only; omega, ⟨by simp [fitR, look], by simp [fitH, hget], rfl, rfl, rfl⟩⟩
      · have c1 : decide ((2 : Int) < ((wordsN s).length : Int)) = true := by simp; omega
        have w1 : IntKind.i64.wrap (3 : Int) = 3 := by decide
        simp only [c1, w1, g1, hv, isIfaceD, Int.reduceAdd, Int.reduceToNat, Int.reduceMul, Nat.reduceMul, Nat.one_mul, List.length_cons, putL, List.set_cons_succ, List.set_cons_zero, List.getD_cons_zero, List.getD_cons_succ, Φ5, Φ4, atoiQ, on_s_eq, List.length_map, Tryd.underlying1, sz1, by1, ze1, Tryd.underlying3, sz3, by3, ze3, Tryd.underlying4, sz4, by4, ze4, Tryd.underlying9, sz9, by9, ze9, Tryd.underlying24, sz24, by24, ze24, Tryd.underlying25, sz25, by25, ze25, Tryd.underlying43, sz43, by43, ze43, Tryd.underlying44, sz44, by44, ze44, Tryd.underlying50, sz50, by50, ze50, Tryd.underlying51, sz51, by51, ze51, plan0, ev_skip, ev_seq, ev_region, ev_ret, ev_block, ev_exit, ev_loop, ev_cond, ev_scope, ev_label, condK_true, condK_false, condK_bool, isCut, Bool.false_eq_true, if_true, if_false, ↓reduceIte, false_implies, true_and, and_true, true_implies, KS_ap, KR_ap, steps_nil, stepsG_cons, thn_n, thn_e, thn_r, blk_n, blk_e, blk_r,     ev_op, ev_opG, opK_true, opK_false, isPureOp, List.contains_nil, List.contains_cons, Bool.or_false, Bool.false_or, cond_true, cond_false, aopP, callP_fn, callV_eq, mapV, allC, frzAll, frzL, opndV, ofV, ofV1, oc, ox, stripC, stripV, look_cons, upd_look, pureK_none, pureGK_eq, reduceCtorEq, Nat.reduceEqDiff, Nat.reduceLT, gAt, List.getElem?_toArray, List.getElem?_cons_succ, List.getElem?_cons_zero, Option.bind_some, Option.isNone_none, Option.isNone_some, Bool.false_and, Bool.and_false, Bool.and_self, Bool.and_true, Bool.true_and,     gK_bool, gK_whn, mkW, pickA, beq_true, beq_false, Bool.not_false, Bool.not_true, keepA, binA, binP, binI, binS, eqP, unA, unP, isC, extractA, List.length_cons, List.length_nil, List.getD_cons_zero, List.getD_cons_succ, frzOk, frz, AV.freeL, AV.free, PV.flat, PV.flat1, List.all_cons, List.all_nil, or_true, true_or, cxP_P, cxP_N, cxP_Φ, cxP_Ψ, cxP_Θ, cxP_rows, cxP_pins, cxQ_P, cxQ_N, cxQ_Φ, cxQ_Ψ, cxQ_Θ, cxQ_rows, cxQ_pins, putΘ, putΨ, noΘ, noΨ, ev_call, ev_alloc, ev_box, ev_makeSlice, ev_store, ev_append, callK_E, callK_Q, callK_P, qV_1, ↓all_qV, psiNew_eq, aopE, newB_some, putD_some, putD, hget, hset, hdel, storeA, putL, cellsA, partC, partA, fieldAddrA, addOff, nilCheckA, fieldV, buildA, packA, fieldPlaces, fillA, appendA, allW, killR_look, killS, AV.kill, AV.killL, killH, ABlk.kill, putΦ, argL, implies_true, indexAddrA, loadA, partP, partL, PV.nth, isAggD, Int.reduceToNat, Int.toNat_zero, Int.toNat_one, Int.reduceLT, Int.reduceLE, List.drop_zero, List.take_zero, Nat.add_zero, Int.le_refl, Int.cast_ofNat_Int, not_false_eq_true, not_true_eq_false, imp_self, and_self, gt1, gt2, Bool.not_not, Bool.cond_false_right, Bool.cond_true_left, Bool.cond_false_left, Bool.cond_true_right, Nat.reduceAdd, Nat.zero_add, Fin_n, Fin_r, FinQ, tapeOk, filt, AV.refsIn, AV.refsInL, refsH, ABlk.refsIn, pvL, Option.isSome_some, Option.getD_some, Option.getD_none, FinN, resC, resV, res1, tupP, AV.one, List.set_cons_succ, List.set_cons_zero, Option.some.injEq, minmaxA, foldI, lenA, isSliceD, isStrD, isSliceOrStr, Int.toNat_natCast, ne_eq, sliceA, natOf, List.map_cons, List.map_nil, Option.map_none, Option.map_some, Option.toList, List.append_nil, List.nil_append, List.cons_append, buildSliceA, idxOk, elemOk, PV.width, PV.cells, PV.one, convP, convA, srcA, isStrV, isByteD, isU8, List.all_cons, List.all_nil, Nat.beq_eq_true_eq, beq_self_eq_true, Nat.reduceLeDiff, Nat.reduceMul]
        refine ⟨by omega, by omega, (3, (a, b, v)), ⟨by simp only; omega, h2⟩, by simp only; omega, ⟨by simp [fitR, look], by simp [fitH, hget], rfl, rfl, rfl⟩⟩
    · have hv : atoiV (lAtoi_ren.t 168) w = .tup [.int .i64 0, .iface (lAtoi_ren.t 168) ptrQ] := by unfold atoiV; rw [ha]
      rw [ha] at h2
      simp only [c0, g1, hi1, hv, ptrQ, isIfaceD, Φ5, Φ4, atoiQ, on_s_eq, List.length_map, Tryd.underlying1, sz1, by1, ze1, Tryd.underlying3, sz3, by3, ze3, Tryd.underlying4, sz4, by4, ze4, Tryd.underlying9, sz9, by9, ze9, Tryd.underlying24, sz24, by24, ze24, Tryd.underlying25, sz25, by25, ze25, Tryd.underlying43, sz43, by43, ze43, Tryd.underlying44, sz44, by44, ze44, Tryd.underlying50, sz50, by50, ze50, Tryd.underlying51, sz51, by51, ze51, plan0, ev_skip, ev_seq, ev_region, ev_ret, ev_block, ev_exit, ev_loop, ev_cond, ev_scope, ev_label, condK_true, condK_false, condK_bool, isCut, Bool.false_eq_true, if_true, if_false, ↓reduceIte, false_implies, true_and, and_true, true_implies, KS_ap, KR_ap, steps_nil, stepsG_cons, thn_n, thn_e, thn_r, blk_n, blk_e, blk_r,     ev_op, ev_opG, opK_true, opK_false, isPureOp, List.contains_nil, List.contains_cons, Bool.or_false, Bool.false_or, cond_true, cond_false, aopP, callP_fn, callV_eq, mapV, allC, frzAll, frzL, opndV, ofV, ofV1, oc, ox, stripC, stripV, look_cons, upd_look, pureK_none, pureGK_eq, reduceCtorEq, Nat.reduceEqDiff, Nat.reduceLT, gAt, List.getElem?_toArray, List.getElem?_cons_succ, List.getElem?_cons_zero, Option.bind_some, Option.isNone_none, Option.isNone_some, Bool.false_and, Bool.and_false, Bool.and_self, Bool.and_true, Bool.true_and,     gK_bool, gK_whn, mkW, pickA, beq_true, beq_false, Bool.not_false, Bool.not_true, keepA, binA, binP, binI, binS, eqP, unA, unP, isC, extractA, List.length_cons, List.length_nil, List.getD_cons_zero, List.getD_cons_succ, frzOk, frz, AV.freeL, AV.free, PV.flat, PV.flat1, List.all_cons, List.all_nil, or_true, true_or, cxP_P, cxP_N, cxP_Φ, cxP_Ψ, cxP_Θ, cxP_rows, cxP_pins, cxQ_P, cxQ_N, cxQ_Φ, cxQ_Ψ, cxQ_Θ, cxQ_rows, cxQ_pins, putΘ, putΨ, noΘ, noΨ, ev_call, ev_alloc, ev_box, ev_makeSlice, ev_store, ev_append, callK_E, callK_Q, callK_P, qV_1, ↓all_qV, psiNew_eq, aopE, newB_some, putD_some, putD, hget, hset, hdel, storeA, putL, cellsA, partC, partA, fieldAddrA, addOff, nilCheckA, fieldV, buildA, packA, fieldPlaces, fillA, appendA, allW, killR_look, killS, AV.kill, AV.killL, killH, ABlk.kill, putΦ, argL, implies_true, indexAddrA, loadA, partP, partL, PV.nth, isAggD, Int.reduceToNat, Int.toNat_zero, Int.toNat_one, Int.reduceLT, Int.reduceLE, List.drop_zero, List.take_zero, Nat.add_zero, Int.le_refl, Int.cast_ofNat_Int, not_false_eq_true, not_true_eq_false, imp_self, and_self, gt1, gt2, Bool.not_not, Bool.cond_false_right, Bool.cond_true_left, Bool.cond_false_left, Bool.cond_true_right, Nat.reduceAdd, Nat.zero_add, Fin_n, Fin_r, FinQ, tapeOk, filt, AV.refsIn, AV.refsInL, refsH, ABlk.refsIn, pvL, Option.isSome_some, Option.getD_some, Option.getD_none, FinN, resC, resV, res1, tupP, AV.one, List.set_cons_succ, List.set_cons_zero, Option.some.injEq, minmaxA, foldI, lenA, isSliceD, isStrD, isSliceOrStr, Int.toNat_natCast, ne_eq, sliceA, natOf, List.map_cons, List.map_nil, Option.map_none, Option.map_some, Option.toList, List.append_nil, List.nil_append, List.cons_append, buildSliceA, idxOk, elemOk, PV.width, PV.cells, PV.one, convP, convA, srcA, isStrV, isByteD, isU8, List.all_cons, List.all_nil, Nat.beq_eq_true_eq, beq_self_eq_true, Nat.reduceLeDiff, Nat.reduceMul]
      exact ⟨⟨by omega, by omega⟩, by omega, by rw [← h2]⟩
    · have hv : atoiV (lAtoi_ren.t 168) w = .tup [.int .i64 (Lib.atoiSat w), .iface (lAtoi_ren.t 168) ptrQ] := by unfold atoiV; rw [ha]
      rw [ha] at h2
      simp only [c0, g1, hi1, hv, ptrQ, isIfaceD, Φ5, Φ4, atoiQ, on_s_eq, List.length_map, Tryd.underlying1, sz1, by1, ze1, Tryd.underlying3, sz3, by3, ze3, Tryd.underlying4, sz4, by4, ze4, Tryd.underlying9, sz9, by9, ze9, Tryd.underlying24, sz24, by24, ze24, Tryd.underlying25, sz25, by25, ze25, Tryd.underlying43, sz43, by43, ze43, Tryd.underlying44, sz44, by44, ze44, Tryd.underlying50, sz50, by50, ze50, Tryd.underlying51, sz51, by51, ze51, plan0, ev_skip, ev_seq, ev_region, ev_ret, ev_block, ev_exit, ev_loop, ev_cond, ev_scope, ev_label, condK_true, condK_false, condK_bool, isCut, Bool.false_eq_true, if_true, if_false, ↓reduceIte, false_implies, true_and, and_true, true_implies, KS_ap, KR_ap, steps_nil, stepsG_cons, thn_n, thn_e, thn_r, blk_n, blk_e, blk_r,     ev_op, ev_opG, opK_true, opK_false, isPureOp, List.contains_nil, List.contains_cons, Bool.or_false, Bool.false_or, cond_true, cond_false, aopP, callP_fn, callV_eq, mapV, allC, frzAll, frzL, opndV, ofV, ofV1, oc, ox, stripC, stripV, look_cons, upd_look, pureK_none, pureGK_eq, reduceCtorEq, Nat.reduceEqDiff, Nat.reduceLT, gAt, List.getElem?_toArray, List.getElem?_cons_succ, List.getElem?_cons_zero, Option.bind_some, Option.isNone_none, Option.isNone_some, Bool.false_and, Bool.and_false, Bool.and_self, Bool.and_true, Bool.true_and,     gK_bool, gK_whn, mkW, pickA, beq_true, beq_false, Bool.not_false, Bool.not_true, keepA, binA, binP, binI, binS, eqP, unA, unP, isC, extractA, List.length_cons, List.length_nil, List.getD_cons_zero, List.getD_cons_succ, frzOk, frz, AV.freeL, AV.free, PV.flat, PV.flat1, List.all_cons, List.all_nil, or_true, true_or, cxP_P, cxP_N, cxP_Φ, cxP_Ψ, cxP_Θ, cxP_rows, cxP_pins, cxQ_P, cxQ_N, cxQ_Φ, cxQ_Ψ, cxQ_Θ, cxQ_rows, cxQ_pins, putΘ, putΨ, noΘ, noΨ, ev_call, ev_alloc, ev_box, ev_makeSlice, ev_store, ev_append, callK_E, callK_Q, callK_P, qV_1, ↓all_qV, psiNew_eq, aopE, newB_some, putD_some, putD, hget, hset, hdel, storeA, putL, cellsA, partC, partA, fieldAddrA, addOff, nilCheckA, fieldV, buildA, packA, fieldPlaces, fillA, appendA, allW, killR_look, killS, AV.kill, AV.killL, killH, ABlk.kill, putΦ, argL, implies_true, indexAddrA, loadA, partP, partL, PV.nth, isAggD, Int.reduceToNat, Int.toNat_zero, Int.toNat_one, Int.reduceLT, Int.reduceLE, List.drop_zero, List.take_zero, Nat.add_zero, Int.le_refl, Int.cast_ofNat_Int, not_false_eq_true, not_true_eq_false, imp_self, and_self, gt1, gt2, Bool.not_not, Bool.cond_false_right, Bool.cond_true_left, Bool.cond_false_left, Bool.cond_true_right, Nat.reduceAdd, Nat.zero_add, Fin_n, Fin_r, FinQ, tapeOk, filt, AV.refsIn, AV.refsInL, refsH, ABlk.refsIn, pvL, Option.isSome_some, Option.getD_some, Option.getD_none, FinN, resC, resV, res1, tupP, AV.one, List.set_cons_succ, List.set_cons_zero, Option.some.injEq, minmaxA, foldI, lenA, isSliceD, isStrD, isSliceOrStr, Int.toNat_natCast, ne_eq, sliceA, natOf, List.map_cons, List.map_nil, Option.map_none, Option.map_some, Option.toList, List.append_nil, List.nil_append, List.cons_append, buildSliceA, idxOk, elemOk, PV.width, PV.cells, PV.one, convP, convA, srcA, isStrV, isByteD, isU8, List.all_cons, List.all_nil, Nat.beq_eq_true_eq, beq_self_eq_true, Nat.reduceLeDiff, Nat.reduceMul]
      exact ⟨⟨by omega, by omega⟩, by omega, by rw [← h2]⟩
  · have c0 : decide ((i : Int) < ((wordsN s).length : Int)) = false := by simp; omega
    rw [List.drop_eq_nil_of_le (by omega), prsG] at h2
    simp only [c0, Φ5, Φ4, dayS, textS, on_i_eq, on_iii_eq, List.length_map, Tryd.underlying1, sz1, by1, ze1, Tryd.underlying3, sz3, by3, ze3, Tryd.underlying4, sz4, by4, ze4, Tryd.underlying9, sz9, by9, ze9, Tryd.underlying24, sz24, by24, ze24, Tryd.underlying25, sz25, by25, ze25, Tryd.underlying43, sz43, by43, ze43, Tryd.underlying44, sz44, by44, ze44, Tryd.underlying50, sz50, by50, ze50, Tryd.underlying51, sz51, by51, ze51, plan0, ev_skip, ev_seq, ev_region, ev_ret, ev_block, ev_exit, ev_loop, ev_cond, ev_scope, ev_label, condK_true, condK_false, condK_bool, isCut, Bool.false_eq_true, if_true, if_false, ↓reduceIte, false_implies, true_and, and_true, true_implies, KS_ap, KR_ap, steps_nil, stepsG_cons, thn_n, thn_e, thn_r, blk_n, blk_e, blk_r,     ev_op, ev_opG, opK_true, opK_false, isPureOp, List.contains_nil, List.contains_cons, Bool.or_false, Bool.false_or, cond_true, cond_false, aopP, callP_fn, callV_eq, mapV, allC, frzAll, frzL, opndV, ofV, ofV1, oc, ox, stripC, stripV, look_cons, upd_look, pureK_none, pureGK_eq, reduceCtorEq, Nat.reduceEqDiff, Nat.reduceLT, gAt, List.getElem?_toArray, List.getElem?_cons_succ, List.getElem?_cons_zero, Option.bind_some, Option.isNone_none, Option.isNone_some, Bool.false_and, Bool.and_false, Bool.and_self, Bool.and_true, Bool.true_and,     gK_bool, gK_whn, mkW, pickA, beq_true, beq_false, Bool.not_false, Bool.not_true, keepA, binA, binP, binI, binS, eqP, unA, unP, isC, extractA, List.length_cons, List.length_nil, List.getD_cons_zero, List.getD_cons_succ, frzOk, frz, AV.freeL, AV.free, PV.flat, PV.flat1, List.all_cons, List.all_nil, or_true, true_or, cxP_P, cxP_N, cxP_Φ, cxP_Ψ, cxP_Θ, cxP_rows, cxP_pins, cxQ_P, cxQ_N, cxQ_Φ, cxQ_Ψ, cxQ_Θ, cxQ_rows, cxQ_pins, putΘ, putΨ, noΘ, noΨ, ev_call, ev_alloc, ev_box, ev_makeSlice, ev_store, ev_append, callK_E, callK_Q, callK_P, qV_1, ↓all_qV, psiNew_eq, aopE, newB_some, putD_some, putD, hget, hset, hdel, storeA, putL, cellsA, partC, partA, fieldAddrA, addOff, nilCheckA, fieldV, buildA, packA, fieldPlaces, fillA, appendA, allW, killR_look, killS, AV.kill, AV.killL, killH, ABlk.kill, putΦ, argL, implies_true, indexAddrA, loadA, partP, partL, PV.nth, isAggD, Int.reduceToNat, Int.toNat_zero, Int.toNat_one, Int.reduceLT, Int.reduceLE, List.drop_zero, List.take_zero, Nat.add_zero, Int.le_refl, Int.cast_ofNat_Int, not_false_eq_true, not_true_eq_false, imp_self, and_self, gt1, gt2, Bool.not_not, Bool.cond_false_right, Bool.cond_true_left, Bool.cond_false_left, Bool.cond_true_right, Nat.reduceAdd, Nat.zero_add, Fin_n, Fin_r, FinQ, tapeOk, filt, AV.refsIn, AV.refsInL, refsH, ABlk.refsIn, pvL, Option.isSome_some, Option.getD_some, Option.getD_none, FinN, resC, resV, res1, tupP, AV.one, List.set_cons_succ, List.set_cons_zero, Option.some.injEq, minmaxA, foldI, lenA, isSliceD, isStrD, isSliceOrStr, Int.toNat_natCast, ne_eq, sliceA, natOf, List.map_cons, List.map_nil, Option.map_none, Option.map_some, Option.toList, List.append_nil, List.nil_append, List.cons_append, buildSliceA, idxOk, elemOk, PV.width, PV.cells, PV.one, convP, convA, srcA, isStrV, isByteD, isU8, List.all_cons, List.all_nil, Nat.beq_eq_true_eq, beq_self_eq_true, Nat.reduceLeDiff, Nat.reduceMul]
    unfold finP at h2
    simp only at h2
    refine ⟨fun h3 => ?_, fun h3 => ?_⟩
    · rw [h3] at h2; rw [← h2]; rfl
    · rw [h3] at h2; rw [← h2]; rfl
noncomputable def Φ6 (g : FuncId) : PSpec := putΦ Φ5 14 parseS g
theorem hΦ6 : TabSound GG Φ6 := hΦ5.put w_parseS
/-! ### The plain law -/
theorem index_hit : ∀ (a b : List UInt8), 45 ∉ a → Lib.index (a ++ 45 :: b) [45] = (a.length : Int)
  | [], b, _ => by simp [Lib.index, List.isPrefixOf]
  | c :: a, b, h => by
    have hc : ¬ c = 45 := fun e => h (by simp [e])
    have ih := index_hit a b (fun hm => h (List.mem_cons_of_mem _ hm))
    have hn : ([45] : List UInt8).isPrefixOf (c :: (a ++ 45 :: b)) = false := by
      simp only [List.isPrefixOf, Bool.and_true, beq_eq_false_iff_ne]
      exact fun e => hc e.symm
    have hne : ¬ ((a.length : Int) = -1) := by omega
    show (if ([45] : List UInt8).isPrefixOf (c :: (a ++ 45 :: b)) then (0 : Int) else if Lib.index (a ++ 45 :: b) [45] == -1 then -1 else Lib.index (a ++ 45 :: b) [45] + 1) = _
    rw [hn, ih]
    simp [hne]
theorem words_three {a b c : List UInt8} (ha : 45 ∉ a) (hb : 45 ∉ b) : wordsN (a ++ 45 :: (b ++ 45 :: c)) = [a, b, c] := by
  unfold wordsN
  have hk : min 3 ((a ++ 45 :: (b ++ 45 :: c)).length + 1) - 1 = 2 := by
    simp only [List.length_append, List.length_cons]; omega
  have e1 := index_hit a (b ++ 45 :: c) ha
  have e2 := index_hit b c hb
  have n1 : ¬ ((a.length : Int) = -1) := by omega
  have n2 : ¬ ((b.length : Int) = -1) := by omega
  rw [hk, Lib.splitK, e1, Lib.splitK]
  simp [n1, e2, n2, Lib.splitK]
theorem txt_form (n : Int) : txt n = Lib.itoa (n / 360) ++ 45 :: (twoV (n % 360 / 30 + 1) ++ 45 :: twoV (n % 30 + 1)) := by
  unfold txt; simp
theorem day_of {x : Int} (h : vld x = true) : dayF (x / 360) (x % 360 / 30 + 1) (x % 30 + 1) = (x, 0) := by
  have h2 := vld_iff.1 h
  have e : 360 * (x / 360) + 30 * (x % 360 / 30 + 1 - 1) + (x % 30 + 1) - 1 = x := by omega
  have a1 : amg (x % 360 / 30 + 1) 1 12 = true := by simp only [amg, Bool.and_eq_true, decide_eq_true_eq]; omega
  have a2 : amg (x % 30 + 1) 1 30 = true := by simp only [amg, Bool.and_eq_true, decide_eq_true_eq]; omega
  have a3 : amg (x / 360) 0 36000 = true := by simp only [amg, Bool.and_eq_true, decide_eq_true_eq]; omega
  unfold dayF
  rw [e, a1, a2, a3]
  simp [chk, h]
theorem prs_back {x : Int} (h : vld x = true) : prsF (txtF x) = (x, 0) := by
  have h2 := vld_iff.1 h
  have ht : txtF x = txt x := by simp [txtF, h]
  obtain ⟨_, i1, i2⟩ := itoa_at (y := x / 360) (by omega) (by omega)
  obtain ⟨j1, j2⟩ := two_at (y := x % 360 / 30 + 1) (by omega) (by omega)
  obtain ⟨_, k2⟩ := two_at (y := x % 30 + 1) (by omega) (by omega)
  have hw : wordsN (txtF x) = [Lib.itoa (x / 360), twoV (x % 360 / 30 + 1), twoV (x % 30 + 1)] := by
    rw [ht, txt_form]; exact words_three i1 j1
  unfold prsF
  rw [hw]
  simp only [prsG, i2, j2, k2, finP]
  rw [show set3 (set3 (set3 (0, 0, 0) 0 (x / 360)) (0 + 1) (x % 360 / 30 + 1)) (0 + 1 + 1) (x % 30 + 1) = (x / 360, x % 360 / 30 + 1, x % 30 + 1) from rfl]
  simp only [day_of h]
  simp
theorem txt_inj {x z : Int} (hx : vld x = true) (hz : vld z = true) : (txtF x == txtF z) = (x == z) := by
  by_cases e : x = z
  · subst e; simp
  · have : ¬ txtF x = txtF z := fun h => by
      have h1 := prs_back hx
      rw [h, prs_back hz] at h1
      exact e (congrArg Prod.fst h1).symm
    rw [beq_eq_false_iff_ne.2 this, beq_eq_false_iff_ne.2 e]
theorem txt_len (x : Int) : (txtF x).length ≤ 100 := by
  unfold txtF
  cases h : vld x with
  | false => exact Nat.zero_le _
  | true =>
    have h2 := vld_iff.1 h
    have := (itoa_at (y := x / 360) (by omega) (by omega)).1
    show (txt x).length ≤ 100
    simp only [txt, List.length_append, List.length_cons, List.length_nil, twoV]
    omega
noncomputable def awakeS : PSpec := on_ (True) (.bool true)
theorem w_awakeS : PSound GG 10 awakeS := by
  refine PSound.of_wpc (C := cxP Tryd.prog Φ6 [] 37) (T := plan0) Tryd.func10 rfl rfl rfl (Fit.pure (G := GG) hΦ6 mixed) (fun args h => ?_)
  unfold awakeS at h
  obtain ⟨rfl, hp⟩ := on__inv h
  refine ⟨by simp [cxP], ?_⟩
  simp only [awakeS, on__eq, Tryd.f10, argL, plan0]
  have c2 : dat 365 = (1, 1, 6) := by decide
  have c3 : nxt 5 = (7, 0) := by decide
  have c4 : txtF 365 = [49, 45, 48, 49, 45, 48, 54] := by decide +kernel
  simp only [c2, c3, Φ6, Φ5, Φ4, Φ3, Φ2, Φ1, dateS, nextS, textS, c4, on_i_eq, Tryd.underlying1, sz1, by1, ze1, Tryd.underlying2, sz2, by2, ze2, Tryd.underlying3, sz3, by3, ze3, Tryd.underlying4, sz4, by4, ze4, Tryd.underlying9, sz9, by9, ze9, Tryd.underlying24, sz24, by24, ze24, Tryd.underlying25, sz25, by25, ze25, Tryd.underlying32, sz32, by32, ze32, ev_skip, ev_seq, ev_region, ev_ret, ev_block, ev_exit, ev_loop, ev_cond, ev_scope, ev_label, condK_true, condK_false, condK_bool, isCut, Bool.false_eq_true, if_true, if_false, ↓reduceIte, false_implies, true_and, and_true, true_implies, KS_ap, KR_ap, steps_nil, stepsG_cons, thn_n, thn_e, thn_r, blk_n, blk_e, blk_r,     ev_op, ev_opG, opK_true, opK_false, isPureOp, List.contains_nil, List.contains_cons, Bool.or_false, Bool.false_or, cond_true, cond_false, aopP, callP_fn, callV_eq, mapV, allC, frzAll, frzL, opndV, ofV, ofV1, oc, ox, stripC, stripV, look_cons, upd_look, pureK_none, pureGK_eq, reduceCtorEq, Nat.reduceEqDiff, Nat.reduceLT, gAt, List.getElem?_toArray, List.getElem?_cons_succ, List.getElem?_cons_zero, Option.bind_some, Option.isNone_none, Option.isNone_some, Bool.false_and, Bool.and_false, Bool.and_self, Bool.and_true, Bool.true_and,     gK_bool, gK_whn, mkW, pickA, beq_true, beq_false, Bool.not_false, Bool.not_true, keepA, binA, binP, binI, binS, eqP, unA, unP, isC, extractA, List.length_cons, List.length_nil, List.getD_cons_zero, List.getD_cons_succ, frzOk, frz, AV.freeL, AV.free, PV.flat, PV.flat1, List.all_cons, List.all_nil, or_true, true_or, cxP_P, cxP_N, cxP_Φ, cxP_Ψ, cxP_Θ, cxP_rows, cxP_pins, cxQ_P, cxQ_N, cxQ_Φ, cxQ_Ψ, cxQ_Θ, cxQ_rows, cxQ_pins, putΘ, putΨ, noΘ, noΨ, ev_call, ev_alloc, ev_box, ev_makeSlice, ev_store, ev_append, callK_E, callK_Q, callK_P, qV_1, ↓all_qV, psiNew_eq, aopE, newB_some, putD_some, putD, hget, hset, hdel, storeA, putL, cellsA, partC, partA, fieldAddrA, addOff, nilCheckA, fieldV, buildA, packA, fieldPlaces, fillA, appendA, allW, killR_look, killS, AV.kill, AV.killL, killH, ABlk.kill, putΦ, argL, implies_true, indexAddrA, loadA, partP, partL, PV.nth, isAggD, Int.reduceToNat, Int.toNat_zero, Int.toNat_one, Int.reduceLT, Int.reduceLE, List.drop_zero, List.take_zero, Nat.add_zero, Int.le_refl, Int.cast_ofNat_Int, not_false_eq_true, not_true_eq_false, imp_self, and_self, gt1, gt2, Bool.not_not, Bool.cond_false_right, Bool.cond_true_left, Bool.cond_false_left, Bool.cond_true_right, Nat.reduceAdd, Nat.zero_add, Fin_n, Fin_r, FinQ, tapeOk, filt, AV.refsIn, AV.refsInL, refsH, ABlk.refsIn, pvL, Option.isSome_some, Option.getD_some, Option.getD_none, FinN, resC, resV, res1, tupP, AV.one, List.set_cons_succ, List.set_cons_zero, Option.some.injEq, minmaxA, foldI, lenA, isSliceD, isStrD, isSliceOrStr, Int.toNat_natCast, ne_eq, sliceA, natOf, List.map_cons, List.map_nil, Option.map_none, Option.map_some, Option.toList, List.append_nil, List.nil_append, List.cons_append, buildSliceA, idxOk, elemOk, PV.width, PV.cells, PV.one, convP, convA, srcA, isStrV, isByteD, isU8, List.all_cons, List.all_nil, Nat.beq_eq_true_eq, beq_self_eq_true, Nat.reduceLeDiff, Nat.reduceMul]
noncomputable def Φ7 (g : FuncId) : PSpec := putΦ Φ6 10 awakeS g
theorem hΦ7 : TabSound GG Φ7 := hΦ6.put w_awakeS
def on_UU (p : Int → Int → Prop) (f : Int → Int → PV) : PSpec
  | [.int .u16 a0, .int .u16 a1] => (p a0 a1, f a0 a1)
  | _ => (False, default)
theorem on_UU_eq {p : Int → Int → Prop} {f : Int → Int → PV} {a0 : Int} {a1 : Int} : on_UU p f [.int .u16 a0, .int .u16 a1] = (p a0 a1, f a0 a1) := rfl
theorem on_UU_inv {p : Int → Int → Prop} {f : Int → Int → PV} {args : List PV} (h : (on_UU p f args).1) : ∃ a0 : Int, ∃ a1 : Int, args = [.int .u16 a0, .int .u16 a1] ∧ p a0 a1 := by
  unfold on_UU at h
  split at h
  · exact ⟨_, _, rfl, h⟩
  · exact h.elim
noncomputable def backLawS : PSpec := on_UU (fun a b => (0 ≤ a ∧ a ≤ 65535) ∧ (0 ≤ b ∧ b ≤ 65535)) (fun _ _ => .bool true)
theorem w_backLawS : PSound GG 5 backLawS := by
  refine PSound.of_wpc (C := cxP Tryd.prog Φ7 [] 102) (T := plan0) Tryd.func5 rfl rfl rfl (Fit.pure (G := GG) hΦ7 mixed) (fun args h => ?_)
  unfold backLawS at h
  obtain ⟨a, b, rfl, hp⟩ := on_UU_inv h
  refine ⟨by simp [cxP], ?_⟩
  simp only [backLawS, on_UU_eq, Tryd.f5, argL, plan0]
  simp only [Φ7, Φ6, Φ5, Φ4, Φ3, Φ2, Φ1, dateS, dayS, textS, parseS, yearS, monthS, awakeS, on_i_eq, on_s_eq, on_iii_eq, on__eq, Tryd.underlying1, sz1, by1, ze1, Tryd.underlying2, sz2, by2, ze2, Tryd.underlying3, sz3, by3, ze3, Tryd.underlying4, sz4, by4, ze4, Tryd.underlying9, sz9, by9, ze9, Tryd.underlying22, sz22, by22, ze22, Tryd.underlying24, sz24, by24, ze24, Tryd.underlying25, sz25, by25, ze25, Tryd.underlying32, sz32, by32, ze32, ev_skip, ev_seq, ev_region, ev_ret, ev_block, ev_exit, ev_loop, ev_cond, ev_scope, ev_label, condK_true, condK_false, condK_bool, isCut, Bool.false_eq_true, if_true, if_false, ↓reduceIte, false_implies, true_and, and_true, true_implies, KS_ap, KR_ap, steps_nil, stepsG_cons, thn_n, thn_e, thn_r, blk_n, blk_e, blk_r,     ev_op, ev_opG, opK_true, opK_false, isPureOp, List.contains_nil, List.contains_cons, Bool.or_false, Bool.false_or, cond_true, cond_false, aopP, callP_fn, callV_eq, mapV, allC, frzAll, frzL, opndV, ofV, ofV1, oc, ox, stripC, stripV, look_cons, upd_look, pureK_none, pureGK_eq, reduceCtorEq, Nat.reduceEqDiff, Nat.reduceLT, gAt, List.getElem?_toArray, List.getElem?_cons_succ, List.getElem?_cons_zero, Option.bind_some, Option.isNone_none, Option.isNone_some, Bool.false_and, Bool.and_false, Bool.and_self, Bool.and_true, Bool.true_and,     gK_bool, gK_whn, mkW, pickA, beq_true, beq_false, Bool.not_false, Bool.not_true, keepA, binA, binP, binI, binS, eqP, unA, unP, isC, extractA, List.length_cons, List.length_nil, List.getD_cons_zero, List.getD_cons_succ, frzOk, frz, AV.freeL, AV.free, PV.flat, PV.flat1, List.all_cons, List.all_nil, or_true, true_or, cxP_P, cxP_N, cxP_Φ, cxP_Ψ, cxP_Θ, cxP_rows, cxP_pins, cxQ_P, cxQ_N, cxQ_Φ, cxQ_Ψ, cxQ_Θ, cxQ_rows, cxQ_pins, putΘ, putΨ, noΘ, noΨ, ev_call, ev_alloc, ev_box, ev_makeSlice, ev_store, ev_append, callK_E, callK_Q, callK_P, qV_1, ↓all_qV, psiNew_eq, aopE, newB_some, putD_some, putD, hget, hset, hdel, storeA, putL, cellsA, partC, partA, fieldAddrA, addOff, nilCheckA, fieldV, buildA, packA, fieldPlaces, fillA, appendA, allW, killR_look, killS, AV.kill, AV.killL, killH, ABlk.kill, putΦ, argL, implies_true, indexAddrA, loadA, partP, partL, PV.nth, isAggD, Int.reduceToNat, Int.toNat_zero, Int.toNat_one, Int.reduceLT, Int.reduceLE, List.drop_zero, List.take_zero, Nat.add_zero, Int.le_refl, Int.cast_ofNat_Int, not_false_eq_true, not_true_eq_false, imp_self, and_self, gt1, gt2, Bool.not_not, Bool.cond_false_right, Bool.cond_true_left, Bool.cond_false_left, Bool.cond_true_right, Nat.reduceAdd, Nat.zero_add, Fin_n, Fin_r, FinQ, tapeOk, filt, AV.refsIn, AV.refsInL, refsH, ABlk.refsIn, pvL, Option.isSome_some, Option.getD_some, Option.getD_none, FinN, resC, resV, res1, tupP, AV.one, List.set_cons_succ, List.set_cons_zero, Option.some.injEq, minmaxA, foldI, lenA, isSliceD, isStrD, isSliceOrStr, Int.toNat_natCast, ne_eq, sliceA, natOf, List.map_cons, List.map_nil, Option.map_none, Option.map_some, Option.toList, List.append_nil, List.nil_append, List.cons_append, buildSliceA, idxOk, elemOk, PV.width, PV.cells, PV.one, convP, convA, srcA, isStrV, isByteD, isU8, List.all_cons, List.all_nil, Nat.beq_eq_true_eq, beq_self_eq_true, Nat.reduceLeDiff, Nat.reduceMul]
  obtain ⟨⟨ha1, ha2⟩, hb1, hb2⟩ := hp
  have hx : 0 ≤ a % 36001 ∧ a % 36001 ≤ 36000 := by omega
  have hz : 0 ≤ b % 36001 ∧ b % 36001 ≤ 36000 := by omega
  simp only [i64_in a (by omega), Int.tmod_eq_emod_of_nonneg ha1, i64_in b (by omega), Int.tmod_eq_emod_of_nonneg hb1]
  generalize a % 36001 = x at hx ⊢
  generalize b % 36001 = z at hz ⊢
  have vx := vld_iff.2 hx
  have vz := vld_iff.2 hz
  have e1 : dat x = (x / 360, x % 360 / 30 + 1, x % 30 + 1) := by simp [dat, vx]
  have e4 : yrOf x = x / 360 := by simp [yrOf, vx]
  have e5 : moOf x = x / 30 := by simp [moOf, vx]
  have e6 : yrOf z = z / 360 := by simp [yrOf, vz]
  have e7 : moOf z = z / 30 := by simp [moOf, vz]
  simp only [e1, day_of vx, prs_back vx, e4, e5, e6, e7, txt_inj vx vz, i64_in (12 * (x / 360)) (by omega), i64_in (12 * (x / 360) + (x % 360 / 30 + 1)) (by omega), i64_in (12 * (x / 360) + (x % 360 / 30 + 1) - 1) (by omega)]
  have hl := txt_len x
  have hm : x / 30 = 12 * (x / 360) + (x % 360 / 30 + 1) - 1 := by omega
  have hc : (decide (z < x) || decide (x / 360 ≤ z / 360) && decide (x / 30 ≤ z / 30)) = true := by
    by_cases h9 : z < x
    · simp [h9]
    · have g1 : x / 360 ≤ z / 360 := Int.ediv_le_ediv (by decide) (by omega)
      have g2 : x / 30 ≤ z / 30 := Int.ediv_le_ediv (by decide) (by omega)
      simp [g1, g2]
  refine ⟨by decide, by decide, by omega, fun h9 => ?_, fun _ => ⟨fun h7 h8 => by rw [h7, h8]; rfl, fun _ => rfl, by rw [hc]; simp⟩⟩
  rw [← hm] at h9
  simp at h9
end Go.AM
