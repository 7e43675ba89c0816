/-
  A part of a proof: see the last text of this claim for what is proved.
-/
import Derived.Test.YtolbfgiflhpjpaaDoorR6o
namespace Go.AM
open Go Go.Proofs Go.IntWalk
set_option maxRecDepth 100000
set_option maxHeartbeats 1000000
set_option linter.unusedSimpArgs false
set_option linter.unusedVariables false
noncomputable def Θ7 (g : FuncId) : Option QSpec := putΘ Θ6 15 (qV Tp preNo Law.v okLaw) g
theorem hΘ7 : QTab GG Θ7 := hΘ6.put w_ruledS
theorem preRe_eq {l : PV} {n : Int} : preRe [l, .int .i64 n] = (lawP l ∧ 0 ≤ n ∧ n ≤ 10) := propext ⟨fun ⟨l', k', e, h⟩ => by simp only [List.cons.injEq, PV.int.injEq, and_true, true_and] at e; obtain ⟨rfl, rfl⟩ := e; exact h, fun h => ⟨l, n, rfl, h⟩⟩
theorem preNo_eq : preNo [] = True := propext ⟨fun _ => trivial, fun _ => rfl⟩
structure Facts where
  law : Law
  tr : List PV
  re : List PV
  ca : List PV
def Facts.v (f : Facts) : PV := .agg [.int .i64 f.law.first, .int .i64 f.law.years, .sl f.law.tree, .sl f.law.a, .sl f.law.b, .sl f.law.c, .sl f.law.d, .sl f.law.e, .sl f.law.f, .sl f.law.g, .sl f.tr, .sl f.re, .sl f.ca]
def Facts.ok (f : Facts) : Prop := f.law.ok ∧ f.re.length ≤ 20 ∧ ∀ x, x ∈ f.re → recP f.law.v x
def okFacts (_ : List PV) (f : Facts) : Prop := f.ok
noncomputable def factsS : QSpec := qV Tp preNo Facts.v okFacts
theorem law0 : (⟨0, 1, [hV [57] []], [], [], [], [], [], [], []⟩ : Law).ok := ⟨by simp, by simp, tree0.1, tree0.2, Nat.zero_le _, (by simp), Nat.zero_le _, (by simp), by decide, by decide⟩
theorem w_factsS : QSound GG 6 factsS := by
  unfold factsS
  refine QSound.of_wpcV (C := cxQ Tryd.prog Φ14 Θ7 noΨ [] [9000] 17) 9000 Tryd.func6 rfl rfl rfl (Fit.all (G := GG) hΦ14 hΘ7 hnoΨ mixed) rfl (fun args h => ?_) (fun args h => ?_)
  · exact ⟨⟨_, [], [], []⟩, law0, Nat.zero_le _, by simp⟩
  · unfold preNo at h
    subst h
    refine ⟨by simp [cxQ], ?_⟩
    refine wpc_sound (T := plan0) _ _ _ ?_
    simp (config := {maxSteps := 1000000}) only [Θ7, Θ6, Θ5, Θ4, Θ3, Θ2, Θ1, preN_eq, preP_eq, okP_eq, preR_eq, allI_nil, allI_cons, memI_nil, memI_cons, or_false, false_or, okN, okR, arg1, arg2, ne_eq, not_false_eq_true, intV, Nat.reduceBEq, preRe_eq, preNo_eq, List.take_succ_cons, List.take_nil, slV, loadC_eq, Law.v, lawV, Tryd.underlying3, sz3, by3, ze3, Tryd.underlying9, sz9, by9, ze9, Tryd.underlying23, sz23, by23, ze23, Tryd.underlying25, sz25, by25, ze25, Tryd.underlying26, sz26, by26, ze26, Tryd.underlying27, sz27, by27, ze27, Tryd.underlying28, sz28, by28, ze28, Tryd.underlying29, sz29, by29, ze29, Tryd.underlying30, sz30, by30, ze30, Tryd.underlying31, sz31, by31, ze31, Tryd.underlying33, sz33, by33, ze33, fa33_0, fa33_1, fa33_2, fa33_3, fa33_4, fa33_5, fa33_6, fa33_7, fa33_8, fa33_9, Tryd.underlying34, sz34, by34, ze34, Tryd.underlying35, sz35, by35, ze35, Tryd.underlying36, sz36, by36, ze36, Tryd.underlying38, sz38, by38, ze38, fa38_0, fa38_1, fa38_2, fa38_3, Tryd.underlying45, sz45, by45, ze45, fa45_0, fa45_1, fa45_2, fa45_3, Tryd.underlying47, sz47, by47, ze47, fa47_0, fa47_1, fa47_2, Tryd.underlying55, sz55, by55, ze55, fa55_0, fa55_1, Tryd.underlying68, sz68, by68, ze68, fa68_0, fa68_1, fa68_2, fa68_3, fa68_4, fa68_5, fa68_6, Tryd.underlying74, sz74, by74, ze74, fa74_0, fa74_1, fa74_2, Tryd.underlying76, sz76, by76, ze76, fa76_0, fa76_1, fa76_2, fa76_3, Tryd.underlying77, sz77, by77, ze77, fa77_0, fa77_1, fa77_2, Tryd.underlying80, sz80, by80, ze80, fa80_0, fa80_1, fa80_2, fa80_3, Tryd.underlying81, sz81, by81, ze81, Tryd.underlying83, sz83, by83, ze83, fa83_0, fa83_1, fa83_2, Tryd.underlying85, sz85, by85, ze85, fa85_0, fa85_1, fa85_2, fa85_3, fa85_4, fa85_5, fa85_6, Tryd.underlying87, sz87, by87, ze87, fa87_0, fa87_1, fa87_2, fa87_3, fa87_4, plan0, Tryd.f6, ev_skip, ev_seq, ev_region, ev_ret, ev_block, ev_exit, ev_loop, ev_cond, ev_scope, ev_label, condK_true, condK_false, condK_bool, isCut, Bool.false_eq_true, if_true, if_false, ↓reduceIte, false_implies, true_and, and_true, true_implies, KS_ap, KR_ap, steps_nil, stepsG_cons, thn_n, thn_e, thn_r, blk_n, blk_e, blk_r,     ev_op, ev_opG, opK_true, opK_false, isPureOp, List.contains_nil, List.contains_cons, Bool.or_false, Bool.false_or, cond_true, cond_false, aopP, callP_fn, callV_eq, mapV, allC, frzAll, frzL, opndV, ofV, ofV1, oc, ox, stripC, stripV, look_cons, upd_look, pureK_none, pureGK_eq, reduceCtorEq, Nat.reduceEqDiff, Nat.reduceLT, gAt, List.getElem?_toArray, List.getElem?_cons_succ, List.getElem?_cons_zero, Option.bind_some, Option.isNone_none, Option.isNone_some, Bool.false_and, Bool.and_false, Bool.and_self, Bool.and_true, Bool.true_and,     gK_bool, gK_whn, mkW, pickA, beq_true, beq_false, Bool.not_false, Bool.not_true, keepA, binA, binP, binI, binS, eqP, unA, unP, isC, extractA, List.length_cons, List.length_nil, List.getD_cons_zero, List.getD_cons_succ, frzOk, frz, AV.freeL, AV.free, PV.flat, PV.flat1, List.all_cons, List.all_nil, or_true, true_or, cxP_P, cxP_N, cxP_Φ, cxP_Ψ, cxP_Θ, cxP_rows, cxP_pins, cxQ_P, cxQ_N, cxQ_Φ, cxQ_Ψ, cxQ_Θ, cxQ_rows, cxQ_pins, putΘ, putΨ, noΘ, noΨ, ev_call, ev_alloc, ev_box, ev_makeSlice, ev_store, ev_append, callK_E, callK_Q, callK_P, qV_1, ↓all_qV, psiNew_eq, aopE, newB_some, putD_some, putD, hget, hset, hdel, storeA, putL, cellsA, partC, partA, fieldAddrA, addOff, nilCheckA, fieldV, buildA, packA, fieldPlaces, fillA, appendA, allW, killR_look, killS, AV.kill, AV.killL, killH, ABlk.kill, putΦ, argL, implies_true, indexAddrA, loadA, partP, partL, PV.nth, isAggD, Int.reduceToNat, Int.toNat_zero, Int.toNat_one, Int.reduceLT, Int.reduceLE, List.drop_zero, List.take_zero, Nat.add_zero, Int.le_refl, Int.cast_ofNat_Int, not_false_eq_true, not_true_eq_false, imp_self, and_self, gt1, gt2, Bool.not_not, Bool.cond_false_right, Bool.cond_true_left, Bool.cond_false_left, Bool.cond_true_right, Nat.reduceAdd, Nat.zero_add, Fin_n, Fin_r, FinQ, tapeOk, filt, AV.refsIn, AV.refsInL, refsH, ABlk.refsIn, pvL, Option.isSome_some, Option.getD_some, Option.getD_none, FinN, resC, resV, res1, tupP, AV.one, List.set_cons_succ, List.set_cons_zero, Option.some.injEq, minmaxA, foldI, lenA, isSliceD, isStrD, isSliceOrStr, Int.toNat_natCast, ne_eq, sliceA, natOf, List.map_cons, List.map_nil, Option.map_none, Option.map_some, Option.toList, List.append_nil, List.nil_append, List.cons_append, buildSliceA, idxOk, elemOk, PV.width, PV.cells, PV.one, convP, convA, srcA, isStrV, isByteD, isU8, List.all_cons, List.all_nil, Nat.beq_eq_true_eq, beq_self_eq_true, Nat.reduceLeDiff, Nat.reduceMul]
    have hc10 : ∀ {H : AHeap} {x : Law} (c : AV), c ∈ [AV.pv (PV.int IntKind.i64 x.first), AV.pv (PV.int IntKind.i64 x.years), AV.pv (PV.sl x.tree), AV.pv (PV.sl x.a), AV.pv (PV.sl x.b), AV.pv (PV.sl x.c), AV.pv (PV.sl x.d), AV.pv (PV.sl x.e), AV.pv (PV.sl x.f), AV.pv (PV.sl x.g)] → c.one = true ∧ frzOk H 3 c := fun c hc => by simp only [List.mem_cons, List.not_mem_nil, or_false] at hc; rcases hc with rfl | rfl | rfl | rfl | rfl | rfl | rfl | rfl | rfl | rfl <;> exact ⟨rfl, by simp [frzOk]⟩
    refine fun x hx => ⟨by kernel_rfl, ⟨hc10, Law.ok.P hx⟩, fun x1 _ => ⟨⟨hc10, Law.ok.P hx⟩, fun x2 h2 => ⟨⟨hc10, Law.ok.P hx⟩, fun x3 _ => ⟨fun c hc => ?_, ⟨x, x1, x2, x3⟩, rfl, hx, h2⟩⟩⟩⟩
    simp only [List.mem_cons, List.not_mem_nil, or_false] at hc
    rcases hc with rfl | rfl | rfl | rfl | rfl | rfl | rfl | rfl | rfl | rfl | rfl | rfl | rfl <;> exact ⟨rfl, by simp [frzOk]⟩
end Go.AM
