/-
  A part of a proof: see the last text of this claim for what is proved.
-/
import Derived.Test.YtjeolgjiakpenaaDoorR1a
namespace Go.AM
open Go Go.Proofs Go.IntWalk
set_option maxRecDepth 100000
set_option linter.unusedSimpArgs false
def planB : Plan := { keep := fun _ => none, cut := fun _ => false, stop := fun i => i == 4 }
theorem bef_cnt {x y : Int} (hx : 0 ≤ x) (hxy : x ≤ y) (hy : y ≤ 36000) : cnt x y = (bef y - bef x, 0) := by
  have h1 : vld x = true := vld_iff.2 (by omega)
  have h2 : vld y = true := vld_iff.2 (by omega)
  have h3 : decide (y < x) = false := by simp; omega
  simp [cnt, h1, h2, h3]
def lo3 (x y z : Int) : Int := if z < if y < x then y else x then z else if y < x then y else x
def hi3 (x y z : Int) : Int := if z > if y > x then y else x then z else if y > x then y else x
def mi3 (x y z : Int) : Int := IntKind.i64.wrap (IntKind.i64.wrap (IntKind.i64.wrap (IntKind.i64.wrap (x + y) + z) - lo3 x y z) - hi3 x y z)
theorem sorted3 {x y z : Int} (hx : 0 ≤ x ∧ x < 30000) (hy : 0 ≤ y ∧ y < 30000) (hz : 0 ≤ z ∧ z < 30000) : 0 ≤ lo3 x y z ∧ lo3 x y z ≤ mi3 x y z ∧ mi3 x y z ≤ hi3 x y z ∧ hi3 x y z < 30000 := by
  have h1 : 0 ≤ lo3 x y z ∧ lo3 x y z ≤ x ∧ lo3 x y z ≤ y ∧ lo3 x y z ≤ z ∧ (lo3 x y z = x ∨ lo3 x y z = y ∨ lo3 x y z = z) := by unfold lo3; split <;> split at * <;> omega
  have h2 : hi3 x y z < 30000 ∧ x ≤ hi3 x y z ∧ y ≤ hi3 x y z ∧ z ≤ hi3 x y z ∧ (hi3 x y z = x ∨ hi3 x y z = y ∨ hi3 x y z = z) := by unfold hi3; split <;> split at * <;> omega
  have h3 : mi3 x y z = x + y + z - lo3 x y z - hi3 x y z := by
    unfold mi3
    rw [i64_in (x + y) (by omega), i64_in (x + y + z) (by omega), i64_in (x + y + z - lo3 x y z) (by omega), i64_in _ (by omega)]
  omega
noncomputable def businessLawS : PSpec := on_UUU (fun a b c => (0 ≤ a ∧ a ≤ 65535) ∧ (0 ≤ b ∧ b ≤ 65535) ∧ (0 ≤ c ∧ c ≤ 65535)) (fun _ _ _ => .bool true)
theorem w_businessLawS : PSound GG 3 businessLawS := by
  refine PSound.of_wpc (C := cxP Tryd.prog Φ9 [] 151) (T := planB) Tryd.func3 rfl rfl rfl (Fit.pure (G := GG) hΦ9 mixed) (fun args h => ?_)
  unfold businessLawS at h
  obtain ⟨a, b, c, rfl, hp⟩ := on_UUU_inv h
  refine ⟨by simp [cxP], ?_⟩
  simp only [businessLawS, on_UUU_eq, Tryd.f3, argL, planB]
  simp only [Nat.reduceBEq, Tryd.underlying3, Tryd.underlying22, Tryd.underlying23, Tryd.underlying24, sz3, ze3, Φ9, Φ8, Φ7, Φ6, Φ5, Φ4, Φ3, Φ2, Φ1, countS, nextS, businessS, awakeS, on_i_eq, on_ii_eq, on__eq, ev_skip, ev_seq, ev_region, ev_ret, ev_block, ev_exit, ev_loop, ev_cond, ev_scope, ev_label, condK_true, condK_false, condK_bool, isCut, Bool.false_eq_true, if_true, if_false, ↓reduceIte, false_implies, true_and, and_true, true_implies, KS_ap, KR_ap, steps_nil, stepsG_cons, thn_n, thn_e, thn_r, blk_n, blk_e, blk_r,     ev_op, ev_opG, opK_true, opK_false, isPureOp, List.contains_nil, List.contains_cons, Bool.or_false, Bool.false_or, cond_true, cond_false, aopP, callP_fn, callV_eq, mapV, allC, frzAll, frzL, opndV, ofV, ofV1, oc, ox, stripC, stripV, look_cons, upd_look, pureK_none, pureGK_eq, reduceCtorEq, Nat.reduceEqDiff, Nat.reduceLT, gAt, List.getElem?_toArray, List.getElem?_cons_succ, List.getElem?_cons_zero, Option.bind_some, Option.isNone_none, Bool.and_self, Bool.and_true, Bool.true_and,     gK_bool, gK_whn, mkW, pickA, beq_true, beq_false, Bool.not_false, Bool.not_true, keepA, binA, binP, binI, binS, eqP, unA, unP, isC, extractA, List.length_cons, List.length_nil, List.getD_cons_zero, List.getD_cons_succ, frzOk, frz, AV.freeL, AV.free, PV.flat, PV.flat1, List.all_cons, List.all_nil, or_true, true_or, cxP_P, cxP_N, cxP_Φ, cxP_Ψ, cxP_Θ, cxP_rows, putΦ, argL, implies_true, indexAddrA, loadA, partP, partL, PV.nth, isAggD, Int.reduceToNat, Int.toNat_zero, Int.toNat_one, Int.reduceLT, Int.reduceLE, List.drop_zero, List.take_zero, Nat.add_zero, Int.le_refl, Int.cast_ofNat_Int, not_false_eq_true, not_true_eq_false, imp_self, and_self, Bool.cond_false_right, Bool.cond_true_left, Bool.cond_false_left, Bool.cond_true_right, Nat.reduceAdd, Nat.zero_add, Fin_n, Fin_r, resC, resV, res1, tupP, minmaxA, foldI, sliceA, natOf, List.map_cons, List.map_nil, Option.map_none, Option.map_some, Option.toList, List.append_nil, List.nil_append, List.cons_append, buildSliceA, idxOk, elemOk, PV.width, PV.cells, PV.one, convP, convA, srcA, isStrV, isByteD, isU8, List.all_cons, List.all_nil, Nat.beq_eq_true_eq, beq_self_eq_true, Nat.reduceLeDiff, Nat.reduceMul]
  obtain ⟨⟨ha1, ha2⟩, ⟨hb1, hb2⟩, hc1, hc2⟩ := hp
  simp only [i64_in a (by omega), Int.tmod_eq_emod_of_nonneg ha1, i64_in b (by omega), Int.tmod_eq_emod_of_nonneg hb1, i64_in c (by omega), Int.tmod_eq_emod_of_nonneg hc1]
  refine ⟨by decide, by decide, by decide, by kernel_rfl, by kernel_rfl, ?_⟩
  refine AWp.here (T := plan0) (α := Int × Int × Int) (fun z => ([(8, .pv (.int .i64 z.1)), (9, .pv (.int .i64 z.2.1)), (10, .pv (.int .i64 z.2.2))], [])) (fun z => 0 ≤ z.1 ∧ z.1 ≤ z.2.1 ∧ z.2.1 ≤ z.2.2 ∧ z.2.2 < 30000) ?_ ?_
  · exact ⟨(lo3 (a % 30000) (b % 30000) (c % 30000), mi3 (a % 30000) (b % 30000) (c % 30000), hi3 (a % 30000) (b % 30000) (c % 30000)), sorted3 (by omega) (by omega) (by omega), ⟨by simp [fitR, look, lo3, mi3, hi3], trivial, rfl, rfl⟩⟩
  · rintro ⟨lo, mid, hi⟩ ⟨h0, h1, h2, h3⟩
    simp only at h0 h1 h2 h3
    have c1 := bef_cnt h0 h1 (by omega)
    have c2 := bef_cnt (by omega) h2 (by omega)
    have c3 := bef_cnt h0 (by omega) (by omega : hi ≤ 36000)
    have c4 : cnt lo (IntKind.i64.wrap (lo + 7)) = (5, 0) := by
      rw [i64_in _ (by omega), bef_cnt h0 (by omega) (by omega)]
      unfold bef
      simp only [Prod.mk.injEq, and_true]
      split <;> split <;> omega
    have c5 : nxt lo = (nxt1 lo, 0) := by
      have : lo ≤ nxt1 lo ∧ nxt1 lo ≤ lo + 2 := by unfold nxt1; split <;> omega
      have v1 : vld lo = true := vld_iff.2 (by omega)
      have v2 : vld (nxt1 lo) = true := vld_iff.2 (by omega)
      simp [nxt, v1, v2]
    have n1 : lo ≤ nxt1 lo ∧ nxt1 lo ≤ lo + 2 := by unfold nxt1; split <;> omega
    have c6 : bus (nxt1 lo) = true := by
      have v2 : vld (nxt1 lo) = true := vld_iff.2 (by omega)
      simp only [bus, v2, Bool.true_and, decide_eq_true_eq]
      unfold nxt1; split <;> omega
    have b1 := bef_le (n := lo) (by omega)
    have b2 := bef_le (n := mid) (by omega)
    have b3 := bef_le (n := hi) (by omega)
    have c7 : IntKind.i64.wrap (bef mid - bef lo + (bef hi - bef mid)) = IntKind.i64.wrap (bef hi - bef lo) := by congr 1; omega
    have c8 : (IntKind.i64.wrap (bef hi - bef lo) != bef hi - bef lo) = false := by rw [i64_in _ (by omega)]; simp
    have c9 : decide (nxt1 lo < lo) = false := by simp; omega
    have c10 : decide (IntKind.i64.wrap (lo + 2) < nxt1 lo) = false := by rw [i64_in _ (by omega)]; simp; omega
    simp only [c1, c2, c3, c4, c5, c6, c7, c8, c9, c10, bne_self_eq_false, plan0, Tryd.underlying3, Tryd.underlying24, Φ9, Φ8, Φ7, Φ6, Φ5, Φ4, Φ3, Φ2, Φ1, countS, nextS, businessS, awakeS, on_i_eq, on_ii_eq, on__eq, ev_skip, ev_seq, ev_region, ev_ret, ev_block, ev_exit, ev_loop, ev_cond, ev_scope, ev_label, condK_true, condK_false, condK_bool, isCut, Bool.false_eq_true, if_true, if_false, ↓reduceIte, false_implies, true_and, and_true, true_implies, KS_ap, KR_ap, steps_nil, stepsG_cons, thn_n, thn_e, thn_r, blk_n, blk_e, blk_r,     ev_op, ev_opG, opK_true, opK_false, isPureOp, List.contains_nil, List.contains_cons, Bool.or_false, Bool.false_or, cond_true, cond_false, aopP, callP_fn, callV_eq, mapV, allC, frzAll, frzL, opndV, ofV, ofV1, oc, ox, stripC, stripV, look_cons, upd_look, pureK_none, pureGK_eq, reduceCtorEq, Nat.reduceEqDiff, Nat.reduceLT, gAt, List.getElem?_toArray, List.getElem?_cons_succ, List.getElem?_cons_zero, Option.bind_some, Option.isNone_none, Bool.and_self, Bool.and_true, Bool.true_and,     gK_bool, gK_whn, mkW, pickA, beq_true, beq_false, Bool.not_false, Bool.not_true, keepA, binA, binP, binI, binS, eqP, unA, unP, isC, extractA, List.length_cons, List.length_nil, List.getD_cons_zero, List.getD_cons_succ, frzOk, frz, AV.freeL, AV.free, PV.flat, PV.flat1, List.all_cons, List.all_nil, or_true, true_or, cxP_P, cxP_N, cxP_Φ, cxP_Ψ, cxP_Θ, cxP_rows, putΦ, argL, implies_true, indexAddrA, loadA, partP, partL, PV.nth, isAggD, Int.reduceToNat, Int.toNat_zero, Int.toNat_one, Int.reduceLT, Int.reduceLE, List.drop_zero, List.take_zero, Nat.add_zero, Int.le_refl, Int.cast_ofNat_Int, not_false_eq_true, not_true_eq_false, imp_self, and_self, Bool.cond_false_right, Bool.cond_true_left, Bool.cond_false_left, Bool.cond_true_right, Nat.reduceAdd, Nat.zero_add, Fin_n, Fin_r, resC, resV, res1, tupP, minmaxA, foldI, sliceA, natOf, List.map_cons, List.map_nil, Option.map_none, Option.map_some, Option.toList, List.append_nil, List.nil_append, List.cons_append, buildSliceA, idxOk, elemOk, PV.width, PV.cells, PV.one, convP, convA, srcA, isStrV, isByteD, isU8, List.all_cons, List.all_nil, Nat.beq_eq_true_eq, beq_self_eq_true, Nat.reduceLeDiff, Nat.reduceMul]
    refine AWp.loop (T := plan0) (α := Int) (fun x => ([(21, .pv (.int .i64 x)), (19, .pv (.int .i64 (nxt1 lo)))], [])) (fun x => lo ≤ x ∧ x ≤ nxt1 lo) (fun x => (nxt1 lo - x).toNat) ⟨lo, ⟨Int.le_refl _, n1.1⟩, ⟨by simp [fitR, look], trivial, rfl, rfl⟩⟩ ?_
    rintro x ⟨hx1, hx2⟩
    have hv : IntKind.i64.wrap (x + 1) = x + 1 := i64_in _ (by omega)
    simp only [hv, plan0, Tryd.underlying3, Φ9, Φ8, Φ7, Φ6, Φ5, Φ4, Φ3, Φ2, Φ1, businessS, awakeS, on_i_eq, on__eq, ev_skip, ev_seq, ev_region, ev_ret, ev_block, ev_exit, ev_loop, ev_cond, ev_scope, ev_label, condK_true, condK_false, condK_bool, isCut, Bool.false_eq_true, if_true, if_false, ↓reduceIte, false_implies, true_and, and_true, true_implies, KS_ap, KR_ap, steps_nil, stepsG_cons, thn_n, thn_e, thn_r, blk_n, blk_e, blk_r,     ev_op, ev_opG, opK_true, opK_false, isPureOp, List.contains_nil, List.contains_cons, Bool.or_false, Bool.false_or, cond_true, cond_false, aopP, callP_fn, callV_eq, mapV, allC, frzAll, frzL, opndV, ofV, ofV1, oc, ox, stripC, stripV, look_cons, upd_look, pureK_none, pureGK_eq, reduceCtorEq, Nat.reduceEqDiff, Nat.reduceLT, gAt, List.getElem?_toArray, List.getElem?_cons_succ, List.getElem?_cons_zero, Option.bind_some, Option.isNone_none, Bool.and_self, Bool.and_true, Bool.true_and,     gK_bool, gK_whn, mkW, pickA, beq_true, beq_false, Bool.not_false, Bool.not_true, keepA, binA, binP, binI, binS, eqP, unA, unP, isC, extractA, List.length_cons, List.length_nil, List.getD_cons_zero, List.getD_cons_succ, frzOk, frz, AV.freeL, AV.free, PV.flat, PV.flat1, List.all_cons, List.all_nil, or_true, true_or, cxP_P, cxP_N, cxP_Φ, cxP_Ψ, cxP_Θ, cxP_rows, putΦ, argL, implies_true, indexAddrA, loadA, partP, partL, PV.nth, isAggD, Int.reduceToNat, Int.toNat_zero, Int.toNat_one, Int.reduceLT, Int.reduceLE, List.drop_zero, List.take_zero, Nat.add_zero, Int.le_refl, Int.cast_ofNat_Int, not_false_eq_true, not_true_eq_false, imp_self, and_self, Bool.cond_false_right, Bool.cond_true_left, Bool.cond_false_left, Bool.cond_true_right, Nat.reduceAdd, Nat.zero_add, Fin_n, Fin_r, resC, resV, res1, tupP, minmaxA, foldI, sliceA, natOf, List.map_cons, List.map_nil, Option.map_none, Option.map_some, Option.toList, List.append_nil, List.nil_append, List.cons_append, buildSliceA, idxOk, elemOk, PV.width, PV.cells, PV.one, convP, convA, srcA, isStrV, isByteD, isU8, List.all_cons, List.all_nil, Nat.beq_eq_true_eq, beq_self_eq_true, Nat.reduceLeDiff, Nat.reduceMul]
    intro hlt
    have hlt : x < nxt1 lo := by simpa using hlt
    have hb : bus x = false := by
      simp only [bus, Bool.and_eq_false_iff, decide_eq_false_iff_not]
      right
      unfold nxt1 at hlt
      split at hlt <;> omega
    refine ⟨(fun h => by rw [hb] at h; cases h), (fun _ => ⟨x + 1, ⟨by omega, by omega⟩, by omega, ⟨by simp [fitR, look], trivial, rfl, rfl⟩⟩)⟩
end Go.AM
