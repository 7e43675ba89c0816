/-
  A part of a proof: see the last text of this claim for what is proved.
-/
import Derived.Test.YtjeolgjiakpenaaDoorR1f
namespace Go.AM
open Go Go.Proofs Go.IntWalk Go.Shelf
set_option maxRecDepth 100000
set_option linter.unusedSimpArgs false
set_option linter.unusedVariables false
def isDg (c : UInt8) : Bool := decide (48 ≤ (c.toNat : Int)) && decide ((c.toNat : Int) ≤ 57)
def dgF : Nat → List UInt8 → Int → Int
  | 0, _, n => n
  | _ + 1, [], n => n
  | k + 1, c :: r, n => bif isDg c then dgF k r (10 * n + ((c.toNat : Int) - 48)) else n
theorem dg_app : ∀ (l r : List UInt8) (k : Nat) (n : Int), l.length ≤ k → l.all isDg = true → dgF (k + 1) (l ++ 45 :: r) n = dgF (k + 1) l n
  | [], r, k, n, _, _ => by simp [dgF, isDg]
  | c :: l, r, k, n, h, hd => by
    simp only [List.all_cons, Bool.and_eq_true] at hd
    simp only [List.length_cons] at h
    obtain ⟨k', rfl⟩ : ∃ k', k = k' + 1 := ⟨k - 1, by omega⟩
    simp only [List.cons_append, dgF, hd.1, cond_true]
    exact dg_app l r k' _ (by omega) hd.2
theorem itoa_dg : ∀ y : _root_.Fin 101, (Lib.itoa ((y.val : Nat) : Int)).all isDg = true ∧ dgF 4 (Lib.itoa ((y.val : Nat) : Int)) 0 = ((y.val : Nat) : Int) := by decide +kernel
theorem dg_txt {x : Int} (h : vld x = true) : dgF 4 (txtF x) 0 = x / 360 := by
  have h2 := vld_iff.1 h
  have ht : txtF x = txt x := by simp [txtF, h]
  have h3 := itoa_dg ⟨(x / 360).toNat, by omega⟩
  simp only [Int.toNat_of_nonneg (show 0 ≤ x / 360 by omega)] at h3
  rw [ht, txt_form, dg_app _ _ 3 0 (itoa_at (by omega) (by omega)).1 h3.1]
  exact h3.2
theorem prs_cases (s : List UInt8) : prsF s = (0, 4) ∨ ∃ x, vld x = true ∧ txtF x = s ∧ prsF s = (x, 0) := by
  have fin : ∀ x, finP s x = (0, 4) ∨ ∃ z, vld z = true ∧ txtF z = s ∧ finP s x = (z, 0) := by
    intro x
    unfold finP
    cases h : ((dayF x.1 x.2.1 x.2.2).2 != 0 || !(txtF (dayF x.1 x.2.1 x.2.2).1 == s)) with
    | true => exact .inl rfl
    | false =>
      simp only [Bool.or_eq_false_iff, bne_eq_false_iff_eq, Bool.not_eq_false', beq_iff_eq] at h
      refine .inr ⟨(dayF x.1 x.2.1 x.2.2).1, ?_, h.2, rfl⟩
      have h1 := h.1
      unfold dayF at h1 ⊢
      cases h3 : (!amg x.2.1 1 12 || !amg x.2.2 1 30 || !amg x.1 0 36000) with
      | true => rw [h3] at h1; simp at h1
      | false =>
        rw [h3] at h1
        simp only [cond_false] at h1 ⊢
        unfold chk at h1 ⊢
        cases h4 : vld (360 * x.1 + 30 * (x.2.1 - 1) + x.2.2 - 1) with
        | true => exact h4
        | false => rw [h4] at h1; simp at h1
  have gen : ∀ (ws : List (List UInt8)) (i : Nat) (x : Int × Int × Int), prsG s ws i x = (0, 4) ∨ ∃ z, vld z = true ∧ txtF z = s ∧ prsG s ws i x = (z, 0) := by
    intro ws
    induction ws with
    | nil => intro i x; unfold prsG; exact fin x
    | cons w ws ih =>
      intro i x
      unfold prsG
      split
      · exact ih _ _
      · exact .inl rfl
  exact gen _ _ _
noncomputable def rparseS : PSpec := on_s (fun s => s.length ≤ 1000000) (fun s => .tup [.int .i64 (prsF s).1, .int .i64 (prsF s).2])
theorem w_rparseS : PSound GG 32 rparseS := by
  refine PSound.of_wpc (C := cxP Tryd.prog Φ10 [] 55) (T := plan0) Tryd.func32 rfl rfl rfl (Fit.pure (G := GG) hΦ10 mixed) (fun args h => ?_)
  unfold rparseS at h
  obtain ⟨s, rfl, hp⟩ := on_s_inv h
  refine ⟨by simp [cxP], ?_⟩
  simp only [rparseS, on_s_eq, Tryd.f32, argL, plan0]
  simp only [Tryd.underlying3, sz3, by3, ze3, Tryd.underlying4, sz4, by4, ze4, Tryd.underlying5, sz5, by5, ze5, Tryd.underlying9, sz9, by9, ze9, Tryd.underlying24, sz24, by24, ze24, ev_skip, ev_seq, ev_region, ev_ret, ev_block, ev_exit, ev_loop, ev_cond, ev_scope, ev_label, condK_true, condK_false, condK_bool, isCut, Bool.false_eq_true, if_true, if_false, ↓reduceIte, false_implies, true_and, and_true, true_implies, KS_ap, KR_ap, steps_nil, stepsG_cons, thn_n, thn_e, thn_r, blk_n, blk_e, blk_r,     ev_op, ev_opG, opK_true, opK_false, isPureOp, List.contains_nil, List.contains_cons, Bool.or_false, Bool.false_or, cond_true, cond_false, aopP, callP_fn, callV_eq, mapV, allC, frzAll, frzL, opndV, ofV, ofV1, oc, ox, stripC, stripV, look_cons, upd_look, pureK_none, pureGK_eq, reduceCtorEq, Nat.reduceEqDiff, Nat.reduceLT, gAt, List.getElem?_toArray, List.getElem?_cons_succ, List.getElem?_cons_zero, Option.bind_some, Option.isNone_none, Option.isNone_some, Bool.false_and, Bool.and_false, Bool.and_self, Bool.and_true, Bool.true_and,     gK_bool, gK_whn, mkW, pickA, beq_true, beq_false, Bool.not_false, Bool.not_true, keepA, binA, binP, binI, binS, eqP, unA, unP, isC, extractA, List.length_cons, List.length_nil, List.getD_cons_zero, List.getD_cons_succ, frzOk, frz, AV.freeL, AV.free, PV.flat, PV.flat1, List.all_cons, List.all_nil, or_true, true_or, cxP_P, cxP_N, cxP_Φ, cxP_Ψ, cxP_Θ, cxP_rows, cxP_pins, cxQ_P, cxQ_N, cxQ_Φ, cxQ_Ψ, cxQ_Θ, cxQ_rows, cxQ_pins, putΘ, putΨ, noΘ, noΨ, ev_call, ev_alloc, ev_box, ev_makeSlice, ev_store, ev_append, callK_E, callK_Q, callK_P, qV_1, ↓all_qV, psiNew_eq, aopE, newB_some, putD_some, putD, hget, hset, hdel, storeA, putL, cellsA, partC, partA, fieldAddrA, addOff, nilCheckA, fieldV, buildA, packA, fieldPlaces, fillA, appendA, allW, killR_look, killS, AV.kill, AV.killL, killH, ABlk.kill, putΦ, argL, implies_true, indexAddrA, loadA, partP, partL, PV.nth, isAggD, Int.reduceToNat, Int.toNat_zero, Int.toNat_one, Int.reduceLT, Int.reduceLE, List.drop_zero, List.take_zero, Nat.add_zero, Int.le_refl, Int.cast_ofNat_Int, not_false_eq_true, not_true_eq_false, imp_self, and_self, gt1, gt2, Bool.not_not, Bool.cond_false_right, Bool.cond_true_left, Bool.cond_false_left, Bool.cond_true_right, Nat.reduceAdd, Nat.zero_add, Fin_n, Fin_r, FinQ, tapeOk, filt, AV.refsIn, AV.refsInL, refsH, ABlk.refsIn, pvL, Option.isSome_some, Option.getD_some, Option.getD_none, FinN, resC, resV, res1, tupP, AV.one, List.set_cons_succ, List.set_cons_zero, Option.some.injEq, minmaxA, foldI, lenA, isSliceD, isStrD, isSliceOrStr, Int.toNat_natCast, ne_eq, sliceA, natOf, List.map_cons, List.map_nil, Option.map_none, Option.map_some, Option.toList, List.append_nil, List.nil_append, List.cons_append, buildSliceA, idxOk, elemOk, PV.width, PV.cells, PV.one, convP, convA, srcA, isStrV, isByteD, isU8, List.all_cons, List.all_nil, Nat.beq_eq_true_eq, beq_self_eq_true, Nat.reduceLeDiff, Nat.reduceMul]
  refine AWp.loop (T := plan0) (α := Nat × Int) (fun x => ([(0, .pv (.str s)), (4, .pv (.int .i64 x.2)), (5, .pv (.int .i64 x.1))], [])) (fun x => (x.1 ≤ 4 ∧ x.1 ≤ s.length) ∧ (0 ≤ x.2 ∧ x.2 < 10 ^ x.1) ∧ dgF (4 - x.1) (s.drop x.1) x.2 = dgF 4 s 0) (fun x => 4 - x.1)
    ⟨(0, 0), ⟨⟨by decide, Nat.zero_le _⟩, ⟨by decide, by decide⟩, rfl⟩, ⟨by simp [fitR, look], trivial, rfl, rfl, rfl⟩⟩ ?_
  rintro ⟨i, n⟩ ⟨⟨h1, h2⟩, ⟨h3, h4⟩, h5⟩
  simp only at h1 h2 h3 h4 h5
  have h10 : (10 : Int) ^ i ≤ 10 ^ 4 := by
    have : (10 : Nat) ^ i ≤ 10 ^ 4 := Nat.pow_le_pow_right (by decide) h1
    exact_mod_cast this
  have hi1 : IntKind.i64.wrap ((i : Int) + 1) = ((i + 1 : Nat) : Int) := by rw [i64_in _ (by omega)]; omega
  by_cases hgo : i < s.length ∧ i < 4
  · have c0 : decide ((i : Int) < (s.length : Int)) = true := by simp; omega
    have c1 : decide ((i : Int) < 4) = true := by simp; omega
    have hdd : s.drop i = s.getD i 0 :: s.drop (i + 1) := by rw [List.drop_eq_getElem_cons hgo.1]; simp [List.getD_eq_getElem?_getD, hgo.1]
    rw [hdd, show 4 - i = (4 - (i + 1)) + 1 by omega, dgF] at h5
    simp only [c0, c1, hi1, indexA, Φ10, Φ9, Φ8, rvalidS, rtextS, on_i_eq, Tryd.underlying3, sz3, by3, ze3, Tryd.underlying4, sz4, by4, ze4, Tryd.underlying5, sz5, by5, ze5, Tryd.underlying9, sz9, by9, ze9, Tryd.underlying24, sz24, by24, ze24, plan0, ev_skip, ev_seq, ev_region, ev_ret, ev_block, ev_exit, ev_loop, ev_cond, ev_scope, ev_label, condK_true, condK_false, condK_bool, isCut, Bool.false_eq_true, if_true, if_false, ↓reduceIte, false_implies, true_and, and_true, true_implies, KS_ap, KR_ap, steps_nil, stepsG_cons, thn_n, thn_e, thn_r, blk_n, blk_e, blk_r,     ev_op, ev_opG, opK_true, opK_false, isPureOp, List.contains_nil, List.contains_cons, Bool.or_false, Bool.false_or, cond_true, cond_false, aopP, callP_fn, callV_eq, mapV, allC, frzAll, frzL, opndV, ofV, ofV1, oc, ox, stripC, stripV, look_cons, upd_look, pureK_none, pureGK_eq, reduceCtorEq, Nat.reduceEqDiff, Nat.reduceLT, gAt, List.getElem?_toArray, List.getElem?_cons_succ, List.getElem?_cons_zero, Option.bind_some, Option.isNone_none, Option.isNone_some, Bool.false_and, Bool.and_false, Bool.and_self, Bool.and_true, Bool.true_and,     gK_bool, gK_whn, mkW, pickA, beq_true, beq_false, Bool.not_false, Bool.not_true, keepA, binA, binP, binI, binS, eqP, unA, unP, isC, extractA, List.length_cons, List.length_nil, List.getD_cons_zero, List.getD_cons_succ, frzOk, frz, AV.freeL, AV.free, PV.flat, PV.flat1, List.all_cons, List.all_nil, or_true, true_or, cxP_P, cxP_N, cxP_Φ, cxP_Ψ, cxP_Θ, cxP_rows, cxP_pins, cxQ_P, cxQ_N, cxQ_Φ, cxQ_Ψ, cxQ_Θ, cxQ_rows, cxQ_pins, putΘ, putΨ, noΘ, noΨ, ev_call, ev_alloc, ev_box, ev_makeSlice, ev_store, ev_append, callK_E, callK_Q, callK_P, qV_1, ↓all_qV, psiNew_eq, aopE, newB_some, putD_some, putD, hget, hset, hdel, storeA, putL, cellsA, partC, partA, fieldAddrA, addOff, nilCheckA, fieldV, buildA, packA, fieldPlaces, fillA, appendA, allW, killR_look, killS, AV.kill, AV.killL, killH, ABlk.kill, putΦ, argL, implies_true, indexAddrA, loadA, partP, partL, PV.nth, isAggD, Int.reduceToNat, Int.toNat_zero, Int.toNat_one, Int.reduceLT, Int.reduceLE, List.drop_zero, List.take_zero, Nat.add_zero, Int.le_refl, Int.cast_ofNat_Int, not_false_eq_true, not_true_eq_false, imp_self, and_self, gt1, gt2, Bool.not_not, Bool.cond_false_right, Bool.cond_true_left, Bool.cond_false_left, Bool.cond_true_right, Nat.reduceAdd, Nat.zero_add, Fin_n, Fin_r, FinQ, tapeOk, filt, AV.refsIn, AV.refsInL, refsH, ABlk.refsIn, pvL, Option.isSome_some, Option.getD_some, Option.getD_none, FinN, resC, resV, res1, tupP, AV.one, List.set_cons_succ, List.set_cons_zero, Option.some.injEq, minmaxA, foldI, lenA, isSliceD, isStrD, isSliceOrStr, Int.toNat_natCast, ne_eq, sliceA, natOf, List.map_cons, List.map_nil, Option.map_none, Option.map_some, Option.toList, List.append_nil, List.nil_append, List.cons_append, buildSliceA, idxOk, elemOk, PV.width, PV.cells, PV.one, convP, convA, srcA, isStrV, isByteD, isU8, List.all_cons, List.all_nil, Nat.beq_eq_true_eq, beq_self_eq_true, Nat.reduceLeDiff, Nat.reduceMul]
    refine ⟨⟨by omega, by omega⟩, fun _ => ⟨by omega, by omega⟩, fun h9 => ⟨⟨by omega, by omega⟩, ?_⟩, fun h9 => ?_⟩
    · have hc : isDg (s.getD i 0) = true := h9
      rw [hc, cond_true] at h5
      generalize s.getD i 0 = c at h5 h9 ⊢
      simp only [Bool.and_eq_true, decide_eq_true_eq] at h9
      have e2 : IntKind.i64.wrap (IntKind.i64.wrap (10 * n) + IntKind.i64.wrap (IntKind.u8.wrap ((c.toNat : Int) - 48))) = 10 * n + ((c.toNat : Int) - 48) := by
        rw [u8_in _ (by omega), i64_in (10 * n) (by omega), i64_in ((c.toNat : Int) - 48) (by omega), i64_in _ (by omega)]
      have e3 : (10 : Int) ^ (i + 1) = 10 ^ i * 10 := Int.pow_succ 10 i
      rw [e2]
      exact ⟨(i + 1, 10 * n + ((c.toNat : Int) - 48)), ⟨⟨by simp only; omega, by simp only; omega⟩, ⟨by simp only; omega, by simp only; omega⟩, h5⟩, by simp only; omega, ⟨by simp [fitR, look], trivial, rfl, rfl, rfl⟩⟩
    · have hc : isDg (s.getD i 0) = false := h9
      rw [hc, cond_false] at h5
      have hend := h5
      have hw0 : IntKind.i64.wrap (360 * n) = 360 * n := i64_in _ (by omega)
      have hw2 : IntKind.i64.wrap (360 * n + 360) = 360 * n + 360 := i64_in _ (by omega)
      rw [hw0]
      refine AWp.loop (T := plan0) (α := Int) (fun d => ([(0, .pv (.str s)), (4, .pv (.int .i64 n)), (6, .pv (.int .i64 d))], [])) (fun d => (360 * n ≤ d ∧ d ≤ 360 * n + 360) ∧ ∀ e, 360 * n ≤ e → e < d → vld e = true → ¬ txtF e = s) (fun d => (360 * n + 360 - d).toNat)
        ⟨360 * n, ⟨⟨Int.le_refl _, by omega⟩, fun e g1 g2 => by omega⟩, ⟨by simp [fitR, look], trivial, rfl, rfl, rfl⟩⟩ ?_
      rintro d ⟨⟨g1, g2⟩, g3⟩
      have hw3 : IntKind.i64.wrap (d + 1) = d + 1 := i64_in _ (by omega)
      simp only [hw0, hw2, hw3, Φ10, Φ9, Φ8, rvalidS, rtextS, on_i_eq, Tryd.underlying3, sz3, by3, ze3, Tryd.underlying4, sz4, by4, ze4, Tryd.underlying5, sz5, by5, ze5, Tryd.underlying9, sz9, by9, ze9, Tryd.underlying24, sz24, by24, ze24, plan0, ev_skip, ev_seq, ev_region, ev_ret, ev_block, ev_exit, ev_loop, ev_cond, ev_scope, ev_label, condK_true, condK_false, condK_bool, isCut, Bool.false_eq_true, if_true, if_false, ↓reduceIte, false_implies, true_and, and_true, true_implies, KS_ap, KR_ap, steps_nil, stepsG_cons, thn_n, thn_e, thn_r, blk_n, blk_e, blk_r,     ev_op, ev_opG, opK_true, opK_false, isPureOp, List.contains_nil, List.contains_cons, Bool.or_false, Bool.false_or, cond_true, cond_false, aopP, callP_fn, callV_eq, mapV, allC, frzAll, frzL, opndV, ofV, ofV1, oc, ox, stripC, stripV, look_cons, upd_look, pureK_none, pureGK_eq, reduceCtorEq, Nat.reduceEqDiff, Nat.reduceLT, gAt, List.getElem?_toArray, List.getElem?_cons_succ, List.getElem?_cons_zero, Option.bind_some, Option.isNone_none, Option.isNone_some, Bool.false_and, Bool.and_false, Bool.and_self, Bool.and_true, Bool.true_and,     gK_bool, gK_whn, mkW, pickA, beq_true, beq_false, Bool.not_false, Bool.not_true, keepA, binA, binP, binI, binS, eqP, unA, unP, isC, extractA, List.length_cons, List.length_nil, List.getD_cons_zero, List.getD_cons_succ, frzOk, frz, AV.freeL, AV.free, PV.flat, PV.flat1, List.all_cons, List.all_nil, or_true, true_or, cxP_P, cxP_N, cxP_Φ, cxP_Ψ, cxP_Θ, cxP_rows, cxP_pins, cxQ_P, cxQ_N, cxQ_Φ, cxQ_Ψ, cxQ_Θ, cxQ_rows, cxQ_pins, putΘ, putΨ, noΘ, noΨ, ev_call, ev_alloc, ev_box, ev_makeSlice, ev_store, ev_append, callK_E, callK_Q, callK_P, qV_1, ↓all_qV, psiNew_eq, aopE, newB_some, putD_some, putD, hget, hset, hdel, storeA, putL, cellsA, partC, partA, fieldAddrA, addOff, nilCheckA, fieldV, buildA, packA, fieldPlaces, fillA, appendA, allW, killR_look, killS, AV.kill, AV.killL, killH, ABlk.kill, putΦ, argL, implies_true, indexAddrA, loadA, partP, partL, PV.nth, isAggD, Int.reduceToNat, Int.toNat_zero, Int.toNat_one, Int.reduceLT, Int.reduceLE, List.drop_zero, List.take_zero, Nat.add_zero, Int.le_refl, Int.cast_ofNat_Int, not_false_eq_true, not_true_eq_false, imp_self, and_self, gt1, gt2, Bool.not_not, Bool.cond_false_right, Bool.cond_true_left, Bool.cond_false_left, Bool.cond_true_right, Nat.reduceAdd, Nat.zero_add, Fin_n, Fin_r, FinQ, tapeOk, filt, AV.refsIn, AV.refsInL, refsH, ABlk.refsIn, pvL, Option.isSome_some, Option.getD_some, Option.getD_none, FinN, resC, resV, res1, tupP, AV.one, List.set_cons_succ, List.set_cons_zero, Option.some.injEq, minmaxA, foldI, lenA, isSliceD, isStrD, isSliceOrStr, Int.toNat_natCast, ne_eq, sliceA, natOf, List.map_cons, List.map_nil, Option.map_none, Option.map_some, Option.toList, List.append_nil, List.nil_append, List.cons_append, buildSliceA, idxOk, elemOk, PV.width, PV.cells, PV.one, convP, convA, srcA, isStrV, isByteD, isU8, List.all_cons, List.all_nil, Nat.beq_eq_true_eq, beq_self_eq_true, Nat.reduceLeDiff, Nat.reduceMul]
      refine ⟨fun k1 => ⟨fun k2 => ?_, fun k2 => ?_⟩, fun k1 => ?_⟩
      · simp only [Bool.and_eq_true, decide_eq_true_eq] at k1
        have k3 : txtF d = s := by simpa using k2
        have k4 := prs_back k1.1
        rw [k3] at k4
        rw [k4]
      · simp only [Bool.and_eq_true, decide_eq_true_eq] at k1
        have k3 : ¬ txtF d = s := by simpa using k2
        refine ⟨d + 1, ⟨⟨by omega, by omega⟩, fun e e1 e2 e3 => ?_⟩, by omega, ⟨by simp [fitR, look], trivial, rfl, rfl, rfl⟩⟩
        by_cases e4 : e = d
        · rw [e4]; exact k3
        · exact g3 e e1 (by omega) e3
      · have : prsF s = (0, 4) := by
          rcases prs_cases s with h9 | ⟨x, v1, v2, _⟩
          · exact h9
          · exfalso
            have v3 := dg_txt v1
            rw [v2, ← hend] at v3
            have v4 := vld_iff.1 v1
            refine g3 x (by omega) ?_ v1 v2
            by_cases v5 : d < 360 * n + 360
            · have v6 : vld d = false := by
                cases hx : vld d with
                | false => rfl
                | true => rw [hx] at k1; simp at k1; omega
              have := vld_not.1 v6
              omega
            · omega
        rw [this]
  · have hcond : (decide ((i : Int) < (s.length : Int)) && decide ((i : Int) < 4)) = false := by
      by_cases h9 : i < s.length
      · have : ¬ (i : Int) < 4 := by omega
        simp [this]
      · have : ¬ (i : Int) < s.length := by omega
        simp [this]
    have hend : n = dgF 4 s 0 := by
      rw [← h5]
      by_cases h9 : i < 4
      · rw [show s.drop i = [] from List.drop_eq_nil_of_le (by omega), show 4 - i = (3 - i) + 1 by omega, dgF]
      · rw [show 4 - i = 0 by omega, dgF]
    simp only [hcond, Bool.false_and, indexA, Φ10, Φ9, Φ8, rvalidS, rtextS, on_i_eq, Tryd.underlying3, sz3, by3, ze3, Tryd.underlying4, sz4, by4, ze4, Tryd.underlying5, sz5, by5, ze5, Tryd.underlying9, sz9, by9, ze9, Tryd.underlying24, sz24, by24, ze24, plan0, ev_skip, ev_seq, ev_region, ev_ret, ev_block, ev_exit, ev_loop, ev_cond, ev_scope, ev_label, condK_true, condK_false, condK_bool, isCut, Bool.false_eq_true, if_true, if_false, ↓reduceIte, false_implies, true_and, and_true, true_implies, KS_ap, KR_ap, steps_nil, stepsG_cons, thn_n, thn_e, thn_r, blk_n, blk_e, blk_r,     ev_op, ev_opG, opK_true, opK_false, isPureOp, List.contains_nil, List.contains_cons, Bool.or_false, Bool.false_or, cond_true, cond_false, aopP, callP_fn, callV_eq, mapV, allC, frzAll, frzL, opndV, ofV, ofV1, oc, ox, stripC, stripV, look_cons, upd_look, pureK_none, pureGK_eq, reduceCtorEq, Nat.reduceEqDiff, Nat.reduceLT, gAt, List.getElem?_toArray, List.getElem?_cons_succ, List.getElem?_cons_zero, Option.bind_some, Option.isNone_none, Option.isNone_some, Bool.false_and, Bool.and_false, Bool.and_self, Bool.and_true, Bool.true_and,     gK_bool, gK_whn, mkW, pickA, beq_true, beq_false, Bool.not_false, Bool.not_true, keepA, binA, binP, binI, binS, eqP, unA, unP, isC, extractA, List.length_cons, List.length_nil, List.getD_cons_zero, List.getD_cons_succ, frzOk, frz, AV.freeL, AV.free, PV.flat, PV.flat1, List.all_cons, List.all_nil, or_true, true_or, cxP_P, cxP_N, cxP_Φ, cxP_Ψ, cxP_Θ, cxP_rows, cxP_pins, cxQ_P, cxQ_N, cxQ_Φ, cxQ_Ψ, cxQ_Θ, cxQ_rows, cxQ_pins, putΘ, putΨ, noΘ, noΨ, ev_call, ev_alloc, ev_box, ev_makeSlice, ev_store, ev_append, callK_E, callK_Q, callK_P, qV_1, ↓all_qV, psiNew_eq, aopE, newB_some, putD_some, putD, hget, hset, hdel, storeA, putL, cellsA, partC, partA, fieldAddrA, addOff, nilCheckA, fieldV, buildA, packA, fieldPlaces, fillA, appendA, allW, killR_look, killS, AV.kill, AV.killL, killH, ABlk.kill, putΦ, argL, implies_true, indexAddrA, loadA, partP, partL, PV.nth, isAggD, Int.reduceToNat, Int.toNat_zero, Int.toNat_one, Int.reduceLT, Int.reduceLE, List.drop_zero, List.take_zero, Nat.add_zero, Int.le_refl, Int.cast_ofNat_Int, not_false_eq_true, not_true_eq_false, imp_self, and_self, gt1, gt2, Bool.not_not, Bool.cond_false_right, Bool.cond_true_left, Bool.cond_false_left, Bool.cond_true_right, Nat.reduceAdd, Nat.zero_add, Fin_n, Fin_r, FinQ, tapeOk, filt, AV.refsIn, AV.refsInL, refsH, ABlk.refsIn, pvL, Option.isSome_some, Option.getD_some, Option.getD_none, FinN, resC, resV, res1, tupP, AV.one, List.set_cons_succ, List.set_cons_zero, Option.some.injEq, minmaxA, foldI, lenA, isSliceD, isStrD, isSliceOrStr, Int.toNat_natCast, ne_eq, sliceA, natOf, List.map_cons, List.map_nil, Option.map_none, Option.map_some, Option.toList, List.append_nil, List.nil_append, List.cons_append, buildSliceA, idxOk, elemOk, PV.width, PV.cells, PV.one, convP, convA, srcA, isStrV, isByteD, isU8, List.all_cons, List.all_nil, Nat.beq_eq_true_eq, beq_self_eq_true, Nat.reduceLeDiff, Nat.reduceMul]
    have hw0 : IntKind.i64.wrap (360 * n) = 360 * n := i64_in _ (by omega)
    have hw2 : IntKind.i64.wrap (360 * n + 360) = 360 * n + 360 := i64_in _ (by omega)
    rw [hw0]
    refine AWp.loop (T := plan0) (α := Int) (fun d => ([(0, .pv (.str s)), (4, .pv (.int .i64 n)), (6, .pv (.int .i64 d))], [])) (fun d => (360 * n ≤ d ∧ d ≤ 360 * n + 360) ∧ ∀ e, 360 * n ≤ e → e < d → vld e = true → ¬ txtF e = s) (fun d => (360 * n + 360 - d).toNat)
      ⟨360 * n, ⟨⟨Int.le_refl _, by omega⟩, fun e g1 g2 => by omega⟩, ⟨by simp [fitR, look], trivial, rfl, rfl, rfl⟩⟩ ?_
    rintro d ⟨⟨g1, g2⟩, g3⟩
    have hw3 : IntKind.i64.wrap (d + 1) = d + 1 := i64_in _ (by omega)
    simp only [hw0, hw2, hw3, Φ10, Φ9, Φ8, rvalidS, rtextS, on_i_eq, Tryd.underlying3, sz3, by3, ze3, Tryd.underlying4, sz4, by4, ze4, Tryd.underlying5, sz5, by5, ze5, Tryd.underlying9, sz9, by9, ze9, Tryd.underlying24, sz24, by24, ze24, plan0, ev_skip, ev_seq, ev_region, ev_ret, ev_block, ev_exit, ev_loop, ev_cond, ev_scope, ev_label, condK_true, condK_false, condK_bool, isCut, Bool.false_eq_true, if_true, if_false, ↓reduceIte, false_implies, true_and, and_true, true_implies, KS_ap, KR_ap, steps_nil, stepsG_cons, thn_n, thn_e, thn_r, blk_n, blk_e, blk_r,     ev_op, ev_opG, opK_true, opK_false, isPureOp, List.contains_nil, List.contains_cons, Bool.or_false, Bool.false_or, cond_true, cond_false, aopP, callP_fn, callV_eq, mapV, allC, frzAll, frzL, opndV, ofV, ofV1, oc, ox, stripC, stripV, look_cons, upd_look, pureK_none, pureGK_eq, reduceCtorEq, Nat.reduceEqDiff, Nat.reduceLT, gAt, List.getElem?_toArray, List.getElem?_cons_succ, List.getElem?_cons_zero, Option.bind_some, Option.isNone_none, Option.isNone_some, Bool.false_and, Bool.and_false, Bool.and_self, Bool.and_true, Bool.true_and,     gK_bool, gK_whn, mkW, pickA, beq_true, beq_false, Bool.not_false, Bool.not_true, keepA, binA, binP, binI, binS, eqP, unA, unP, isC, extractA, List.length_cons, List.length_nil, List.getD_cons_zero, List.getD_cons_succ, frzOk, frz, AV.freeL, AV.free, PV.flat, PV.flat1, List.all_cons, List.all_nil, or_true, true_or, cxP_P, cxP_N, cxP_Φ, cxP_Ψ, cxP_Θ, cxP_rows, cxP_pins, cxQ_P, cxQ_N, cxQ_Φ, cxQ_Ψ, cxQ_Θ, cxQ_rows, cxQ_pins, putΘ, putΨ, noΘ, noΨ, ev_call, ev_alloc, ev_box, ev_makeSlice, ev_store, ev_append, callK_E, callK_Q, callK_P, qV_1, ↓all_qV, psiNew_eq, aopE, newB_some, putD_some, putD, hget, hset, hdel, storeA, putL, cellsA, partC, partA, fieldAddrA, addOff, nilCheckA, fieldV, buildA, packA, fieldPlaces, fillA, appendA, allW, killR_look, killS, AV.kill, AV.killL, killH, ABlk.kill, putΦ, argL, implies_true, indexAddrA, loadA, partP, partL, PV.nth, isAggD, Int.reduceToNat, Int.toNat_zero, Int.toNat_one, Int.reduceLT, Int.reduceLE, List.drop_zero, List.take_zero, Nat.add_zero, Int.le_refl, Int.cast_ofNat_Int, not_false_eq_true, not_true_eq_false, imp_self, and_self, gt1, gt2, Bool.not_not, Bool.cond_false_right, Bool.cond_true_left, Bool.cond_false_left, Bool.cond_true_right, Nat.reduceAdd, Nat.zero_add, Fin_n, Fin_r, FinQ, tapeOk, filt, AV.refsIn, AV.refsInL, refsH, ABlk.refsIn, pvL, Option.isSome_some, Option.getD_some, Option.getD_none, FinN, resC, resV, res1, tupP, AV.one, List.set_cons_succ, List.set_cons_zero, Option.some.injEq, minmaxA, foldI, lenA, isSliceD, isStrD, isSliceOrStr, Int.toNat_natCast, ne_eq, sliceA, natOf, List.map_cons, List.map_nil, Option.map_none, Option.map_some, Option.toList, List.append_nil, List.nil_append, List.cons_append, buildSliceA, idxOk, elemOk, PV.width, PV.cells, PV.one, convP, convA, srcA, isStrV, isByteD, isU8, List.all_cons, List.all_nil, Nat.beq_eq_true_eq, beq_self_eq_true, Nat.reduceLeDiff, Nat.reduceMul]
    refine ⟨fun k1 => ⟨fun k2 => ?_, fun k2 => ?_⟩, fun k1 => ?_⟩
    · simp only [Bool.and_eq_true, decide_eq_true_eq] at k1
      have k3 : txtF d = s := by simpa using k2
      have k4 := prs_back k1.1
      rw [k3] at k4
      rw [k4]
    · simp only [Bool.and_eq_true, decide_eq_true_eq] at k1
      have k3 : ¬ txtF d = s := by simpa using k2
      refine ⟨d + 1, ⟨⟨by omega, by omega⟩, fun e e1 e2 e3 => ?_⟩, by omega, ⟨by simp [fitR, look], trivial, rfl, rfl, rfl⟩⟩
      by_cases e4 : e = d
      · rw [e4]; exact k3
      · exact g3 e e1 (by omega) e3
    · have : prsF s = (0, 4) := by
        rcases prs_cases s with h9 | ⟨x, v1, v2, _⟩
        · exact h9
        · exfalso
          have v3 := dg_txt v1
          rw [v2, ← hend] at v3
          have v4 := vld_iff.1 v1
          refine g3 x (by omega) ?_ v1 v2
          by_cases v5 : d < 360 * n + 360
          · have v6 : vld d = false := by
              cases hx : vld d with
              | false => rfl
              | true => rw [hx] at k1; simp at k1; omega
            have := vld_not.1 v6
            omega
          · omega
      rw [this]
noncomputable def Φ11 (g : FuncId) : PSpec := putΦ Φ10 32 rparseS g
theorem hΦ11 : TabSound GG Φ11 := hΦ10.put w_rparseS
end Go.AM
