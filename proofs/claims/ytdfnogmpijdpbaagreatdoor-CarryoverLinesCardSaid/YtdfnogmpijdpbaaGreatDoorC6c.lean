/-
  A part of a proof: see the last text of this claim for what is proved.
-/
import Derived.Test.YtdfnogmpijdpbaaGreatDoorC6b
/-! carryover.Lines -/
namespace Go.AM
open Go Go.Proofs Go.IntWalk
set_option maxRecDepth 100000
set_option maxHeartbeats 1000000
set_option linter.unusedSimpArgs false
set_option linter.unusedVariables false
def on_pi (p : PV → Int → Prop) (f : PV → Int → PV) : PSpec
  | [a0, .int .i64 a1] => (p a0 a1, f a0 a1)
  | _ => (False, default)
theorem on_pi_eq {p : PV → Int → Prop} {f : PV → Int → PV} {a0 : PV} {a1 : Int} : on_pi p f [a0, .int .i64 a1] = (p a0 a1, f a0 a1) := rfl
theorem on_pi_inv {p : PV → Int → Prop} {f : PV → Int → PV} {args : List PV} (h : (on_pi p f args).1) : ∃ a0 : PV, ∃ a1 : Int, args = [a0, .int .i64 a1] ∧ p a0 a1 := by
  unfold on_pi at h
  split at h
  · exact ⟨_, _, rfl, h⟩
  · exact h.elim
def ltK2 (x y : Opn) : Bool := decide (cmpC x.k y.k < 0)
theorem sortQ_map (l : List Opn) : isort ltQ (l.map opV) = (isort ltK2 l).map opV := isort_map opV (fun a b => rfl) l
/-- One commitment more, the last line first. -/
def lstep (y : Int) : List Cyl → Opn → List Cyl
  | [], x => [⟨1, 360 * y, x.k, y, x.a⟩]
  | c :: r, x => if c.k = x.k then { c with a := c.a + x.a } :: r else ⟨(r.length : Int) + 1 + 1, 360 * y, x.k, y, x.a⟩ :: c :: r
def linR (y : Int) (l : List Opn) : List Cyl := (isort ltK2 l).foldl (lstep y) []
theorem lstep_len (y : Int) (rp : List Cyl) (x : Opn) : (lstep y rp x).length ≤ rp.length + 1 := by
  cases rp with
  | nil => simp [lstep]
  | cons c r => simp only [lstep]; split <;> simp
theorem lstep_a (y : Int) {M : Int} {rp : List Cyl} {x : Opn} (h : ∀ c, c ∈ rp → 0 ≤ c.a ∧ c.a ≤ M) (hx : 0 ≤ x.a ∧ x.a ≤ 1000) (hM : 0 ≤ M) : ∀ c, c ∈ lstep y rp x → 0 ≤ c.a ∧ c.a ≤ M + 1000 := by
  intro c hc
  cases rp with
  | nil => simp only [lstep, List.mem_singleton] at hc; subst hc; simp only; omega
  | cons d r =>
    have hd := h d List.mem_cons_self
    have hr : ∀ c, c ∈ r → 0 ≤ c.a ∧ c.a ≤ M := fun c hc => h c (List.mem_cons_of_mem _ hc)
    simp only [lstep] at hc
    split at hc
    · rcases List.mem_cons.1 hc with rfl | hc
      · simp only; omega
      · have := hr c hc; omega
    · rcases List.mem_cons.1 hc with rfl | hc
      · simp only; omega
      · rcases List.mem_cons.1 hc with rfl | hc
        · omega
        · have := hr c hc; omega
theorem lfold_a (y : Int) : ∀ (l : List Opn) (rp : List Cyl) (M : Int), 0 ≤ M → (∀ c, c ∈ rp → 0 ≤ c.a ∧ c.a ≤ M) → (∀ x, x ∈ l → 0 ≤ x.a ∧ x.a ≤ 1000) → (l.foldl (lstep y) rp).length ≤ rp.length + l.length ∧ ∀ c, c ∈ l.foldl (lstep y) rp → 0 ≤ c.a ∧ c.a ≤ M + l.length * 1000
  | [], rp, M, _, hr, _ => ⟨Nat.le_refl _, fun c hc => by have := hr c hc; simp only [List.length_nil]; omega⟩
  | x :: l, rp, M, hM, hr, hl => by
    obtain ⟨i1, i2⟩ := lfold_a y l (lstep y rp x) (M + 1000) (by omega) (lstep_a y hr (hl x List.mem_cons_self) hM) (fun z hz => hl z (List.mem_cons_of_mem _ hz))
    have := lstep_len y rp x
    simp only [List.foldl_cons, List.length_cons]
    refine ⟨by omega, fun c hc => ?_⟩
    have := i2 c hc
    simp only [Int.natCast_add, Int.add_mul]; omega
noncomputable def linesS : PSpec := on_pi (fun c y => (∃ (ca : List Opn) (q r : List PV), c = .agg [.sl (ca.map opV), .sl q, .sl r] ∧ ca.length ≤ 12 ∧ ∀ x, x ∈ ca → opB x = true ∧ x.k.length ≤ 1000000000000 ∧ 0 ≤ x.a ∧ x.a ≤ 1000) ∧ 1 ≤ y ∧ y ≤ 100)
  (fun c y => match c with | .agg [.sl a, _, _] => .tup [.sl ((linR y (a.map opOf)).reverse.map cyV), .int .i64 0] | _ => default)
theorem k_linesS_20 {args : List PV} : U12 20 args = amongS args := rfl
theorem k_linesS_21 {args : List PV} : U12 21 args = cidxOS args := rfl
theorem k_linesS_22 {args : List PV} : U12 22 args = lin1S args := rfl
theorem k_linesS_25 {args : List PV} : U12 25 args = lin2S args := rfl
theorem k_linesS_27 {args : List PV} : U12 27 args = cidxCS args := rfl
theorem k_linesS_28 {args : List PV} : U12 28 args = lin3S args := rfl
theorem w_linesS : PSound GG 8 linesS := by
  refine PSound.of_wpc (C := cxQ Tryz.prog U12 noΘ Ψt3 [] [] 74) (T := plan0) Tryz.func8 rfl rfl rfl (Fit.all (G := GG) hU12 hnoΘ hΨt3 mixed) (fun args h => ?_)
  unfold linesS at h
  obtain ⟨c, y, rfl, ⟨ca, q, r, rfl, hn, hx⟩, hy1, hy2⟩ := on_pi_inv h
  refine ⟨by simp [cxQ], ?_⟩
  have a1 : amg y 1 100 = true := by unfold amg; simp only [Bool.and_eq_true, decide_eq_true_eq]; omega
  have c60 : decide ((60 : Int) < (ca.length : Int)) = false := by simp; omega
  have hB : ∀ e, e ∈ ca.map opV → isOpB e := fun e he => by obtain ⟨x, h1, rfl⟩ := List.mem_map.1 he; exact ⟨x, rfl, (hx x h1).2.1, (hx x h1).1⟩
  have hP : ∀ e, e ∈ ca.map opV → isOp e := fun e he => by obtain ⟨x, h1, rfl⟩ := List.mem_map.1 he; exact ⟨x, rfl, (hx x h1).2.1⟩
  simp only [map_opOf, a1, c60, linesS, on_pi_eq, Ψt3, Ψs4, Ψs3, Ψs2, Ψs1, psiRow_eq, psiPut_eq, all_sl, cloneQ, on_l_eq, sort2P_eq, sortQ_map, List.length_map, List.take_succ_cons, List.take_nil, k_linesS_20, amongS, on_iii_eq, k_linesS_21, cidxOS, on_lp_eq, k_linesS_22, lin1S, on_p_eq, k_linesS_25, lin2S, on_pp_eq, k_linesS_27, cidxCS, k_linesS_28, lin3S, Tryz.f8, argL, Tryz.underlying1, sz1, by1, ze1, Tryz.underlying2, sz2, by2, ze2, Tryz.underlying3, sz3, by3, ze3, Tryz.underlying4, sz4, by4, ze4, Tryz.underlying9, sz9, by9, ze9, Tryz.underlying25, sz25, by25, ze25, Tryz.underlying26, sz26, by26, ze26, Tryz.underlying28, sz28, by28, ze28, fa28_0, fa28_1, fa28_2, Tryz.underlying29, sz29, by29, ze29, Tryz.underlying34, sz34, by34, ze34, Tryz.underlying38, sz38, by38, ze38, fa38_0, fa38_1, fa38_2, fa38_3, fa38_4, Tryz.underlying48, sz48, by48, ze48, fa48_0, fa48_1, Tryz.underlying51, sz51, by51, ze51, fa51_0, fa51_1, fa51_2, fa51_3, fa51_4, Tryz.underlying53, sz53, by53, ze53, Tryz.underlying61, sz61, by61, ze61, Tryz.underlying64, sz64, by64, ze64, plan0, ev_skip, ev_seq, ev_region, ev_ret, ev_block, ev_exit, ev_loop, ev_cond, ev_scope, ev_label, condK_true, condK_false, condK_bool, isCut, Bool.false_eq_true, if_true, if_false, ↓reduceIte, false_implies, true_and, and_true, true_implies, KS_ap, KR_ap, steps_nil, stepsG_cons, thn_n, thn_e, thn_r, blk_n, blk_e, blk_r,     ev_op, ev_opG, opK_true, opK_false, isPureOp, List.contains_nil, List.contains_cons, Bool.or_false, Bool.false_or, cond_true, cond_false, aopP, callP_fn, callV_eq, mapV, allC, frzAll, frzL, opndV, ofV, ofV1, oc, ox, stripC, stripV, look_cons, upd_look, pureK_none, pureGK_eq, reduceCtorEq, Nat.reduceEqDiff, Nat.reduceLT, gAt, List.getElem?_toArray, List.getElem?_cons_succ, List.getElem?_cons_zero, Option.bind_some, Option.isNone_none, Option.isNone_some, Bool.false_and, Bool.and_false, Bool.and_self, Bool.and_true, Bool.true_and,     gK_bool, gK_whn, mkW, pickA, beq_true, beq_false, Bool.not_false, Bool.not_true, keepA, binA, binP, binI, binS, eqP, unA, unP, isC, extractA, List.length_cons, List.length_nil, List.getD_cons_zero, List.getD_cons_succ, frzOk, frz, AV.freeL, AV.free, PV.flat, PV.flat1, List.all_cons, List.all_nil, or_true, true_or, cxP_P, cxP_N, cxP_Φ, cxP_Ψ, cxP_Θ, cxP_rows, cxP_pins, cxQ_P, cxQ_N, cxQ_Φ, cxQ_Ψ, cxQ_Θ, cxQ_rows, cxQ_pins, putΘ, putΨ, noΘ, noΨ, ev_call, ev_alloc, ev_box, ev_makeSlice, ev_store, ev_append, binT_i, binT_s, binT_b, binT_ni, binT_np, binT_if, binT_pp, binT_agg, keyOk_i, keyOk_s, keyOk_b, keyOk_agg, packK_pv, packK_agg, pvL, notIn, ev_range, ev_next, rangeA, nextA, ev_makeMap, ev_mapUpdate, ev_delete, mapA, delA, lookupA, zvP, keyKind, callK_E, callK_Q, callK_P, qV_1, ↓all_qV, psiNew_eq, aopE, newB_some, putD_some, putD, hget, hset, hdel, storeA, putL, cellsA, partC, partA, fieldAddrA, addOff, nilCheckA, fieldV, buildA, packA, fieldPlaces, fillA, appendA, allW, killR_look, killS, AV.kill, AV.killL, killH, ABlk.kill, putΦ, argL, implies_true, indexAddrA, loadA, partP, partL, PV.nth, isAggD, Int.reduceToNat, Int.toNat_zero, Int.toNat_one, Int.reduceLT, Int.reduceLE, List.drop_zero, List.take_zero, Nat.add_zero, Int.le_refl, Int.cast_ofNat_Int, not_false_eq_true, not_true_eq_false, imp_self, and_self, gt1, gt2, Bool.not_not, Bool.cond_false_right, Bool.cond_true_left, Bool.cond_false_left, Bool.cond_true_right, Nat.reduceAdd, Nat.zero_add, Fin_n, Fin_r, FinQ, tapeOk, filt, AV.refsIn, AV.refsInL, refsH, ABlk.refsIn, pvL, Option.isSome_some, Option.getD_some, Option.getD_none, FinN, resC, resV, res1, tupP, AV.one, List.set_cons_succ, List.set_cons_zero, Option.some.injEq, minmaxA, foldI, lenA, isSliceD, isStrD, isSliceOrStr, Int.toNat_natCast, ne_eq, sliceA, natOf, List.map_cons, List.map_nil, Option.map_none, Option.map_some, Option.toList, List.append_nil, List.nil_append, List.cons_append, buildSliceA, idxOk, elemOk, PV.width, PV.cells, PV.one, convP, convA, srcA, isStrV, isByteD, isU8, List.all_cons, List.all_nil, Nat.beq_eq_true_eq, beq_self_eq_true, Nat.reduceLeDiff, Nat.reduceMul, ev_callG, gcallK_b, gcallK_w, callGc_true, callGc_false, List.forall_mem_cons, List.not_mem_nil, PV.one, AV.one]
  refine ⟨⟨hB, by omega⟩, ⟨opV_one, by omega⟩, ⟨hn, hP⟩, isort_length _ _, ?_⟩
  have hsr : (isort ltK2 ca).length = ca.length := isort_length _ _
  have hsx : ∀ x, x ∈ isort ltK2 ca → 0 ≤ x.a ∧ x.a ≤ 1000 := fun x h1 => (hx x ((mem_isort ltK2).1 h1)).2.2
  unfold linR
  generalize isort ltK2 ca = srt at hsr hsx ⊢
  refine AWp.adoptS (s := 7) (κ := 8000) (k := 5) (by simp [look, upd]) (by simp [hget]) (by decide) ?_
  refine AWp.loop (T := plan0) (α := Nat) (fun i => ([(1, .pv (.int .i64 y)), (7, .rs 8000 ((srt.take i).foldl (lstep y) []).length), (26, .rs 23 srt.length), (27, .pv (.int .i64 srt.length)), (28, .pv (.int .i64 i))],
      [(23, .row 5 (srt.map opV)), (8000, .row 5 (((srt.take i).foldl (lstep y) []).map cyV).reverse)])) (fun i => i ≤ srt.length) (fun i => srt.length - i)
    ⟨0, Nat.zero_le _, ⟨by simp [fitR, look, upd, hsr], by simp [fitH, hget, hset], rfl, rfl, rfl⟩⟩ ?_
  intro i hi
  have hi1 : IntKind.i64.wrap ((i : Int) + 1) = ((i + 1 : Nat) : Int) := by rw [i64_in _ (by omega)]; omega
  obtain ⟨b1, b2⟩ := lfold_a y (srt.take i) [] 0 (by omega) (fun c hc => by cases hc) (fun x h1 => hsx x (List.mem_of_mem_take h1))
  rw [List.length_take, Nat.min_eq_left hi] at b1 b2
  simp only [List.length_nil, Nat.zero_add] at b1
  by_cases hlt : i < srt.length
  · have c0 : decide ((i : Int) < (srt.length : Int)) = true := by simp; omega
    have e1 := getD_op hlt
    have hax := hsx _ (mem_getD' hlt)
    have hst : (srt.take (i + 1)).foldl (lstep y) [] = lstep y ((srt.take i).foldl (lstep y) []) (srt.getD i default) := by
      rw [take_succ' hlt, List.foldl_append]; rfl
    generalize (srt.take i).foldl (lstep y) [] = rp at b1 b2 hst ⊢
    generalize srt.getD i default = x at e1 hax hst
    obtain ⟨o, c, k, yx, a⟩ := x
    simp only [opV] at e1
    simp only at hax
    have w36 : IntKind.i64.wrap (360 * y) = 360 * y := i64_in _ (by omega)
    cases rp with
    | nil =>
      have hdef : (default : PV) = .bool false := rfl
      have hz : (binT Tryz.prog .neq 9 false (.pv (.bool false)) (.pv (.str k))).2 = .pv (.bool true) := rfl
      simp only [hdef] at e1
      have w1 : IntKind.i64.wrap (0 + 1) = 1 := by decide
      have w2 : IntKind.i64.wrap (1 - 1) = 0 := by decide
      have w3 : IntKind.i64.wrap (0 + a) = a := by rw [Int.zero_add]; exact i64_in _ (by omega)
      simp only [c0, e1, hi1, w1, w2, w3, w36, List.getD_nil, hdef, hz, List.map_nil, List.reverse_nil, boxP, putP, List.length_map, List.take_succ_cons, List.take_nil, k_linesS_20, amongS, on_iii_eq, k_linesS_21, cidxOS, on_lp_eq, k_linesS_22, lin1S, on_p_eq, k_linesS_25, lin2S, on_pp_eq, k_linesS_27, cidxCS, k_linesS_28, lin3S, Tryz.underlying1, sz1, by1, ze1, Tryz.underlying2, sz2, by2, ze2, Tryz.underlying3, sz3, by3, ze3, Tryz.underlying4, sz4, by4, ze4, Tryz.underlying9, sz9, by9, ze9, Tryz.underlying25, sz25, by25, ze25, Tryz.underlying26, sz26, by26, ze26, Tryz.underlying28, sz28, by28, ze28, fa28_0, fa28_1, fa28_2, Tryz.underlying29, sz29, by29, ze29, Tryz.underlying34, sz34, by34, ze34, Tryz.underlying38, sz38, by38, ze38, fa38_0, fa38_1, fa38_2, fa38_3, fa38_4, Tryz.underlying48, sz48, by48, ze48, fa48_0, fa48_1, Tryz.underlying51, sz51, by51, ze51, fa51_0, fa51_1, fa51_2, fa51_3, fa51_4, Tryz.underlying53, sz53, by53, ze53, Tryz.underlying61, sz61, by61, ze61, Tryz.underlying64, sz64, by64, ze64, plan0, ev_skip, ev_seq, ev_region, ev_ret, ev_block, ev_exit, ev_loop, ev_cond, ev_scope, ev_label, condK_true, condK_false, condK_bool, isCut, Bool.false_eq_true, if_true, if_false, ↓reduceIte, false_implies, true_and, and_true, true_implies, KS_ap, KR_ap, steps_nil, stepsG_cons, thn_n, thn_e, thn_r, blk_n, blk_e, blk_r,     ev_op, ev_opG, opK_true, opK_false, isPureOp, List.contains_nil, List.contains_cons, Bool.or_false, Bool.false_or, cond_true, cond_false, aopP, callP_fn, callV_eq, mapV, allC, frzAll, frzL, opndV, ofV, ofV1, oc, ox, stripC, stripV, look_cons, upd_look, pureK_none, pureGK_eq, reduceCtorEq, Nat.reduceEqDiff, Nat.reduceLT, gAt, List.getElem?_toArray, List.getElem?_cons_succ, List.getElem?_cons_zero, Option.bind_some, Option.isNone_none, Option.isNone_some, Bool.false_and, Bool.and_false, Bool.and_self, Bool.and_true, Bool.true_and,     gK_bool, gK_whn, mkW, pickA, beq_true, beq_false, Bool.not_false, Bool.not_true, keepA, binA, binP, binI, binS, eqP, unA, unP, isC, extractA, List.length_cons, List.length_nil, List.getD_cons_zero, List.getD_cons_succ, frzOk, frz, AV.freeL, AV.free, PV.flat, PV.flat1, List.all_cons, List.all_nil, or_true, true_or, cxP_P, cxP_N, cxP_Φ, cxP_Ψ, cxP_Θ, cxP_rows, cxP_pins, cxQ_P, cxQ_N, cxQ_Φ, cxQ_Ψ, cxQ_Θ, cxQ_rows, cxQ_pins, putΘ, putΨ, noΘ, noΨ, ev_call, ev_alloc, ev_box, ev_makeSlice, ev_store, ev_append, binT_i, binT_s, binT_b, binT_ni, binT_np, binT_if, binT_pp, binT_agg, keyOk_i, keyOk_s, keyOk_b, keyOk_agg, packK_pv, packK_agg, pvL, notIn, ev_range, ev_next, rangeA, nextA, ev_makeMap, ev_mapUpdate, ev_delete, mapA, delA, lookupA, zvP, keyKind, callK_E, callK_Q, callK_P, qV_1, ↓all_qV, psiNew_eq, aopE, newB_some, putD_some, putD, hget, hset, hdel, storeA, putL, cellsA, partC, partA, fieldAddrA, addOff, nilCheckA, fieldV, buildA, packA, fieldPlaces, fillA, appendA, allW, killR_look, killS, AV.kill, AV.killL, killH, ABlk.kill, putΦ, argL, implies_true, indexAddrA, loadA, partP, partL, PV.nth, isAggD, Int.reduceToNat, Int.toNat_zero, Int.toNat_one, Int.reduceLT, Int.reduceLE, List.drop_zero, List.take_zero, Nat.add_zero, Int.le_refl, Int.cast_ofNat_Int, not_false_eq_true, not_true_eq_false, imp_self, and_self, gt1, gt2, Bool.not_not, Bool.cond_false_right, Bool.cond_true_left, Bool.cond_false_left, Bool.cond_true_right, Nat.reduceAdd, Nat.zero_add, Fin_n, Fin_r, FinQ, tapeOk, filt, AV.refsIn, AV.refsInL, refsH, ABlk.refsIn, pvL, Option.isSome_some, Option.getD_some, Option.getD_none, FinN, resC, resV, res1, tupP, AV.one, List.set_cons_succ, List.set_cons_zero, Option.some.injEq, minmaxA, foldI, lenA, isSliceD, isStrD, isSliceOrStr, Int.toNat_natCast, ne_eq, sliceA, natOf, List.map_cons, List.map_nil, Option.map_none, Option.map_some, Option.toList, List.append_nil, List.nil_append, List.cons_append, buildSliceA, idxOk, elemOk, PV.width, PV.cells, PV.one, convP, convA, srcA, isStrV, isByteD, isU8, List.all_cons, List.all_nil, Nat.beq_eq_true_eq, beq_self_eq_true, Nat.reduceLeDiff, Nat.reduceMul, ev_callG, gcallK_b, gcallK_w, callGc_true, callGc_false, List.forall_mem_cons, List.not_mem_nil, PV.one, AV.one]
      exact ⟨⟨by omega, by omega⟩, hlt, by kernel_rfl, rfl, by simp only [maxLen]; omega, by kernel_rfl, i + 1, by omega, by omega, ⟨by simp [fitR, look, hst, lstep], by rw [hst]; simp [fitH, hget, cyV, lstep], rfl, rfl, rfl⟩⟩
    | cons d r =>
      obtain ⟨n0, d0, k0, y0, a0⟩ := d
      have hd := b2 _ List.mem_cons_self
      simp only at hd
      simp only [List.length_cons] at b1
      have w1 : IntKind.i64.wrap (((r.length + 1 : Nat) : Int) - 1) = (r.length : Int) := by rw [i64_in _ (by omega)]; omega
      have w0 : (((r.length + 1 : Nat) : Int) == 0) = false := by simp; omega
      have w2 : IntKind.i64.wrap (((r.length + 1 : Nat) : Int) + 1) = (r.length : Int) + 1 + 1 := by rw [i64_in _ (by omega)]; omega
      have w4 : IntKind.i64.wrap (((r.length + 1 + 1 : Nat) : Int) - 1) = ((r.length + 1 : Nat) : Int) := by rw [i64_in _ (by omega)]; omega
      have w3 : IntKind.i64.wrap (0 + a) = a := by rw [Int.zero_add]; exact i64_in _ (by omega)
      have w5 : IntKind.i64.wrap (a0 + a) = a0 + a := i64_in _ (by omega)
      have hR : ((⟨n0, d0, k0, y0, a0⟩ :: r).map cyV).reverse = (r.map cyV).reverse ++ [cyV ⟨n0, d0, k0, y0, a0⟩] := by simp
      have e3 : ((r.map cyV).reverse ++ [cyV ⟨n0, d0, k0, y0, a0⟩]).getD r.length default = cyV ⟨n0, d0, k0, y0, a0⟩ := by
        have := getD_snoc1 (q := r.map cyV) (y := cyV ⟨n0, d0, k0, y0, a0⟩) (t := []); rwa [List.length_map] at this
      have e4 : ∀ v, ((r.map cyV).reverse ++ [cyV ⟨n0, d0, k0, y0, a0⟩]).set r.length v = (r.map cyV).reverse ++ [v] := fun v => by
        rw [List.set_append, if_neg (by simp)]; simp
      have hRl : ((r.map cyV).reverse ++ [cyV ⟨n0, d0, k0, y0, a0⟩]).length = r.length + 1 := by simp
      have e5 : ∀ v, ((r.map cyV).reverse ++ [cyV ⟨n0, d0, k0, y0, a0⟩] ++ [v]).getD (r.length + 1) default = v := fun v => by
        simp [List.getD_eq_getElem?_getD, List.getElem?_append]
      have e6 : ∀ u v, ((r.map cyV).reverse ++ [cyV ⟨n0, d0, k0, y0, a0⟩] ++ [u]).set (r.length + 1) v = (r.map cyV).reverse ++ [cyV ⟨n0, d0, k0, y0, a0⟩] ++ [v] := fun u v => by
        rw [List.set_append, if_neg (by simp)]; simp
      rw [hR]
      generalize hRe : (r.map cyV).reverse ++ [cyV ⟨n0, d0, k0, y0, a0⟩] = R at e3 e4 hRl e5 e6 ⊢
      have tk : R.take (r.length + 1) = R := List.take_of_length_le (by omega)
      simp only [cyV] at e3
      simp only [c0, e1, e3, e4, e5, e6, tk, hi1, w0, w1, w2, w3, w4, w5, w36, boxP, putP, List.length_map, List.take_succ_cons, List.take_nil, k_linesS_20, amongS, on_iii_eq, k_linesS_21, cidxOS, on_lp_eq, k_linesS_22, lin1S, on_p_eq, k_linesS_25, lin2S, on_pp_eq, k_linesS_27, cidxCS, k_linesS_28, lin3S, Tryz.underlying1, sz1, by1, ze1, Tryz.underlying2, sz2, by2, ze2, Tryz.underlying3, sz3, by3, ze3, Tryz.underlying4, sz4, by4, ze4, Tryz.underlying9, sz9, by9, ze9, Tryz.underlying25, sz25, by25, ze25, Tryz.underlying26, sz26, by26, ze26, Tryz.underlying28, sz28, by28, ze28, fa28_0, fa28_1, fa28_2, Tryz.underlying29, sz29, by29, ze29, Tryz.underlying34, sz34, by34, ze34, Tryz.underlying38, sz38, by38, ze38, fa38_0, fa38_1, fa38_2, fa38_3, fa38_4, Tryz.underlying48, sz48, by48, ze48, fa48_0, fa48_1, Tryz.underlying51, sz51, by51, ze51, fa51_0, fa51_1, fa51_2, fa51_3, fa51_4, Tryz.underlying53, sz53, by53, ze53, Tryz.underlying61, sz61, by61, ze61, Tryz.underlying64, sz64, by64, ze64, plan0, ev_skip, ev_seq, ev_region, ev_ret, ev_block, ev_exit, ev_loop, ev_cond, ev_scope, ev_label, condK_true, condK_false, condK_bool, isCut, Bool.false_eq_true, if_true, if_false, ↓reduceIte, false_implies, true_and, and_true, true_implies, KS_ap, KR_ap, steps_nil, stepsG_cons, thn_n, thn_e, thn_r, blk_n, blk_e, blk_r,     ev_op, ev_opG, opK_true, opK_false, isPureOp, List.contains_nil, List.contains_cons, Bool.or_false, Bool.false_or, cond_true, cond_false, aopP, callP_fn, callV_eq, mapV, allC, frzAll, frzL, opndV, ofV, ofV1, oc, ox, stripC, stripV, look_cons, upd_look, pureK_none, pureGK_eq, reduceCtorEq, Nat.reduceEqDiff, Nat.reduceLT, gAt, List.getElem?_toArray, List.getElem?_cons_succ, List.getElem?_cons_zero, Option.bind_some, Option.isNone_none, Option.isNone_some, Bool.false_and, Bool.and_false, Bool.and_self, Bool.and_true, Bool.true_and,     gK_bool, gK_whn, mkW, pickA, beq_true, beq_false, Bool.not_false, Bool.not_true, keepA, binA, binP, binI, binS, eqP, unA, unP, isC, extractA, List.length_cons, List.length_nil, List.getD_cons_zero, List.getD_cons_succ, frzOk, frz, AV.freeL, AV.free, PV.flat, PV.flat1, List.all_cons, List.all_nil, or_true, true_or, cxP_P, cxP_N, cxP_Φ, cxP_Ψ, cxP_Θ, cxP_rows, cxP_pins, cxQ_P, cxQ_N, cxQ_Φ, cxQ_Ψ, cxQ_Θ, cxQ_rows, cxQ_pins, putΘ, putΨ, noΘ, noΨ, ev_call, ev_alloc, ev_box, ev_makeSlice, ev_store, ev_append, binT_i, binT_s, binT_b, binT_ni, binT_np, binT_if, binT_pp, binT_agg, keyOk_i, keyOk_s, keyOk_b, keyOk_agg, packK_pv, packK_agg, pvL, notIn, ev_range, ev_next, rangeA, nextA, ev_makeMap, ev_mapUpdate, ev_delete, mapA, delA, lookupA, zvP, keyKind, callK_E, callK_Q, callK_P, qV_1, ↓all_qV, psiNew_eq, aopE, newB_some, putD_some, putD, hget, hset, hdel, storeA, putL, cellsA, partC, partA, fieldAddrA, addOff, nilCheckA, fieldV, buildA, packA, fieldPlaces, fillA, appendA, allW, killR_look, killS, AV.kill, AV.killL, killH, ABlk.kill, putΦ, argL, implies_true, indexAddrA, loadA, partP, partL, PV.nth, isAggD, Int.reduceToNat, Int.toNat_zero, Int.toNat_one, Int.reduceLT, Int.reduceLE, List.drop_zero, List.take_zero, Nat.add_zero, Int.le_refl, Int.cast_ofNat_Int, not_false_eq_true, not_true_eq_false, imp_self, and_self, gt1, gt2, Bool.not_not, Bool.cond_false_right, Bool.cond_true_left, Bool.cond_false_left, Bool.cond_true_right, Nat.reduceAdd, Nat.zero_add, Fin_n, Fin_r, FinQ, tapeOk, filt, AV.refsIn, AV.refsInL, refsH, ABlk.refsIn, pvL, Option.isSome_some, Option.getD_some, Option.getD_none, FinN, resC, resV, res1, tupP, AV.one, List.set_cons_succ, List.set_cons_zero, Option.some.injEq, minmaxA, foldI, lenA, isSliceD, isStrD, isSliceOrStr, Int.toNat_natCast, ne_eq, sliceA, natOf, List.map_cons, List.map_nil, Option.map_none, Option.map_some, Option.toList, List.append_nil, List.nil_append, List.cons_append, buildSliceA, idxOk, elemOk, PV.width, PV.cells, PV.one, convP, convA, srcA, isStrV, isByteD, isU8, List.all_cons, List.all_nil, Nat.beq_eq_true_eq, beq_self_eq_true, Nat.reduceLeDiff, Nat.reduceMul, ev_callG, gcallK_b, gcallK_w, callGc_true, callGc_false, List.forall_mem_cons, List.not_mem_nil, PV.one, AV.one]
      and_intros
      all_goals try first | (show checkD _ _ _ = true; kernel_rfl) | omega | (intros; omega) | rfl | trivial | assumption
      · intro h9
        have hk : ¬ k0 = k := by simpa using h9
        refine ⟨rfl, by omega, by omega, by simp only [maxLen]; omega, by kernel_rfl, ⟨by omega, by omega⟩, by simp; omega, ⟨by omega, by omega⟩, by simp; omega, i + 1, by omega, by omega, ⟨by simp [fitR, look, hst, lstep, hk], ?_, rfl, rfl, rfl⟩⟩
        rw [hst, lstep, if_neg hk, ← hRe]
        simp [fitH, hget, cyV]
      · intro h9
        have hk : k0 = k := by simpa using h9
        refine ⟨by kernel_rfl, ⟨by omega, by omega⟩, by omega, ⟨by omega, by omega⟩, by omega, i + 1, by omega, by omega, ⟨by simp [fitR, look, hst, lstep, hk], ?_, rfl, rfl, rfl⟩⟩
        rw [hst, lstep, if_pos hk]
        simp [fitH, hget, cyV]
  · have c0 : decide ((i : Int) < (srt.length : Int)) = false := by simp; omega
    rw [List.take_of_length_le (by omega)] at b1 b2 ⊢
    generalize srt.foldl (lstep y) [] = rp at b1 b2 ⊢
    have hC : ∀ e, e ∈ (rp.map cyV).reverse → isCyB e := by
      intro e he
      obtain ⟨c, h1, rfl⟩ := List.mem_map.1 (List.mem_reverse.1 he)
      refine ⟨c, rfl, ?_⟩
      have := b2 c h1
      have : (i : Int) * 1000 ≤ 12 * 1000 := by omega
      unfold vldM; simp only [Bool.and_eq_true, decide_eq_true_eq]; omega
    have tk : (rp.map cyV).reverse.take rp.length = (rp.map cyV).reverse := List.take_of_length_le (by simp)
    simp only [c0, tk, Ψt3, Ψs4, Ψs3, Ψs2, Ψs1, List.length_map, k_linesS_20, amongS, on_iii_eq, k_linesS_21, cidxOS, on_lp_eq, k_linesS_22, lin1S, on_p_eq, k_linesS_25, lin2S, on_pp_eq, k_linesS_27, cidxCS, k_linesS_28, lin3S, Tryz.underlying1, sz1, by1, ze1, Tryz.underlying2, sz2, by2, ze2, Tryz.underlying3, sz3, by3, ze3, Tryz.underlying4, sz4, by4, ze4, Tryz.underlying9, sz9, by9, ze9, Tryz.underlying25, sz25, by25, ze25, Tryz.underlying26, sz26, by26, ze26, Tryz.underlying28, sz28, by28, ze28, fa28_0, fa28_1, fa28_2, Tryz.underlying29, sz29, by29, ze29, Tryz.underlying34, sz34, by34, ze34, Tryz.underlying38, sz38, by38, ze38, fa38_0, fa38_1, fa38_2, fa38_3, fa38_4, Tryz.underlying48, sz48, by48, ze48, fa48_0, fa48_1, Tryz.underlying51, sz51, by51, ze51, fa51_0, fa51_1, fa51_2, fa51_3, fa51_4, Tryz.underlying53, sz53, by53, ze53, Tryz.underlying61, sz61, by61, ze61, Tryz.underlying64, sz64, by64, ze64, plan0, ev_skip, ev_seq, ev_region, ev_ret, ev_block, ev_exit, ev_loop, ev_cond, ev_scope, ev_label, condK_true, condK_false, condK_bool, isCut, Bool.false_eq_true, if_true, if_false, ↓reduceIte, false_implies, true_and, and_true, true_implies, KS_ap, KR_ap, steps_nil, stepsG_cons, thn_n, thn_e, thn_r, blk_n, blk_e, blk_r,     ev_op, ev_opG, opK_true, opK_false, isPureOp, List.contains_nil, List.contains_cons, Bool.or_false, Bool.false_or, cond_true, cond_false, aopP, callP_fn, callV_eq, mapV, allC, frzAll, frzL, opndV, ofV, ofV1, oc, ox, stripC, stripV, look_cons, upd_look, pureK_none, pureGK_eq, reduceCtorEq, Nat.reduceEqDiff, Nat.reduceLT, gAt, List.getElem?_toArray, List.getElem?_cons_succ, List.getElem?_cons_zero, Option.bind_some, Option.isNone_none, Option.isNone_some, Bool.false_and, Bool.and_false, Bool.and_self, Bool.and_true, Bool.true_and,     gK_bool, gK_whn, mkW, pickA, beq_true, beq_false, Bool.not_false, Bool.not_true, keepA, binA, binP, binI, binS, eqP, unA, unP, isC, extractA, List.length_cons, List.length_nil, List.getD_cons_zero, List.getD_cons_succ, frzOk, frz, AV.freeL, AV.free, PV.flat, PV.flat1, List.all_cons, List.all_nil, or_true, true_or, cxP_P, cxP_N, cxP_Φ, cxP_Ψ, cxP_Θ, cxP_rows, cxP_pins, cxQ_P, cxQ_N, cxQ_Φ, cxQ_Ψ, cxQ_Θ, cxQ_rows, cxQ_pins, putΘ, putΨ, noΘ, noΨ, ev_call, ev_alloc, ev_box, ev_makeSlice, ev_store, ev_append, binT_i, binT_s, binT_b, binT_ni, binT_np, binT_if, binT_pp, binT_agg, keyOk_i, keyOk_s, keyOk_b, keyOk_agg, packK_pv, packK_agg, pvL, notIn, ev_range, ev_next, rangeA, nextA, ev_makeMap, ev_mapUpdate, ev_delete, mapA, delA, lookupA, zvP, keyKind, callK_E, callK_Q, callK_P, qV_1, ↓all_qV, psiNew_eq, aopE, newB_some, putD_some, putD, hget, hset, hdel, storeA, putL, cellsA, partC, partA, fieldAddrA, addOff, nilCheckA, fieldV, buildA, packA, fieldPlaces, fillA, appendA, allW, killR_look, killS, AV.kill, AV.killL, killH, ABlk.kill, putΦ, argL, implies_true, indexAddrA, loadA, partP, partL, PV.nth, isAggD, Int.reduceToNat, Int.toNat_zero, Int.toNat_one, Int.reduceLT, Int.reduceLE, List.drop_zero, List.take_zero, Nat.add_zero, Int.le_refl, Int.cast_ofNat_Int, not_false_eq_true, not_true_eq_false, imp_self, and_self, gt1, gt2, Bool.not_not, Bool.cond_false_right, Bool.cond_true_left, Bool.cond_false_left, Bool.cond_true_right, Nat.reduceAdd, Nat.zero_add, Fin_n, Fin_r, FinQ, tapeOk, filt, AV.refsIn, AV.refsInL, refsH, ABlk.refsIn, pvL, Option.isSome_some, Option.getD_some, Option.getD_none, FinN, resC, resV, res1, tupP, AV.one, List.set_cons_succ, List.set_cons_zero, Option.some.injEq, minmaxA, foldI, lenA, isSliceD, isStrD, isSliceOrStr, Int.toNat_natCast, ne_eq, sliceA, natOf, List.map_cons, List.map_nil, Option.map_none, Option.map_some, Option.toList, List.append_nil, List.nil_append, List.cons_append, buildSliceA, idxOk, elemOk, PV.width, PV.cells, PV.one, convP, convA, srcA, isStrV, isByteD, isU8, List.all_cons, List.all_nil, Nat.beq_eq_true_eq, beq_self_eq_true, Nat.reduceLeDiff, Nat.reduceMul, ev_callG, gcallK_b, gcallK_w, callGc_true, callGc_false, List.forall_mem_cons, List.not_mem_nil, PV.one, AV.one]
    exact ⟨⟨by simp, hC, by simp; omega⟩, by simp, by rw [List.map_reverse]⟩
noncomputable def U13 (g : FuncId) : PSpec := (putΦ (putΦ U12 8 linesS) 31 rPartsS) g
theorem hU13 : TabSound GG U13 := ((hU12.put w_linesS).put w_rPartsS)
end Go.AM
