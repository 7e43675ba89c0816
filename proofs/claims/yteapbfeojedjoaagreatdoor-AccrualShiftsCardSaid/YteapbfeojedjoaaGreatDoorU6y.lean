/-
  A part of a proof: see the last text of this claim for what is proved.
-/
import Derived.Test.YteapbfeojedjoaaGreatDoorU6x
import Derived.Test.YteapbfeojedjoaaGreatDoorZMa
import Derived.Test.YteapbfeojedjoaaGreatDoorU5x
namespace Go.AM
open Go Go.Proofs Go.IntWalk
set_option maxRecDepth 100000
set_option maxHeartbeats 4000000
set_option linter.unusedSimpArgs false
set_option linter.unusedVariables false
def z5 : List Int := [0, 0, 0, 0, 0]
def stmF (l : List Pst) (en fr to : Int) : List Int × Int :=
  bif lkF l != 0 then (z5, lkF l) else bif !amg en 0 10 then (z5, 89) else bif !amg fr 0 to || decide (36000 < to) then (z5, 2) else (stmL l en fr to, 0)
noncomputable def stmS : PSpec := on_piii (fun e _ _ _ => isLg e) (fun e en fr to => .tup [.agg (arrP (stmF (lgOf e) en fr to).1), .int .i64 (stmF (lgOf e) en fr to).2])
theorem arrP5 {a b c d e : Int} : arrP [a, b, c, d, e] = [.int .i64 a, .int .i64 b, .int .i64 c, .int .i64 d, .int .i64 e] := rfl
theorem arrV5 {a b c d e : Int} : arrV [a, b, c, d, e] = [.pv (.int .i64 a), .pv (.int .i64 b), .pv (.int .i64 c), .pv (.int .i64 d), .pv (.int .i64 e)] := rfl
theorem k_stmS_36 {args : List PV} : AM 36 args = lchkS args := rfl
theorem k_stmS_57 {args : List PV} : AM 57 args = lamS args := rfl
theorem k_stmS_58 {args : List PV} : AM 58 args = smsS args := rfl
theorem w_stmS : PSound GG 40 stmS := by
  refine PSound.of_wpc (C := cxP Tryz.prog AM [] 38) (T := plan0) Tryz.func40 rfl rfl rfl (Fit.pure (G := GG) hAM mixed) (fun args h => ?_)
  unfold stmS at h
  obtain ⟨e, en, fr, to, rfl, hp⟩ := on_piii_inv h
  refine ⟨by simp [cxP], ?_⟩
  simp only [stmS, on_piii_eq, Tryz.f40, argL, plan0]
  obtain ⟨l, rfl, hl⟩ := hp
  simp only [lgV, lgOf_agg, map_psOf, List.length_map, Φ0_eq, dflt, loadC_eq, lstOf_sl, arrP_len, arrP_av, arrV_len, k_stmS_36, lchkS, on_p_eq, k_stmS_57, lamS, on_iii_eq, k_stmS_58, smsS, on_piii_eq, List.take_succ_cons, List.take_nil, Tryz.underlying3, sz3, by3, ze3, Tryz.underlying4, sz4, by4, ze4, Tryz.underlying25, sz25, by25, ze25, Tryz.underlying27, sz27, by27, ze27, fa27_0, Tryz.underlying33, sz33, by33, ze33, Tryz.underlying57, sz57, by57, ze57, fa57_0, fa57_1, fa57_2, fa57_3, fa57_4, fa57_5, fa57_6, fa57_7, Tryz.underlying78, sz78, by78, ze78, fa78_0, fa78_1, fa78_2, fa78_3, fa78_4, go_sem, ↓reduceIte, reduceCtorEq, Nat.reduceEqDiff, Nat.reduceLT, ↓all_qV, Int.reduceToNat, Int.reduceLT, Int.reduceLE, Nat.reduceAdd, Nat.reduceLeDiff, Nat.reduceMul, ev_callG, gcallK_b, gcallK_w, callGc_true, callGc_false]
  refine ⟨⟨okL1, l, rfl, hl⟩, fun h1 => ⟨okP5, by unfold stmF; rw [h1]; rfl⟩, fun h1 => ⟨fun h2 => ⟨okP5, by unfold stmF; rw [h1, h2]; rfl⟩, fun h2 => ⟨fun h => by simpa using h, fun h3 => ⟨okP5, by unfold stmF; rw [h1, h2, h3]; rfl⟩, fun h3 => ?_⟩⟩⟩
  have h0 : lkF l = 0 := by simpa using h1
  obtain ⟨g1, g2, _⟩ := lkF_ok h0
  have hr : amg fr 0 to = true ∧ to ≤ 36000 := by simpa using h3
  have hr1 : 0 ≤ fr ∧ fr ≤ to := by simpa [amg] using hr.1
  have hs : stmF l en fr to = (stmL l en fr to, 0) := by unfold stmF; rw [h1, h2, h3]; rfl
  rw [hs]
  exact ⟨⟨⟨l, rfl, g2, g1⟩, by omega, by omega⟩, rfl, arrV_one, ⟨Nat.le_refl 5, okP5⟩, rfl⟩
noncomputable def AN (g : FuncId) : PSpec := (putΦ AM 40 stmS) g
theorem hAN : TabSound GG AN := (hAM.put w_stmS)
def resF (l : List Pst) (en year : Int) : Int × Int :=
  bif lkF l != 0 then (0, lkF l) else bif !amg en 0 10 then (0, 89) else bif !amg year 0 99 then (0, 2) else (-cbal en (360 * year) (360 * year + 359) 4 l - cbal en (360 * year) (360 * year + 359) 5 l, 0)
noncomputable def resS : PSpec := on_pii (fun e _ _ => isLg e) (fun e en y => .tup [.int .i64 (resF (lgOf e) en y).1, .int .i64 (resF (lgOf e) en y).2])
theorem AN_among {args : List PV} : AN 28 args = amongS args := rfl
theorem stm_cases {l : List Pst} {en fr to : Int} (h1 : amg fr 0 to = true) (h2 : to ≤ 36000) : ∃ a b c d e er, stmF l en fr to = ([a, b, c, d, e], er) ∧ (er = 0 → (d - e = -cbal en fr to 4 l - cbal en fr to 5 l ∧ -1000000000000000 ≤ d ∧ d ≤ 1000000000000000 ∧ -1000000000000000 ≤ e ∧ e ≤ 1000000000000000)) ∧ er = (bif lkF l != 0 then lkF l else bif !amg en 0 10 then 89 else 0) := by
  unfold stmF
  have h3 : decide (36000 < to) = false := decide_eq_false (by omega)
  rw [h1, h3]
  cases q1 : lkF l != 0 with
  | true => exact ⟨0, 0, 0, 0, 0, lkF l, rfl, fun e => (by rw [e] at q1; cases q1), rfl⟩
  | false =>
    cases q2 : !amg en 0 10 with
    | true => exact ⟨0, 0, 0, 0, 0, 89, rfl, fun e => (by cases e), rfl⟩
    | false =>
      obtain ⟨g1, g2, _⟩ := lkF_ok (by simpa using q1 : lkF l = 0)
      have b4 := cbal_le en fr to 4 l g2
      have b5 := cbal_le en fr to 5 l g2
      exact ⟨_, _, _, _, _, 0, rfl, fun _ => ⟨rfl, by omega, by omega, by omega, by omega⟩, rfl⟩
theorem k_resS_40 {args : List PV} : AN 40 args = stmS args := rfl
theorem w_resS : PSound GG 19 resS := by
  refine PSound.of_wpc (C := cxP Tryz.prog AN [] 38) (T := plan0) Tryz.func19 rfl rfl rfl (Fit.pure (G := GG) hAN mixed) (fun args h => ?_)
  unfold resS at h
  obtain ⟨e, en, y, rfl, hp⟩ := on_pii_inv h
  refine ⟨by simp [cxP], ?_⟩
  simp only [resS, on_pii_eq, Tryz.f19, argL, plan0]
  obtain ⟨l, rfl, hl⟩ := hp
  by_cases hy : 0 ≤ y ∧ y ≤ 99
  · have hya : amg y 0 99 = true := by unfold amg; simp; omega
    have w1 : IntKind.i64.wrap (360 * y) = 360 * y := i64_in _ (by omega)
    have w2 : IntKind.i64.wrap (360 * y + 359) = 360 * y + 359 := i64_in _ (by omega)
    obtain ⟨a, b, c, d, e, er, hst, hv, her⟩ := stm_cases (l := l) (en := en) (fr := 360 * y) (to := 360 * y + 359) (by unfold amg; simp; omega) (by omega)
    have hr : resF l en y = bif er != 0 then (0, er) else (-cbal en (360 * y) (360 * y + 359) 4 l - cbal en (360 * y) (360 * y + 359) 5 l, 0) := by
      unfold resF
      rw [her, hya]
      cases q1 : lkF l != 0 with
      | true => simp only [cond_true, q1]
      | false =>
        cases q2 : !amg en 0 10 <;> rfl
    simp only [hya, w1, w2, hst, lgV, lgOf_agg, map_psOf, List.length_map, Φ0_eq, dflt, AN_among, amongS, on_iii_eq, arrP5, List.map_cons, List.map_nil, loadC_eq, k_resS_40, stmS, on_piii_eq, List.take_succ_cons, List.take_nil, Tryz.underlying1, sz1, by1, ze1, Tryz.underlying3, sz3, by3, ze3, Tryz.underlying4, sz4, by4, ze4, Tryz.underlying25, sz25, by25, ze25, Tryz.underlying27, sz27, by27, ze27, fa27_0, Tryz.underlying33, sz33, by33, ze33, Tryz.underlying57, sz57, by57, ze57, fa57_0, fa57_1, fa57_2, fa57_3, fa57_4, fa57_5, fa57_6, fa57_7, Tryz.underlying78, sz78, by78, ze78, fa78_0, fa78_1, fa78_2, fa78_3, fa78_4, Tryz.underlying79, sz79, by79, ze79, go_sem, ↓reduceIte, reduceCtorEq, Nat.reduceEqDiff, Nat.reduceLT, ↓all_qV, Int.reduceToNat, Int.reduceLT, Int.reduceLE, Nat.reduceAdd, Nat.reduceLeDiff, Nat.reduceMul, ev_callG, gcallK_b, gcallK_w, callGc_true, callGc_false]
    rw [hr]
    refine ⟨⟨okL1, l, rfl, hl⟩, fun h1 => by rw [h1]; rfl, fun h1 => ?_⟩
    have e0 : er = 0 := by simpa using h1
    obtain ⟨v1, v2⟩ := hv e0
    rw [h1, i64_in _ (by omega), v1]; rfl
  · have hya : amg y 0 99 = false := by unfold amg; simp; omega
    obtain ⟨a, b, c, d, e, er, hst, hv, her⟩ := stm_cases (l := l) (en := en) (fr := 0) (to := 359) rfl (by omega)
    have hr : resF l en y = bif er != 0 then (0, er) else (0, 2) := by
      unfold resF
      rw [her, hya]
      cases q1 : lkF l != 0 with
      | true => simp only [cond_true, q1]
      | false =>
        cases q2 : !amg en 0 10 <;> rfl
    have w3 : IntKind.i64.wrap (0 + 359) = 359 := by decide
    simp only [hya, w3, hst, lgV, lgOf_agg, map_psOf, List.length_map, Φ0_eq, dflt, AN_among, amongS, on_iii_eq, arrP5, List.map_cons, List.map_nil, loadC_eq, k_resS_40, stmS, on_piii_eq, List.take_succ_cons, List.take_nil, Tryz.underlying1, sz1, by1, ze1, Tryz.underlying3, sz3, by3, ze3, Tryz.underlying4, sz4, by4, ze4, Tryz.underlying25, sz25, by25, ze25, Tryz.underlying27, sz27, by27, ze27, fa27_0, Tryz.underlying33, sz33, by33, ze33, Tryz.underlying57, sz57, by57, ze57, fa57_0, fa57_1, fa57_2, fa57_3, fa57_4, fa57_5, fa57_6, fa57_7, Tryz.underlying78, sz78, by78, ze78, fa78_0, fa78_1, fa78_2, fa78_3, fa78_4, Tryz.underlying79, sz79, by79, ze79, go_sem, ↓reduceIte, reduceCtorEq, Nat.reduceEqDiff, Nat.reduceLT, ↓all_qV, Int.reduceToNat, Int.reduceLT, Int.reduceLE, Nat.reduceAdd, Nat.reduceLeDiff, Nat.reduceMul, ev_callG, gcallK_b, gcallK_w, callGc_true, callGc_false]
    rw [hr]
    exact ⟨⟨okL1, l, rfl, hl⟩, fun h1 => by rw [h1]; rfl, fun h1 => by rw [h1]; rfl⟩
noncomputable def AO (g : FuncId) : PSpec := (putΦ AN 19 resS) g
theorem hAO : TabSound GG AO := (hAN.put w_resS)
end Go.AM
namespace Go.AM
open Go Go.Proofs Go.IntWalk
set_option maxRecDepth 100000
set_option maxHeartbeats 1000000
set_option linter.unusedSimpArgs false
set_option linter.unusedVariables false
def signC (c db cr am : Int) : Int := (bif clsI db == c then am else 0) - (bif clsI cr == c then am else 0)
theorem signC_neg {c db cr am : Int} : signC c cr db (-am) = signC c db cr am := by
  unfold signC
  cases clsI db == c <;> cases clsI cr == c <;> simp
theorem cbal_postL {e fr to c n en day db cr am re : Int} : cbal e fr to c (postL n en day db cr am re) = bif ((e == 0 || en == e) && amg day fr to) then signC c db cr am else 0 := by
  unfold postL
  by_cases h1 : am < 0
  · rw [show decide (am < 0) = true from decide_eq_true h1]
    simp only [cond_true, cbal, cntB, Int.add_zero]
    rw [← signC_neg]
    rfl
  · rw [show decide (am < 0) = false from decide_eq_false h1]
    by_cases h2 : 0 < am
    · rw [show decide (0 < am) = true from decide_eq_true h2]
      simp only [cond_true, cond_false, cbal, cntB, Int.add_zero]
      rfl
    · rw [show decide (0 < am) = false from decide_eq_false h2]
      have : am = 0 := by omega
      subst this
      simp only [cond_false, cbal, signC]
      cases ((e == 0 || en == e) && amg day fr to) <;> simp
theorem cbal_addP {e fr to c n en day db cr am re : Int} {o : List Pst} : cbal e fr to c (addP n en day db cr am re o) = cbal e fr to c o + bif ((e == 0 || en == e) && amg day fr to) then signC c db cr am else 0 := by
  unfold addP; rw [cbal_app, cbal_postL]
theorem cbal_outA {e fr to c en day : Int} {l : List Pst} {k : Clo} : cbal e fr to c (outA l en day k) = bif ((e == 0 || en == e) && amg day fr to) then
    signC c 520 220 k.i + signC c 510 210 k.u + signC c 130 510 k.p + signC c 120 420 (sumI (k.cl.map openF) - accOf l en 120 day) + signC c 119 530 (-(provF k.cl day).1 - accOf l en 119 day) else 0 := by
  unfold outA
  simp only [cbal_addP, cbal]
  cases ((e == 0 || en == e) && amg day fr to) with
  | false => rfl
  | true => simp only [cond_true]; omega
/-- What is turned, by class. -/
def tCls (en day c : Int) : List Pst → Int
  | [] => 0
  | x :: r => (bif isT en day x then signC c x.db x.cr x.am else 0) + tCls en day c r
theorem tCls_app (en day c : Int) : ∀ x y : List Pst, tCls en day c (x ++ y) = tCls en day c x + tCls en day c y
  | [], y => by simp [tCls]
  | p :: r, y => by rw [List.cons_append, tCls, tCls, tCls_app en day c r y]; omega
theorem tCls_postL {en day c n db cr am re : Int} : tCls en day c (postL n en day db cr am re) = bif re == 1000000 then signC c db cr am else 0 := by
  unfold postL
  by_cases h1 : am < 0
  · rw [show decide (am < 0) = true from decide_eq_true h1]
    simp only [cond_true, tCls, isT, beq_self_eq_true, Bool.true_and, Int.add_zero]
    rw [signC_neg]
  · rw [show decide (am < 0) = false from decide_eq_false h1]
    by_cases h2 : 0 < am
    · rw [show decide (0 < am) = true from decide_eq_true h2]
      simp only [cond_true, cond_false, tCls, isT, beq_self_eq_true, Bool.true_and, Int.add_zero]
    · rw [show decide (0 < am) = false from decide_eq_false h2]
      have : am = 0 := by omega
      subst this
      simp only [cond_false, tCls, signC]
      cases re == 1000000 <;> simp
theorem tCls_addP {en day c n db cr am re : Int} {o : List Pst} : tCls en day c (addP n en day db cr am re o) = tCls en day c o + bif re == 1000000 then signC c db cr am else 0 := by
  unfold addP; rw [tCls_app, tCls_postL]
theorem tCls_outA {en day c : Int} {l : List Pst} {k : Clo} : tCls en day c (outA l en day k) = signC c 520 220 k.i + signC c 510 210 k.u + signC c 130 510 k.p := by
  unfold outA
  simp only [tCls_addP, tCls]
  have h1 : ((1000000 : Int) == 1000000) = true := rfl
  have h2 : ((0 : Int) == 1000000) = false := rfl
  rw [h1, h2]
  simp only [cond_true, cond_false]; omega
theorem tCls_none {en day c : Int} : ∀ l : List Pst, (∀ x, x ∈ l → x.d ≠ day) → tCls en day c l = 0
  | [], _ => rfl
  | x :: r, h => by
    have h1 : isT en day x = false := by
      unfold isT
      have : (x.d == day) = false := by simpa using h x List.mem_cons_self
      rw [this]; simp
    rw [tCls, h1, tCls_none r (fun y hy => h y (List.mem_cons_of_mem _ hy))]; rfl
theorem cbal_reT {e en day fr to c : Int} : ∀ (p o : List Pst), cbal e fr to c (reT en day o p) = cbal e fr to c o - bif ((e == 0 || en == e) && amg (day + 1) fr to) then tCls en day c p else 0
  | [], o => by simp [reT, tCls]
  | x :: r, o => by
    rw [reT, cbal_reT r, tCls]
    cases h : isT en day x with
    | false => simp
    | true =>
      have hx : x.en = en := by
        unfold isT at h
        simp only [Bool.and_eq_true, beq_iff_eq] at h
        exact h.1.1
      have hc : cntB e fr to (trnF x ((o.length : Int) + 1) (day + 1)) = ((e == 0 || en == e) && amg (day + 1) fr to) := by
        unfold cntB trnF
        rw [hx]
      simp only [cond_true, cbal_app, cbal, hc]
      have hs : (bif clsI (trnF x ((o.length : Int) + 1) (day + 1)).db == c then (trnF x ((o.length : Int) + 1) (day + 1)).am else 0) - (bif clsI (trnF x ((o.length : Int) + 1) (day + 1)).cr == c then (trnF x ((o.length : Int) + 1) (day + 1)).am else 0) = -signC c x.db x.cr x.am := by
        show signC c x.cr x.db x.am = _
        unfold signC; omega
      rw [hs]
      cases ((e == 0 || en == e) && amg (day + 1) fr to) with
      | false => simp
      | true => simp only [cond_true]; omega
theorem shifts_plain {l : List Pst} {c : Clo} (hl : ledG 2 700 l) (hn : l.length ≤ 10) (hc : cloG c) (hcl : c.cl = []) (z1 : rofF l 1 120 719 = 0) (z2 : rofF l 1 119 719 = 0) :
    ∃ X Y, cloF l 1 719 c = (X, 0) ∧ reoF X 1 719 = (Y, 0) ∧ X.length ≤ 50 ∧ Y.length ≤ 50 ∧ ∃ a b p q, resF l 1 1 = (a, 0) ∧ resF Y 1 1 = (b, 0) ∧ resF l 1 2 = (p, 0) ∧ resF Y 1 2 = (q, 0) ∧ a - b = c.i + c.u - c.p ∧ q - p = c.i + c.u - c.p := by
  obtain ⟨cl, sm⟩ := led_closable hl hn
  obtain ⟨rX, cX⟩ := close_gen cl (by omega) hc (en := 1) (by omega) (sm 1)
  have hXb := (lkF_ok cX.1).2.1
  obtain ⟨T, t1, t2, t3⟩ := reT_good (en := 1) (day := 719) (by omega) (by omega) (l ++ outA l 1 719 c) (l ++ outA l 1 719 c) hXb (by have := cX.2.1; omega)
  have tb : ∀ k, tCls 1 719 k (l ++ outA l 1 719 c) = signC k 520 220 c.i + signC k 510 210 c.u + signC k 130 510 c.p := fun k => by
    rw [tCls_app, tCls_outA, tCls_none l (fun x hx => by have := (hl.2 x hx).1; omega), Int.zero_add]
  have hlast := lastD_le (day := 719) (by omega) cX.2.2
  have hXl := cX.2.1
  have hlk : lkF (reT 1 719 (l ++ outA l 1 719 c) (l ++ outA l 1 719 c)) = 0 := by
    rw [t1]
    exact lk_goes (en := 1) (day := 719 + 1) cX.1 (fun x hx => by have := cX.2.2 x hx; omega) t3 (by omega)
  have hlen := reT_len 1 719 (l ++ outA l 1 719 c) (l ++ outA l 1 719 c)
  have ro : reoF (l ++ outA l 1 719 c) 1 719 = (reT 1 719 (l ++ outA l 1 719 c) (l ++ outA l 1 719 c), 0) := by
    unfold reoF
    rw [cX.1, show amg 1 1 10 = true from rfl, show amg 719 0 35999 = true from rfl, show decide ((719 : Int) + 1 < lastD (l ++ outA l 1 719 c)) = false from decide_eq_false (by omega), show decide (400 < ((reT 1 719 (l ++ outA l 1 719 c) (l ++ outA l 1 719 c)).length : Int)) = false from decide_eq_false (by omega)]
    rfl
  have res : ∀ (m : List Pst), lkF m = 0 → (resF m 1 1 = (-cbal 1 360 719 4 m - cbal 1 360 719 5 m, 0) ∧ resF m 1 2 = (-cbal 1 720 1079 4 m - cbal 1 720 1079 5 m, 0)) := fun m hm => by
    unfold resF
    rw [hm]; exact ⟨rfl, rfl⟩
  have q1 : accOf l 1 120 719 = 0 := by
    rw [← z1, rof_ok hl.1 (by decide)]; unfold accOf; rw [hl.1]; rfl
  have q2 : accOf l 1 119 719 = 0 := by
    rw [← z2, rof_ok hl.1 (by decide)]; unfold accOf; rw [hl.1]; rfl
  have q3 : sumI (c.cl.map openF) = 0 := by rw [hcl]; rfl
  have q4 : (provF c.cl 719).1 = 0 := by rw [hcl]; rfl
  have ho : ∀ fr to k, cbal 1 fr to k (l ++ outA l 1 719 c) = cbal 1 fr to k l + bif amg 719 fr to then signC k 520 220 c.i + signC k 510 210 c.u + signC k 130 510 c.p + signC k 120 420 0 + signC k 119 530 0 else 0 := fun fr to k => by
    rw [cbal_app, cbal_outA, q1, q2, q3, q4]; rfl
  have hy : ∀ fr to k, cbal 1 fr to k (reT 1 719 (l ++ outA l 1 719 c) (l ++ outA l 1 719 c)) = cbal 1 fr to k (l ++ outA l 1 719 c) - bif amg 720 fr to then signC k 520 220 c.i + signC k 510 210 c.u + signC k 130 510 c.p else 0 := fun fr to k => by
    rw [cbal_reT, tb]; rfl
  obtain ⟨r1, r2⟩ := res l hl.1
  obtain ⟨r3, r4⟩ := res _ hlk
  have s4 : ∀ n, signC 4 520 220 n = 0 ∧ signC 4 510 210 n = 0 ∧ signC 4 130 510 n = 0 ∧ signC 5 520 220 n = n ∧ signC 5 510 210 n = n ∧ signC 5 130 510 n = -n := fun n => by
    simp [signC, clsI, amg]
  have s5 : signC 4 120 420 0 = 0 ∧ signC 4 119 530 0 = 0 ∧ signC 5 120 420 0 = 0 ∧ signC 5 119 530 0 = 0 := by decide
  refine ⟨_, _, rX, ro, by omega, by omega, _, _, _, _, r1, r3, r2, r4, ?_, ?_⟩
  · have a1 : amg 719 360 719 = true := rfl
    have a2 : amg 720 360 719 = false := rfl
    simp only [hy, ho, a1, a2, cond_true, cond_false, s4, s5]
    omega
  · have a1 : amg 719 720 1079 = false := rfl
    have a2 : amg 720 720 1079 = true := rfl
    simp only [hy, ho, a1, a2, cond_true, cond_false, s4, s5]
    omega
end Go.AM
namespace Go.AM
open Go Go.Proofs Go.IntWalk
set_option maxRecDepth 100000
set_option maxHeartbeats 4000000
set_option linter.unusedSimpArgs false
set_option linter.unusedVariables false
noncomputable def shfLS : PSpec := on_l (fun es => es.length ≤ 9223372036854775807 ∧ ∀ e, e ∈ es → isI e) (fun _ => .bool true)
theorem okN4 {H : AHeap} {a b c : Int} : ∀ x, x ∈ [AV.pv (.int .i64 a), .pv (.int .i64 b), .pv (.int .i64 c), .nils] → x.one = true ∧ frzOk H 3 x := by
  intro x hx
  simp only [List.mem_cons, List.not_mem_nil, or_false] at hx
  rcases hx with rfl | rfl | rfl | rfl <;> exact ⟨rfl, trivial⟩
theorem k_shfL_10 {args : List PV} : AO 10 args = closS args := rfl
theorem k_shfL_13 {args : List PV} : AO 13 args = rofS args := rfl
theorem k_shfL_18 {args : List PV} : AO 18 args = reoS args := rfl
theorem k_shfL_19 {args : List PV} : AO 19 args = resS args := rfl
theorem AO_sane {args : List PV} : AO 15 args = saneS args := rfl
theorem w_shfLS : PSound GG 6 shfLS := by
  refine PSound.of_wpc (C := cxQ Tryz.prog AO Θ9 Ψ1 [] [] 113) (T := planT2) Tryz.func6 rfl rfl rfl (Fit.all (G := GG) hAO hΘ9 hΨ1 mixed) (fun args h => ?_)
  unfold shfLS at h
  obtain ⟨es0, rfl, he1, he2⟩ := on_l_inv h
  refine ⟨by simp [cxQ], ?_⟩
  simp only [shfLS, on_l_eq, Θ9, Θ8, Θ7, Θ6, Θ5, Θ4, Θ3, Θ2, Θ1, Ψ1, newS, preT_eq, preL_eq, preC_eq, okQ, arg1, arg2, arg3, intV, lgV, cloV, lgOf_agg, cloOf_agg, map_psOf, map_balOf, Nat.reduceBEq, psiNew_eq, List.length_map, List.take_succ_cons, List.take_nil, Tryz.underlying1, sz1, by1, ze1, Tryz.underlying2, sz2, by2, ze2, Tryz.underlying3, sz3, by3, ze3, Tryz.underlying4, sz4, by4, ze4, Tryz.underlying9, sz9, by9, ze9, Tryz.underlying22, sz22, by22, ze22, Tryz.underlying23, sz23, by23, ze23, Tryz.underlying25, sz25, by25, ze25, Tryz.underlying27, sz27, by27, ze27, fa27_0, Tryz.underlying29, sz29, by29, ze29, Tryz.underlying31, sz31, by31, ze31, fa31_0, fa31_1, fa31_2, fa31_3, Tryz.underlying33, sz33, by33, ze33, Tryz.underlying34, sz34, by34, ze34, Tryz.underlying36, sz36, by36, ze36, Tryz.underlying39, sz39, by39, ze39, fa39_0, fa39_1, fa39_2, fa39_3, fa39_4, fa39_5, Tryz.underlying57, sz57, by57, ze57, fa57_0, fa57_1, fa57_2, fa57_3, fa57_4, fa57_5, fa57_6, fa57_7, Tryz.f6, argL, planT2, go_sem, ↓reduceIte, reduceCtorEq, Nat.reduceEqDiff, Nat.reduceLT, ↓all_qVz, ↓all_qVz', Int.reduceToNat, Int.reduceLT, Int.reduceLE, Nat.reduceAdd, Nat.reduceLeDiff, Nat.reduceMul, ev_callG, gcallK_b, gcallK_w, callGc_true, callGc_false]
  refine ⟨⟨he1, he2⟩, ?_⟩
  refine AWp.here (T := planT7) (α := Unit) (fun _ => ([(2, .pv (.bool false)), (3, .ptr 19 0)], [(19, .obj Tp)])) (fun _ => True) ⟨(), trivial, ⟨by simp [fitR, look], by simp [fitH, hget], rfl, rfl, rfl⟩⟩ ?_
  intro _ _
  simp (config := {maxSteps := 1000000}) only [Θ9, Θ8, Θ7, Θ6, Θ5, Θ4, Θ3, Θ2, Θ1, Ψ1, newS, preT_eq, preL_eq, preC_eq, okQ, arg1, arg2, arg3, intV, lgV, cloV, lgOf_agg, cloOf_agg, map_psOf, map_balOf, Nat.reduceBEq, psiNew_eq, List.length_map, List.take_succ_cons, List.take_nil, Tryz.underlying1, sz1, by1, ze1, Tryz.underlying2, sz2, by2, ze2, Tryz.underlying3, sz3, by3, ze3, Tryz.underlying4, sz4, by4, ze4, Tryz.underlying9, sz9, by9, ze9, Tryz.underlying22, sz22, by22, ze22, Tryz.underlying23, sz23, by23, ze23, Tryz.underlying25, sz25, by25, ze25, Tryz.underlying27, sz27, by27, ze27, fa27_0, Tryz.underlying29, sz29, by29, ze29, Tryz.underlying31, sz31, by31, ze31, fa31_0, fa31_1, fa31_2, fa31_3, Tryz.underlying33, sz33, by33, ze33, Tryz.underlying34, sz34, by34, ze34, Tryz.underlying36, sz36, by36, ze36, Tryz.underlying39, sz39, by39, ze39, fa39_0, fa39_1, fa39_2, fa39_3, fa39_4, fa39_5, Tryz.underlying57, sz57, by57, ze57, fa57_0, fa57_1, fa57_2, fa57_3, fa57_4, fa57_5, fa57_6, fa57_7, planT7, go_sem, ↓reduceIte, reduceCtorEq, Nat.reduceEqDiff, Nat.reduceLT, ↓all_qVz, ↓all_qVz', Int.reduceToNat, Int.reduceLT, Int.reduceLE, Nat.reduceAdd, Nat.reduceLeDiff, Nat.reduceMul, ev_callG, gcallK_b, gcallK_w, callGc_true, callGc_false]
  intro l hl
  rw [Stop_eq]
  simp (config := {maxSteps := 1000000}) only [Θ9, Θ8, Θ7, Θ6, Θ5, Θ4, Θ3, Θ2, Θ1, Ψ1, newS, preT_eq, preL_eq, preC_eq, okQ, arg1, arg2, arg3, intV, lgV, cloV, lgOf_agg, cloOf_agg, map_psOf, map_balOf, Nat.reduceBEq, psiNew_eq, List.length_map, List.take_succ_cons, List.take_nil, Tryz.underlying1, sz1, by1, ze1, Tryz.underlying2, sz2, by2, ze2, Tryz.underlying3, sz3, by3, ze3, Tryz.underlying4, sz4, by4, ze4, Tryz.underlying9, sz9, by9, ze9, Tryz.underlying22, sz22, by22, ze22, Tryz.underlying23, sz23, by23, ze23, Tryz.underlying25, sz25, by25, ze25, Tryz.underlying27, sz27, by27, ze27, fa27_0, Tryz.underlying29, sz29, by29, ze29, Tryz.underlying31, sz31, by31, ze31, fa31_0, fa31_1, fa31_2, fa31_3, Tryz.underlying33, sz33, by33, ze33, Tryz.underlying34, sz34, by34, ze34, Tryz.underlying36, sz36, by36, ze36, Tryz.underlying39, sz39, by39, ze39, fa39_0, fa39_1, fa39_2, fa39_3, fa39_4, fa39_5, Tryz.underlying57, sz57, by57, ze57, fa57_0, fa57_1, fa57_2, fa57_3, fa57_4, fa57_5, fa57_6, fa57_7, planT7, go_sem, ↓reduceIte, reduceCtorEq, Nat.reduceEqDiff, Nat.reduceLT, ↓all_qVz, ↓all_qVz', Int.reduceToNat, Int.reduceLT, Int.reduceLE, Nat.reduceAdd, Nat.reduceLeDiff, Nat.reduceMul, ev_callG, gcallK_b, gcallK_w, callGc_true, callGc_false]
  intro c hc
  rw [Stop_eq]
  have hn : l.length ≤ 10 := by have := hl.1; simp only [arg1] at this; omega
  obtain ⟨i, u, p, cl⟩ := c
  simp (config := {maxSteps := 1000000}) only [AO_sane, saneS, on__eq, k_shfL_10, closS, on_piip_eq, k_shfL_13, rofS, on_piii_eq, k_shfL_18, reoS, on_pii_eq, k_shfL_19, resS, Θ9, Θ8, Θ7, Θ6, Θ5, Θ4, Θ3, Θ2, Θ1, Ψ1, newS, preT_eq, preL_eq, preC_eq, okQ, arg1, arg2, arg3, intV, lgV, cloV, lgOf_agg, cloOf_agg, map_psOf, map_balOf, Nat.reduceBEq, psiNew_eq, List.length_map, List.take_succ_cons, List.take_nil, Tryz.underlying1, sz1, by1, ze1, Tryz.underlying2, sz2, by2, ze2, Tryz.underlying3, sz3, by3, ze3, Tryz.underlying4, sz4, by4, ze4, Tryz.underlying9, sz9, by9, ze9, Tryz.underlying22, sz22, by22, ze22, Tryz.underlying23, sz23, by23, ze23, Tryz.underlying25, sz25, by25, ze25, Tryz.underlying27, sz27, by27, ze27, fa27_0, Tryz.underlying29, sz29, by29, ze29, Tryz.underlying31, sz31, by31, ze31, fa31_0, fa31_1, fa31_2, fa31_3, Tryz.underlying33, sz33, by33, ze33, Tryz.underlying34, sz34, by34, ze34, Tryz.underlying36, sz36, by36, ze36, Tryz.underlying39, sz39, by39, ze39, fa39_0, fa39_1, fa39_2, fa39_3, fa39_4, fa39_5, Tryz.underlying57, sz57, by57, ze57, fa57_0, fa57_1, fa57_2, fa57_3, fa57_4, fa57_5, fa57_6, fa57_7, planT7, go_sem, ↓reduceIte, reduceCtorEq, Nat.reduceEqDiff, Nat.reduceLT, ↓all_qV, Int.reduceToNat, Int.reduceLT, Int.reduceLE, Nat.reduceAdd, Nat.reduceLeDiff, Nat.reduceMul, ev_callG, gcallK_b, gcallK_w, callGc_true, callGc_false]
  refine ⟨⟨okL1, l, rfl, by omega⟩, fun _ => ⟨okL1, l, rfl, by omega⟩, fun h9 => ?_⟩
  have hz : rofF l 1 120 719 = 0 ∧ rofF l 1 119 719 = 0 := by simpa using h9
  have hc2 : cloG ⟨i, u, p, []⟩ := ⟨hc.1, hc.2.1, hc.2.2.1, Nat.zero_le _, fun e he => by cases he⟩
  obtain ⟨X, Y, r1, r2, lX, lY, a, b, x, y, s1, s2, s3, s4, e1, e2⟩ := shifts_plain hl.2 hn hc2 rfl hz.1 hz.2
  refine ⟨⟨⟨okL1, okN4⟩, ⟨l, rfl, by omega⟩, ⟨⟨i, u, p, []⟩, rfl, fun e he => (by cases he), by simp⟩, by omega⟩, ?_⟩
  refine wpc_sound (T := plan0) _ _ _ ?_
  have hcl : cloOf (.agg [.int .i64 i, .int .i64 u, .int .i64 p, .sl []]) = ⟨i, u, p, []⟩ := rfl
  simp (config := {maxSteps := 1000000}) only [r1, r2, s1, s2, s3, s4, hcl, AO_sane, saneS, on__eq, k_shfL_10, closS, on_piip_eq, k_shfL_13, rofS, on_piii_eq, k_shfL_18, reoS, on_pii_eq, k_shfL_19, resS, Θ9, Θ8, Θ7, Θ6, Θ5, Θ4, Θ3, Θ2, Θ1, Ψ1, newS, preT_eq, preL_eq, preC_eq, okQ, arg1, arg2, arg3, intV, lgV, cloV, lgOf_agg, cloOf_agg, map_psOf, map_balOf, Nat.reduceBEq, psiNew_eq, List.length_map, List.take_succ_cons, List.take_nil, Tryz.underlying1, sz1, by1, ze1, Tryz.underlying2, sz2, by2, ze2, Tryz.underlying3, sz3, by3, ze3, Tryz.underlying4, sz4, by4, ze4, Tryz.underlying9, sz9, by9, ze9, Tryz.underlying22, sz22, by22, ze22, Tryz.underlying23, sz23, by23, ze23, Tryz.underlying25, sz25, by25, ze25, Tryz.underlying27, sz27, by27, ze27, fa27_0, Tryz.underlying29, sz29, by29, ze29, Tryz.underlying31, sz31, by31, ze31, fa31_0, fa31_1, fa31_2, fa31_3, Tryz.underlying33, sz33, by33, ze33, Tryz.underlying34, sz34, by34, ze34, Tryz.underlying36, sz36, by36, ze36, Tryz.underlying39, sz39, by39, ze39, fa39_0, fa39_1, fa39_2, fa39_3, fa39_4, fa39_5, Tryz.underlying57, sz57, by57, ze57, fa57_0, fa57_1, fa57_2, fa57_3, fa57_4, fa57_5, fa57_6, fa57_7, plan0, go_sem, ↓reduceIte, reduceCtorEq, Nat.reduceEqDiff, Nat.reduceLT, ↓all_qV, Int.reduceToNat, Int.reduceLT, Int.reduceLE, Nat.reduceAdd, Nat.reduceLeDiff, Nat.reduceMul, ev_callG, gcallK_b, gcallK_w, callGc_true, callGc_false]
  refine ⟨⟨okL1, X, rfl, by omega⟩, ⟨okL1, l, rfl, by omega⟩, ⟨okL1, Y, rfl, by omega⟩, ⟨okL1, l, rfl, by omega⟩, ⟨okL1, Y, rfl, by omega⟩, ?_⟩
  obtain ⟨b1, b2, b3, _⟩ := hc2
  simp only at b1 b2 b3 e1 e2
  rw [e1, e2, i64_in (i + u) (by omega), i64_in (i + u - p) (by omega)]
  simp
end Go.AM
