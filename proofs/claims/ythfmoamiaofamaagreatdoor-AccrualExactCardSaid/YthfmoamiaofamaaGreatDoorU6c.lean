/-
  A part of a proof: see the last text of this claim for what is proved.
-/
import Derived.Test.YthfmoamiaofamaaGreatDoorU6x
import Derived.Test.YthfmoamiaofamaaGreatDoorZMa
/-! ledger.Statement, accrual.Result -/
namespace Go.AM
open Go Go.Proofs Go.IntWalk
set_option maxRecDepth 100000
set_option maxHeartbeats 4000000
set_option linter.unusedSimpArgs false
set_option linter.unusedVariables false
def z5 : List Int := [0, 0, 0, 0, 0]
def stmF (l : List Pst) (en fr to : Int) : List Int × Int :=
  bif lkF l != 0 then (z5, lkF l) else bif !amg en 0 10 then (z5, 89) else bif !amg fr 0 to || decide (36000 < to) then (z5, 2) else (stmL l en fr to, 0)
noncomputable def stmS : PSpec := on_piii (fun e _ _ _ => isLg e) (fun e en fr to => .tup [.agg (arrP (stmF (lgOf e) en fr to).1), .int .i64 (stmF (lgOf e) en fr to).2])
theorem arrP5 {a b c d e : Int} : arrP [a, b, c, d, e] = [.int .i64 a, .int .i64 b, .int .i64 c, .int .i64 d, .int .i64 e] := rfl
theorem arrV5 {a b c d e : Int} : arrV [a, b, c, d, e] = [.pv (.int .i64 a), .pv (.int .i64 b), .pv (.int .i64 c), .pv (.int .i64 d), .pv (.int .i64 e)] := rfl
theorem k_stmS_41 {args : List PV} : AM 41 args = lchkS args := rfl
theorem k_stmS_72 {args : List PV} : AM 72 args = lamS args := rfl
theorem k_stmS_73 {args : List PV} : AM 73 args = smsS args := rfl
theorem w_stmS : PSound GG 54 stmS := by
  refine PSound.of_wpc (C := cxP Tryz.prog AM [] 38) (T := plan0) Tryz.func54 rfl rfl rfl (Fit.pure (G := GG) hAM mixed) (fun args h => ?_)
  unfold stmS at h
  obtain ⟨e, en, fr, to, rfl, hp⟩ := on_piii_inv h
  refine ⟨by simp [cxP], ?_⟩
  simp only [stmS, on_piii_eq, Tryz.f54, argL, plan0]
  obtain ⟨l, rfl, hl⟩ := hp
  simp only [lgV, lgOf_agg, map_psOf, List.length_map, Φ0_eq, dflt, loadC_eq, lstOf_sl, arrP_len, arrP_av, arrV_len, k_stmS_41, lchkS, on_p_eq, k_stmS_72, lamS, on_iii_eq, k_stmS_73, smsS, on_piii_eq, List.take_succ_cons, List.take_nil, Tryz.underlying3, sz3, by3, ze3, Tryz.underlying4, sz4, by4, ze4, Tryz.underlying23, sz23, by23, ze23, Tryz.underlying25, sz25, by25, ze25, fa25_0, Tryz.underlying41, sz41, by41, ze41, Tryz.underlying63, sz63, by63, ze63, fa63_0, fa63_1, fa63_2, fa63_3, fa63_4, fa63_5, fa63_6, fa63_7, Tryz.underlying90, sz90, by90, ze90, fa90_0, fa90_1, fa90_2, fa90_3, fa90_4, go_sem, ↓reduceIte, reduceCtorEq, Nat.reduceEqDiff, Nat.reduceLT, ↓all_qV, Int.reduceToNat, Int.reduceLT, Int.reduceLE, Nat.reduceAdd, Nat.reduceLeDiff, Nat.reduceMul, ev_callG, gcallK_b, gcallK_w, callGc_true, callGc_false]
  refine ⟨⟨okL1, l, rfl, hl⟩, fun h1 => ⟨okP5, by unfold stmF; rw [h1]; rfl⟩, fun h1 => ⟨fun h2 => ⟨okP5, by unfold stmF; rw [h1, h2]; rfl⟩, fun h2 => ⟨fun h => by simpa using h, fun h3 => ⟨okP5, by unfold stmF; rw [h1, h2, h3]; rfl⟩, fun h3 => ?_⟩⟩⟩
  have h0 : lkF l = 0 := by simpa using h1
  obtain ⟨g1, g2, _⟩ := lkF_ok h0
  have hr : amg fr 0 to = true ∧ to ≤ 36000 := by simpa using h3
  have hr1 : 0 ≤ fr ∧ fr ≤ to := by simpa [amg] using hr.1
  have hs : stmF l en fr to = (stmL l en fr to, 0) := by unfold stmF; rw [h1, h2, h3]; rfl
  rw [hs]
  exact ⟨⟨⟨l, rfl, g2, g1⟩, by omega, by omega⟩, rfl, arrV_one, ⟨Nat.le_refl 5, okP5⟩, rfl⟩
noncomputable def AN (g : FuncId) : PSpec := (putΦ AM 54 stmS) g
theorem hAN : TabSound GG AN := (hAM.put w_stmS)
def resF (l : List Pst) (en year : Int) : Int × Int :=
  bif lkF l != 0 then (0, lkF l) else bif !amg en 0 10 then (0, 89) else bif !amg year 0 99 then (0, 2) else (-cbal en (360 * year) (360 * year + 359) 4 l - cbal en (360 * year) (360 * year + 359) 5 l, 0)
noncomputable def resS : PSpec := on_pii (fun e _ _ => isLg e) (fun e en y => .tup [.int .i64 (resF (lgOf e) en y).1, .int .i64 (resF (lgOf e) en y).2])
theorem AN_among {args : List PV} : AN 35 args = amongS args := rfl
theorem stm_cases {l : List Pst} {en fr to : Int} (h1 : amg fr 0 to = true) (h2 : to ≤ 36000) : ∃ a b c d e er, stmF l en fr to = ([a, b, c, d, e], er) ∧ (er = 0 → (d - e = -cbal en fr to 4 l - cbal en fr to 5 l ∧ -1000000000000000 ≤ d ∧ d ≤ 1000000000000000 ∧ -1000000000000000 ≤ e ∧ e ≤ 1000000000000000)) ∧ er = (bif lkF l != 0 then lkF l else bif !amg en 0 10 then 89 else 0) := by
  unfold stmF
  have h3 : decide (36000 < to) = false := decide_eq_false (by omega)
  rw [h1, h3]
  cases q1 : lkF l != 0 with
  | true => exact ⟨0, 0, 0, 0, 0, lkF l, rfl, fun e => (by rw [e] at q1; cases q1), rfl⟩
  | false =>
    cases q2 : !amg en 0 10 with
    | true => exact ⟨0, 0, 0, 0, 0, 89, rfl, fun e => (by cases e), rfl⟩
    | false =>
      obtain ⟨g1, g2, _⟩ := lkF_ok (by simpa using q1 : lkF l = 0)
      have b4 := cbal_le en fr to 4 l g2
      have b5 := cbal_le en fr to 5 l g2
      exact ⟨_, _, _, _, _, 0, rfl, fun _ => ⟨rfl, by omega, by omega, by omega, by omega⟩, rfl⟩
theorem k_resS_54 {args : List PV} : AN 54 args = stmS args := rfl
theorem w_resS : PSound GG 26 resS := by
  refine PSound.of_wpc (C := cxP Tryz.prog AN [] 38) (T := plan0) Tryz.func26 rfl rfl rfl (Fit.pure (G := GG) hAN mixed) (fun args h => ?_)
  unfold resS at h
  obtain ⟨e, en, y, rfl, hp⟩ := on_pii_inv h
  refine ⟨by simp [cxP], ?_⟩
  simp only [resS, on_pii_eq, Tryz.f26, argL, plan0]
  obtain ⟨l, rfl, hl⟩ := hp
  by_cases hy : 0 ≤ y ∧ y ≤ 99
  · have hya : amg y 0 99 = true := by unfold amg; simp; omega
    have w1 : IntKind.i64.wrap (360 * y) = 360 * y := i64_in _ (by omega)
    have w2 : IntKind.i64.wrap (360 * y + 359) = 360 * y + 359 := i64_in _ (by omega)
    obtain ⟨a, b, c, d, e, er, hst, hv, her⟩ := stm_cases (l := l) (en := en) (fr := 360 * y) (to := 360 * y + 359) (by unfold amg; simp; omega) (by omega)
    have hr : resF l en y = bif er != 0 then (0, er) else (-cbal en (360 * y) (360 * y + 359) 4 l - cbal en (360 * y) (360 * y + 359) 5 l, 0) := by
      unfold resF
      rw [her, hya]
      cases q1 : lkF l != 0 with
      | true => simp only [cond_true, q1]
      | false =>
        cases q2 : !amg en 0 10 <;> rfl
    simp only [hya, w1, w2, hst, lgV, lgOf_agg, map_psOf, List.length_map, Φ0_eq, dflt, AN_among, amongS, on_iii_eq, arrP5, List.map_cons, List.map_nil, loadC_eq, k_resS_54, stmS, on_piii_eq, List.take_succ_cons, List.take_nil, Tryz.underlying1, sz1, by1, ze1, Tryz.underlying3, sz3, by3, ze3, Tryz.underlying4, sz4, by4, ze4, Tryz.underlying23, sz23, by23, ze23, Tryz.underlying25, sz25, by25, ze25, fa25_0, Tryz.underlying41, sz41, by41, ze41, Tryz.underlying63, sz63, by63, ze63, fa63_0, fa63_1, fa63_2, fa63_3, fa63_4, fa63_5, fa63_6, fa63_7, Tryz.underlying90, sz90, by90, ze90, fa90_0, fa90_1, fa90_2, fa90_3, fa90_4, Tryz.underlying91, sz91, by91, ze91, go_sem, ↓reduceIte, reduceCtorEq, Nat.reduceEqDiff, Nat.reduceLT, ↓all_qV, Int.reduceToNat, Int.reduceLT, Int.reduceLE, Nat.reduceAdd, Nat.reduceLeDiff, Nat.reduceMul, ev_callG, gcallK_b, gcallK_w, callGc_true, callGc_false]
    rw [hr]
    refine ⟨⟨okL1, l, rfl, hl⟩, fun h1 => by rw [h1]; rfl, fun h1 => ?_⟩
    have e0 : er = 0 := by simpa using h1
    obtain ⟨v1, v2⟩ := hv e0
    rw [h1, i64_in _ (by omega), v1]; rfl
  · have hya : amg y 0 99 = false := by unfold amg; simp; omega
    obtain ⟨a, b, c, d, e, er, hst, hv, her⟩ := stm_cases (l := l) (en := en) (fr := 0) (to := 359) rfl (by omega)
    have hr : resF l en y = bif er != 0 then (0, er) else (0, 2) := by
      unfold resF
      rw [her, hya]
      cases q1 : lkF l != 0 with
      | true => simp only [cond_true, q1]
      | false =>
        cases q2 : !amg en 0 10 <;> rfl
    have w3 : IntKind.i64.wrap (0 + 359) = 359 := by decide
    simp only [hya, w3, hst, lgV, lgOf_agg, map_psOf, List.length_map, Φ0_eq, dflt, AN_among, amongS, on_iii_eq, arrP5, List.map_cons, List.map_nil, loadC_eq, k_resS_54, stmS, on_piii_eq, List.take_succ_cons, List.take_nil, Tryz.underlying1, sz1, by1, ze1, Tryz.underlying3, sz3, by3, ze3, Tryz.underlying4, sz4, by4, ze4, Tryz.underlying23, sz23, by23, ze23, Tryz.underlying25, sz25, by25, ze25, fa25_0, Tryz.underlying41, sz41, by41, ze41, Tryz.underlying63, sz63, by63, ze63, fa63_0, fa63_1, fa63_2, fa63_3, fa63_4, fa63_5, fa63_6, fa63_7, Tryz.underlying90, sz90, by90, ze90, fa90_0, fa90_1, fa90_2, fa90_3, fa90_4, Tryz.underlying91, sz91, by91, ze91, go_sem, ↓reduceIte, reduceCtorEq, Nat.reduceEqDiff, Nat.reduceLT, ↓all_qV, Int.reduceToNat, Int.reduceLT, Int.reduceLE, Nat.reduceAdd, Nat.reduceLeDiff, Nat.reduceMul, ev_callG, gcallK_b, gcallK_w, callGc_true, callGc_false]
    rw [hr]
    exact ⟨⟨okL1, l, rfl, hl⟩, fun h1 => by rw [h1]; rfl, fun h1 => by rw [h1]; rfl⟩
noncomputable def AO (g : FuncId) : PSpec := (putΦ AN 26 resS) g
theorem hAO : TabSound GG AO := (hAN.put w_resS)
end Go.AM
