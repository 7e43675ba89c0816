/-
  A part of a proof: see the last text of this claim for what is proved.
-/
import Derived.Test.YthfmoamiaofamaaGreatDoorV1y
import Derived.Test.YthfmoamiaofamaaGreatDoorPN
import Derived.Test.YthfmoamiaofamaaGreatDoorNE
import Derived.Test.YthfmoamiaofamaaGreatDoorZMa
namespace Go.AM
open Go Go.Proofs Go.IntWalk
set_option maxRecDepth 100000
set_option maxHeartbeats 8000000
set_option linter.unusedSimpArgs false
set_option linter.unusedVariables false
def on_lppiii (p : List PV → PV → PV → Int → Int → Int → Prop) (f : List PV → PV → PV → Int → Int → Int → PV) : PSpec
  | [.sl a0, a1, a2, .int .i64 a3, .int .i64 a4, .int .i64 a5] => (p a0 a1 a2 a3 a4 a5, f a0 a1 a2 a3 a4 a5)
  | _ => (False, default)
theorem on_lppiii_eq {p : List PV → PV → PV → Int → Int → Int → Prop} {f : List PV → PV → PV → Int → Int → Int → PV} {a0 : List PV} {a1 : PV} {a2 : PV} {a3 : Int} {a4 : Int} {a5 : Int} : on_lppiii p f [.sl a0, a1, a2, .int .i64 a3, .int .i64 a4, .int .i64 a5] = (p a0 a1 a2 a3 a4 a5, f a0 a1 a2 a3 a4 a5) := rfl
theorem on_lppiii_inv {p : List PV → PV → PV → Int → Int → Int → Prop} {f : List PV → PV → PV → Int → Int → Int → PV} {args : List PV} (h : (on_lppiii p f args).1) : ∃ a0 : List PV, ∃ a1 : PV, ∃ a2 : PV, ∃ a3 : Int, ∃ a4 : Int, ∃ a5 : Int, args = [.sl a0, a1, a2, .int .i64 a3, .int .i64 a4, .int .i64 a5] ∧ p a0 a1 a2 a3 a4 a5 := by
  unfold on_lppiii at h
  split at h
  · exact ⟨_, _, _, _, _, _, rfl, h⟩
  · exact h.elim
noncomputable def ΨX (g : FuncId) : Option ESpec := putΨ Ψ1 8 (psiT Tp preC 6 postC) g
theorem hΨX : ETab GG ΨX := hΨ1.put w_clngT psiT_mono
noncomputable def exS : PSpec := on_lppiii (fun es a b _ _ _ => (es.length ≤ 9223372036854775807 ∧ ∀ e, e ∈ es → isI e) ∧ isLg0 a ∧ isClo0 b) (fun _ _ _ _ _ _ => .bool true)
def plan7 : Plan := { keep := fun _ => none, cut := fun _ => false, stop := fun i => i % 7 == 0 }
theorem Ψ1_sub : ∀ f ψ, Ψ1 f = some ψ → ΨX f = some ψ := by
  intro f ψ h
  by_cases e : f = 8
  · subst e; cases h
  · show (if f = _ then _ else _) = _
    rw [if_neg e]; exact h
theorem dT : decide True = true := by simp
theorem BK_prov {args : List PV} : BK 18 args = provS args := rfl
theorem BK_sane {args : List PV} : BK 5 args = saneS args := rfl
theorem k_exL_4 {args : List PV} : BK 4 args = smallS args := rfl
theorem k_exL_13 {args : List PV} : BK 13 args = rcloS args := rfl
theorem k_exL_15 {args : List PV} : BK 15 args = ackS args := rfl
theorem k_exL_16 {args : List PV} : BK 16 args = rackS args := rfl
theorem k_exL_19 {args : List PV} : BK 19 args = rprovS args := rfl
theorem k_exL_20 {args : List PV} : BK 20 args = adjS args := rfl
theorem k_exL_21 {args : List PV} : BK 21 args = radjS args := rfl
theorem k_exL_22 {args : List PV} : BK 22 args = closS args := rfl
theorem k_exL_23 {args : List PV} : BK 23 args = rpsS args := rfl
theorem k_exL_24 {args : List PV} : BK 24 args = reoS args := rfl
theorem k_exL_25 {args : List PV} : BK 25 args = rreoS args := rfl
theorem k_exL_26 {args : List PV} : BK 26 args = resS args := rfl
theorem k_exL_27 {args : List PV} : BK 27 args = rresS args := rfl
theorem w_exS : PSound GG 3 exS := by
  refine PSound.of_wpc (C := cxQ Tryz.prog BK ΘB ΨX [] [] 286) (T := planAt 4) Tryz.func3 rfl rfl rfl (Fit.all (G := GG) hBK hΘB hΨX mixed) (fun args h => ?_)
  unfold exS at h
  obtain ⟨es0, raw, cc, entity, day, year, rfl, ⟨he1, he2⟩, ⟨rw0, rfl, hrl⟩, ⟨⟨ci, cu, cp, ccl⟩, rfl, hcc, hccl⟩⟩ := on_lppiii_inv h
  simp only at hcc hccl
  refine ⟨by simp [cxQ], ?_⟩
  simp (config := {maxSteps := 1000000}) only [exS, on_lppiii_eq, BK_sane, saneS, on__eq, ΨX, k_exL_4, smallS, on_pp_eq, k_exL_13, rcloS, on_piip_eq, k_exL_15, ackS, on_p_eq, k_exL_16, rackS, k_exL_19, rprovS, on_li_eq, k_exL_20, adjS, k_exL_21, radjS, k_exL_22, closS, k_exL_23, rpsS, on_ll_eq, k_exL_24, reoS, on_pii_eq, k_exL_25, rreoS, k_exL_26, resS, k_exL_27, rresS, ΨX, ΘB, ΘA, Θ9, Θ8, Θ7, Θ6, Θ5, Θ4, Θ3, Θ2, Θ1, Ψ1, newS, preT_eq, preL_eq, preB_eq, preC_eq, preN_eq, preR_eq, preP_eq, preX_eq, okP_eq, okX_eq, okN, okR, okC, okQ, okOd, arg1, arg2, arg3, intV, strV, lgV, cloV, lgOf_agg, cloOf_agg, map_psOf, Nat.reduceBEq, psiNew_eq, List.length_map, List.take_succ_cons, List.take_nil, Tryz.underlying1, sz1, by1, ze1, Tryz.underlying2, sz2, by2, ze2, Tryz.underlying3, sz3, by3, ze3, Tryz.underlying4, sz4, by4, ze4, Tryz.underlying9, sz9, by9, ze9, Tryz.underlying22, sz22, by22, ze22, Tryz.underlying23, sz23, by23, ze23, Tryz.underlying25, sz25, by25, ze25, fa25_0, Tryz.underlying26, sz26, by26, ze26, Tryz.underlying28, sz28, by28, ze28, fa28_0, fa28_1, fa28_2, fa28_3, Tryz.underlying31, sz31, by31, ze31, Tryz.underlying40, sz40, by40, ze40, fa40_0, fa40_1, fa40_2, fa40_3, fa40_4, fa40_5, Tryz.underlying41, sz41, by41, ze41, Tryz.underlying42, sz42, by42, ze42, Tryz.underlying45, sz45, by45, ze45, Tryz.underlying46, sz46, by46, ze46, Tryz.underlying48, sz48, by48, ze48, Tryz.underlying50, sz50, by50, ze50, Tryz.underlying51, sz51, by51, ze51, Tryz.underlying53, sz53, by53, ze53, Tryz.underlying63, sz63, by63, ze63, fa63_0, fa63_1, fa63_2, fa63_3, fa63_4, fa63_5, fa63_6, fa63_7, Tryz.underlying66, sz66, by66, ze66, Tryz.f3, argL, planAt, go_sem, ↓reduceIte, reduceCtorEq, Nat.reduceEqDiff, Nat.reduceLT, ↓all_qVz, ↓all_qVz', Int.reduceToNat, Int.reduceLT, Int.reduceLE, Nat.reduceAdd, Nat.reduceLeDiff, Nat.reduceMul, ev_callG, gcallK_b, gcallK_w, callGc_true, callGc_false]
  refine ⟨⟨⟨okL1, okC4⟩, ⟨rw0, rfl, hrl⟩, ⟨⟨ci, cu, cp, ccl⟩, rfl, hcc, hccl⟩⟩, fun hsm => ⟨⟨he1, he2⟩, ?_⟩⟩
  obtain ⟨hrl, hccl, hcc⟩ := sm_ok (l := rw0) (c := ⟨ci, cu, cp, ccl⟩) hcc (by simpa using hsm)
  simp only at hccl hcc
  refine AWp.here (T := planAt 5) (α := Unit) (fun _ => ([(3, .pv (.int .i64 entity)), (4, .pv (.int .i64 day)), (5, .pv (.int .i64 year)), (7, .ptr 7 0), (8, .ptr 8 0), (12, .pv (.bool false)), (13, .ptr 46 0)],
    [(7, .cells [.pv (.sl (rw0.map psV))]), (8, .cells [.pv (.int .i64 ci), .pv (.int .i64 cu), .pv (.int .i64 cp), .pv (.sl ccl)]), (46, .obj Tp)])) (fun _ => True) ⟨(), trivial, ⟨by simp [fitR, look, upd], by simp [fitH, hget, hset], rfl, rfl, rfl⟩⟩ ?_
  intro _ _
  simp (config := {maxSteps := 1000000}) only [ΨX, ΘB, ΘA, Θ9, Θ8, Θ7, Θ6, Θ5, Θ4, Θ3, Θ2, Θ1, Ψ1, newS, preT_eq, preL_eq, preB_eq, preC_eq, preN_eq, preR_eq, preP_eq, preX_eq, okP_eq, okX_eq, okN, okR, okC, okQ, okOd, arg1, arg2, arg3, intV, strV, lgV, cloV, lgOf_agg, cloOf_agg, map_psOf, Nat.reduceBEq, psiNew_eq, List.length_map, List.take_succ_cons, List.take_nil, Tryz.underlying1, sz1, by1, ze1, Tryz.underlying2, sz2, by2, ze2, Tryz.underlying3, sz3, by3, ze3, Tryz.underlying4, sz4, by4, ze4, Tryz.underlying9, sz9, by9, ze9, Tryz.underlying22, sz22, by22, ze22, Tryz.underlying23, sz23, by23, ze23, Tryz.underlying25, sz25, by25, ze25, fa25_0, Tryz.underlying26, sz26, by26, ze26, Tryz.underlying28, sz28, by28, ze28, fa28_0, fa28_1, fa28_2, fa28_3, Tryz.underlying31, sz31, by31, ze31, Tryz.underlying40, sz40, by40, ze40, fa40_0, fa40_1, fa40_2, fa40_3, fa40_4, fa40_5, Tryz.underlying41, sz41, by41, ze41, Tryz.underlying42, sz42, by42, ze42, Tryz.underlying45, sz45, by45, ze45, Tryz.underlying46, sz46, by46, ze46, Tryz.underlying48, sz48, by48, ze48, Tryz.underlying50, sz50, by50, ze50, Tryz.underlying51, sz51, by51, ze51, Tryz.underlying53, sz53, by53, ze53, Tryz.underlying63, sz63, by63, ze63, fa63_0, fa63_1, fa63_2, fa63_3, fa63_4, fa63_5, fa63_6, fa63_7, Tryz.underlying66, sz66, by66, ze66, planAt, go_sem, ↓reduceIte, reduceCtorEq, Nat.reduceEqDiff, Nat.reduceLT, ↓all_qVz, ↓all_qVz', Int.reduceToNat, Int.reduceLT, Int.reduceLE, Nat.reduceAdd, Nat.reduceLeDiff, Nat.reduceMul, ev_callG, gcallK_b, gcallK_w, callGc_true, callGc_false]
  intro l hl
  rw [Stop_eq]
  simp (config := {maxSteps := 1000000}) only [ΨX, ΘB, ΘA, Θ9, Θ8, Θ7, Θ6, Θ5, Θ4, Θ3, Θ2, Θ1, Ψ1, newS, preT_eq, preL_eq, preB_eq, preC_eq, preN_eq, preR_eq, preP_eq, preX_eq, okP_eq, okX_eq, okN, okR, okC, okQ, okOd, arg1, arg2, arg3, intV, strV, lgV, cloV, lgOf_agg, cloOf_agg, map_psOf, Nat.reduceBEq, psiNew_eq, List.length_map, List.take_succ_cons, List.take_nil, Tryz.underlying1, sz1, by1, ze1, Tryz.underlying2, sz2, by2, ze2, Tryz.underlying3, sz3, by3, ze3, Tryz.underlying4, sz4, by4, ze4, Tryz.underlying9, sz9, by9, ze9, Tryz.underlying22, sz22, by22, ze22, Tryz.underlying23, sz23, by23, ze23, Tryz.underlying25, sz25, by25, ze25, fa25_0, Tryz.underlying26, sz26, by26, ze26, Tryz.underlying28, sz28, by28, ze28, fa28_0, fa28_1, fa28_2, fa28_3, Tryz.underlying31, sz31, by31, ze31, Tryz.underlying40, sz40, by40, ze40, fa40_0, fa40_1, fa40_2, fa40_3, fa40_4, fa40_5, Tryz.underlying41, sz41, by41, ze41, Tryz.underlying42, sz42, by42, ze42, Tryz.underlying45, sz45, by45, ze45, Tryz.underlying46, sz46, by46, ze46, Tryz.underlying48, sz48, by48, ze48, Tryz.underlying50, sz50, by50, ze50, Tryz.underlying51, sz51, by51, ze51, Tryz.underlying53, sz53, by53, ze53, Tryz.underlying63, sz63, by63, ze63, fa63_0, fa63_1, fa63_2, fa63_3, fa63_4, fa63_5, fa63_6, fa63_7, Tryz.underlying66, sz66, by66, ze66, planAt, go_sem, ↓reduceIte, reduceCtorEq, Nat.reduceEqDiff, Nat.reduceLT, ↓all_qVz, ↓all_qVz', Int.reduceToNat, Int.reduceLT, Int.reduceLE, Nat.reduceAdd, Nat.reduceLeDiff, Nat.reduceMul, ev_callG, gcallK_b, gcallK_w, callGc_true, callGc_false]
  refine AWp.seqa (AWp.sub (Θ' := noΘ) (Ψ' := ΨX) (fun f θ h => by cases h) (fun f ψ h => h) (wpc_sound (T := plan0) _ _ _ ?_))
  simp (config := {maxSteps := 1000000}) only [ΨX, psiT_eq, ΨX, ΘB, ΘA, Θ9, Θ8, Θ7, Θ6, Θ5, Θ4, Θ3, Θ2, Θ1, Ψ1, newS, preT_eq, preL_eq, preB_eq, preC_eq, preN_eq, preR_eq, preP_eq, preX_eq, okP_eq, okX_eq, okN, okR, okC, okQ, okOd, arg1, arg2, arg3, intV, strV, lgV, cloV, lgOf_agg, cloOf_agg, map_psOf, Nat.reduceBEq, psiNew_eq, List.length_map, List.take_succ_cons, List.take_nil, Tryz.underlying1, sz1, by1, ze1, Tryz.underlying2, sz2, by2, ze2, Tryz.underlying3, sz3, by3, ze3, Tryz.underlying4, sz4, by4, ze4, Tryz.underlying9, sz9, by9, ze9, Tryz.underlying22, sz22, by22, ze22, Tryz.underlying23, sz23, by23, ze23, Tryz.underlying25, sz25, by25, ze25, fa25_0, Tryz.underlying26, sz26, by26, ze26, Tryz.underlying28, sz28, by28, ze28, fa28_0, fa28_1, fa28_2, fa28_3, Tryz.underlying31, sz31, by31, ze31, Tryz.underlying40, sz40, by40, ze40, fa40_0, fa40_1, fa40_2, fa40_3, fa40_4, fa40_5, Tryz.underlying41, sz41, by41, ze41, Tryz.underlying42, sz42, by42, ze42, Tryz.underlying45, sz45, by45, ze45, Tryz.underlying46, sz46, by46, ze46, Tryz.underlying48, sz48, by48, ze48, Tryz.underlying50, sz50, by50, ze50, Tryz.underlying51, sz51, by51, ze51, Tryz.underlying53, sz53, by53, ze53, Tryz.underlying63, sz63, by63, ze63, fa63_0, fa63_1, fa63_2, fa63_3, fa63_4, fa63_5, fa63_6, fa63_7, Tryz.underlying66, sz66, by66, ze66, plan0, go_sem, ↓reduceIte, reduceCtorEq, Nat.reduceEqDiff, Nat.reduceLT, ↓all_qV, Int.reduceToNat, Int.reduceLT, Int.reduceLE, Nat.reduceAdd, Nat.reduceLeDiff, Nat.reduceMul, ev_callG, gcallK_b, gcallK_w, callGc_true, callGc_false]
  rintro _ cl0 ⟨oi, ou, op, rfl, hclo⟩
  simp (config := {maxSteps := 1000000}) only [wrapA, psiT_eq, ΨX, ΘB, ΘA, Θ9, Θ8, Θ7, Θ6, Θ5, Θ4, Θ3, Θ2, Θ1, Ψ1, newS, preT_eq, preL_eq, preB_eq, preC_eq, preN_eq, preR_eq, preP_eq, preX_eq, okP_eq, okX_eq, okN, okR, okC, okQ, okOd, arg1, arg2, arg3, intV, strV, lgV, cloV, lgOf_agg, cloOf_agg, map_psOf, Nat.reduceBEq, psiNew_eq, List.length_map, List.take_succ_cons, List.take_nil, Tryz.underlying1, sz1, by1, ze1, Tryz.underlying2, sz2, by2, ze2, Tryz.underlying3, sz3, by3, ze3, Tryz.underlying4, sz4, by4, ze4, Tryz.underlying9, sz9, by9, ze9, Tryz.underlying22, sz22, by22, ze22, Tryz.underlying23, sz23, by23, ze23, Tryz.underlying25, sz25, by25, ze25, fa25_0, Tryz.underlying26, sz26, by26, ze26, Tryz.underlying28, sz28, by28, ze28, fa28_0, fa28_1, fa28_2, fa28_3, Tryz.underlying31, sz31, by31, ze31, Tryz.underlying40, sz40, by40, ze40, fa40_0, fa40_1, fa40_2, fa40_3, fa40_4, fa40_5, Tryz.underlying41, sz41, by41, ze41, Tryz.underlying42, sz42, by42, ze42, Tryz.underlying45, sz45, by45, ze45, Tryz.underlying46, sz46, by46, ze46, Tryz.underlying48, sz48, by48, ze48, Tryz.underlying50, sz50, by50, ze50, Tryz.underlying51, sz51, by51, ze51, Tryz.underlying53, sz53, by53, ze53, Tryz.underlying63, sz63, by63, ze63, fa63_0, fa63_1, fa63_2, fa63_3, fa63_4, fa63_5, fa63_6, fa63_7, Tryz.underlying66, sz66, by66, ze66, plan0, go_sem, ↓reduceIte, reduceCtorEq, Nat.reduceEqDiff, Nat.reduceLT, ↓all_qV, Int.reduceToNat, Int.reduceLT, Int.reduceLE, Nat.reduceAdd, Nat.reduceLeDiff, Nat.reduceMul, ev_callG, gcallK_b, gcallK_w, callGc_true, callGc_false]
  refine AWp.sub (Θ' := ΘB) (Ψ' := Ψ1) (fun f θ h => h) Ψ1_sub ?_
  have hlen : l.length ≤ 10 := by have := hl.1; simp only [arg1] at this; omega
  refine AWp.join (c := ?c1) (Q := ?Q1) (T := planAt 14) (C := cxQ Tryz.prog BK ΘB Ψ1 [] [] 286) (fun z : Clo => ([(3, .pv (.int .i64 entity)), (4, .pv (.int .i64 day)), (5, .pv (.int .i64 year)), (7, .ptr 7 0), (8, .ptr 8 0), (13, .ptr 46 0), (14, .ptr 14 0), (15, .ptr 15 0)],
    [(7, .cells [.pv (.sl (rw0.map psV))]), (8, .cells [.pv (.int .i64 ci), .pv (.int .i64 cu), .pv (.int .i64 cp), .pv (.sl ccl)]), (14, .cells [.pv (.sl (l.map psV))]), (15, .cells [.pv (.int .i64 z.i), .pv (.int .i64 z.u), .pv (.int .i64 z.p), .rs 50 z.cl.length]), (46, .obj Tp), (50, .row 6 z.cl)])) (fun z => z.cl.length ≤ 6 ∧ ∀ x, x ∈ z.cl → isCl x) (fun main => ?main) ?rest
  case main =>
    refine AWp.here (T := plan7) (α := Unit) (fun _ => ([(3, .pv (.int .i64 entity)), (4, .pv (.int .i64 day)), (5, .pv (.int .i64 year)), (7, .ptr 7 0), (8, .ptr 8 0), (13, .ptr 46 0), (14, .ptr 14 0), (15, .ptr 15 0)],
      [(7, .cells [.pv (.sl (rw0.map psV))]), (8, .cells [.pv (.int .i64 ci), .pv (.int .i64 cu), .pv (.int .i64 cp), .pv (.sl ccl)]), (14, .cells [.pv (.sl (l.map psV))]), (15, .cells [.pv (.int .i64 oi), .pv (.int .i64 ou), .pv (.int .i64 op), .rs 50 cl0.length]), (46, .obj Tp), (50, .row 6 cl0)])) (fun _ => True) ⟨(), trivial, ⟨by simp [fitR, look, upd], by simp [fitH, hget, hset], rfl, rfl, rfl⟩⟩ ?_
    intro _ _
    simp (config := {maxSteps := 1000000}) only [Nat.reduceMod, plan7, ΨX, ΘB, ΘA, Θ9, Θ8, Θ7, Θ6, Θ5, Θ4, Θ3, Θ2, Θ1, Ψ1, newS, preT_eq, preL_eq, preB_eq, preC_eq, preN_eq, preR_eq, preP_eq, preX_eq, okP_eq, okX_eq, okN, okR, okC, okQ, okOd, arg1, arg2, arg3, intV, strV, lgV, cloV, lgOf_agg, cloOf_agg, map_psOf, Nat.reduceBEq, psiNew_eq, List.length_map, List.take_succ_cons, List.take_nil, Tryz.underlying1, sz1, by1, ze1, Tryz.underlying2, sz2, by2, ze2, Tryz.underlying3, sz3, by3, ze3, Tryz.underlying4, sz4, by4, ze4, Tryz.underlying9, sz9, by9, ze9, Tryz.underlying22, sz22, by22, ze22, Tryz.underlying23, sz23, by23, ze23, Tryz.underlying25, sz25, by25, ze25, fa25_0, Tryz.underlying26, sz26, by26, ze26, Tryz.underlying28, sz28, by28, ze28, fa28_0, fa28_1, fa28_2, fa28_3, Tryz.underlying31, sz31, by31, ze31, Tryz.underlying40, sz40, by40, ze40, fa40_0, fa40_1, fa40_2, fa40_3, fa40_4, fa40_5, Tryz.underlying41, sz41, by41, ze41, Tryz.underlying42, sz42, by42, ze42, Tryz.underlying45, sz45, by45, ze45, Tryz.underlying46, sz46, by46, ze46, Tryz.underlying48, sz48, by48, ze48, Tryz.underlying50, sz50, by50, ze50, Tryz.underlying51, sz51, by51, ze51, Tryz.underlying53, sz53, by53, ze53, Tryz.underlying63, sz63, by63, ze63, fa63_0, fa63_1, fa63_2, fa63_3, fa63_4, fa63_5, fa63_6, fa63_7, Tryz.underlying66, sz66, by66, ze66, go_sem, ↓reduceIte, reduceCtorEq, Nat.reduceEqDiff, Nat.reduceLT, ↓all_qV, Int.reduceToNat, Int.reduceLT, Int.reduceLE, Nat.reduceAdd, Nat.reduceLeDiff, Nat.reduceMul, ev_callG, gcallK_b, gcallK_w, callGc_true, callGc_false]
    have hc5 : cl0.length ≤ 5 := hclo.2.2.2.1
    have hcl0 : ∀ x, x ∈ cl0 → isCl x := fun x hx => (hclo.2.2.2.2 x hx).1
    refine fun x hx => ⟨fun _ n hn => ?_, fun _ => ⟨fun _ n hn => ?_, fun _ => ⟨fun _ n hn => ?_, fun _ => ?_⟩⟩⟩
    · refine main ⟨n, ou, op, cl0⟩ _ ⟨by simp only; omega, hcl0⟩ ?_
      exact ⟨by simp [fitR, look, upd], by simp [fitH, hget, hset], rfl, rfl, rfl⟩
    · refine main ⟨oi, n, op, cl0⟩ _ ⟨by simp only; omega, hcl0⟩ ?_
      exact ⟨by simp [fitR, look, upd], by simp [fitH, hget, hset], rfl, rfl, rfl⟩
    · refine main ⟨oi, ou, n, cl0⟩ _ ⟨by simp only; omega, hcl0⟩ ?_
      exact ⟨by simp [fitR, look, upd], by simp [fitH, hget, hset], rfl, rfl, rfl⟩
    · refine ⟨by kernel_rfl, ?_⟩
      refine ⟨isI_map [-1, 5, 6] (by decide), fun o1 ho1 d1 hd1 => ⟨fun e he => ?_, fun s1 hs1 => ⟨rfl, fun e he => by rw [List.mem_singleton] at he; subst he; rfl, Nat.le_refl _, by omega, by simp only [maxLen]; omega, ?_⟩⟩⟩
      · simp only [List.mem_cons, List.not_mem_nil, or_false] at he
        rcases he with rfl | rfl | rfl <;> exact ⟨_, rfl⟩
      refine main ⟨oi, ou, op, cl0 ++ [.agg [.int .i64 1, .int .i64 1, .int .i64 5, .int .i64 o1, .int .i64 d1, .str s1]]⟩ _ ⟨by simp only [List.length_append, List.length_singleton]; omega, fun y hy => ?_⟩ ?_
      · rcases List.mem_append.1 hy with hy | hy
        · exact hcl0 y hy
        · rw [List.mem_singleton] at hy; subst hy
          have hs : s1 = [49] ∨ s1 = [49, 46] ∨ s1 = [] := by simpa using hs1
          exact ⟨1, 1, 5, o1, d1, s1, rfl, by rcases hs with rfl | rfl | rfl <;> decide⟩
      · exact ⟨by simp [fitR, look, upd], by simp [fitH, hget, hset], rfl, rfl, rfl⟩
  case rest =>
    rintro ⟨zi, zu, zp, zcl⟩ ⟨hz1, hz2⟩
    simp only at hz1 hz2
    simp (config := {maxSteps := 1000000}) only [ΨX, ΘB, ΘA, Θ9, Θ8, Θ7, Θ6, Θ5, Θ4, Θ3, Θ2, Θ1, Ψ1, newS, preT_eq, preL_eq, preB_eq, preC_eq, preN_eq, preR_eq, preP_eq, preX_eq, okP_eq, okX_eq, okN, okR, okC, okQ, okOd, arg1, arg2, arg3, intV, strV, lgV, cloV, lgOf_agg, cloOf_agg, map_psOf, Nat.reduceBEq, psiNew_eq, List.length_map, List.take_succ_cons, List.take_nil, Tryz.underlying1, sz1, by1, ze1, Tryz.underlying2, sz2, by2, ze2, Tryz.underlying3, sz3, by3, ze3, Tryz.underlying4, sz4, by4, ze4, Tryz.underlying9, sz9, by9, ze9, Tryz.underlying22, sz22, by22, ze22, Tryz.underlying23, sz23, by23, ze23, Tryz.underlying25, sz25, by25, ze25, fa25_0, Tryz.underlying26, sz26, by26, ze26, Tryz.underlying28, sz28, by28, ze28, fa28_0, fa28_1, fa28_2, fa28_3, Tryz.underlying31, sz31, by31, ze31, Tryz.underlying40, sz40, by40, ze40, fa40_0, fa40_1, fa40_2, fa40_3, fa40_4, fa40_5, Tryz.underlying41, sz41, by41, ze41, Tryz.underlying42, sz42, by42, ze42, Tryz.underlying45, sz45, by45, ze45, Tryz.underlying46, sz46, by46, ze46, Tryz.underlying48, sz48, by48, ze48, Tryz.underlying50, sz50, by50, ze50, Tryz.underlying51, sz51, by51, ze51, Tryz.underlying53, sz53, by53, ze53, Tryz.underlying63, sz63, by63, ze63, fa63_0, fa63_1, fa63_2, fa63_3, fa63_4, fa63_5, fa63_6, fa63_7, Tryz.underlying66, sz66, by66, ze66, planAt, go_sem, ↓reduceIte, reduceCtorEq, Nat.reduceEqDiff, Nat.reduceLT, ↓all_qV, Int.reduceToNat, Int.reduceLT, Int.reduceLE, Nat.reduceAdd, Nat.reduceLeDiff, Nat.reduceMul, ev_callG, gcallK_b, gcallK_w, callGc_true, callGc_false]
    refine AWp.freezeC (T := plan0) 50 6 (α := Unit) (fun _ => zcl) (fun _ => ([(3, .pv (.int .i64 entity)), (4, .pv (.int .i64 day)), (5, .pv (.int .i64 year)), (7, .ptr 7 0), (8, .ptr 8 0), (13, .ptr 46 0), (14, .ptr 14 0), (15, .ptr 15 0)],
      [(7, .cells [.pv (.sl (rw0.map psV))]), (8, .cells [.pv (.int .i64 ci), .pv (.int .i64 cu), .pv (.int .i64 cp), .pv (.sl ccl)]), (14, .cells [.pv (.sl (l.map psV))]), (15, .cells [.pv (.int .i64 zi), .pv (.int .i64 zu), .pv (.int .i64 zp), .pv (.sl zcl)]), (46, .obj Tp)])) (fun _ => True)
      ⟨(), trivial, ⟨by simp [hget], rfl, by simp [fitF, look], by simp [fitHF, hget, frzC], rfl, rfl, rfl⟩⟩ ?_
    intro _ _
    simp (config := {maxSteps := 1000000}) only [k_exL_4, smallS, on_pp_eq, k_exL_13, rcloS, on_piip_eq, k_exL_15, ackS, on_p_eq, k_exL_16, rackS, k_exL_19, rprovS, on_li_eq, k_exL_20, adjS, k_exL_21, radjS, k_exL_22, closS, k_exL_23, rpsS, on_ll_eq, k_exL_24, reoS, on_pii_eq, k_exL_25, rreoS, k_exL_26, resS, k_exL_27, rresS, ΨX, ΘB, ΘA, Θ9, Θ8, Θ7, Θ6, Θ5, Θ4, Θ3, Θ2, Θ1, Ψ1, newS, preT_eq, preL_eq, preB_eq, preC_eq, preN_eq, preR_eq, preP_eq, preX_eq, okP_eq, okX_eq, okN, okR, okC, okQ, okOd, arg1, arg2, arg3, intV, strV, lgV, cloV, lgOf_agg, cloOf_agg, map_psOf, Nat.reduceBEq, psiNew_eq, List.length_map, List.take_succ_cons, List.take_nil, Tryz.underlying1, sz1, by1, ze1, Tryz.underlying2, sz2, by2, ze2, Tryz.underlying3, sz3, by3, ze3, Tryz.underlying4, sz4, by4, ze4, Tryz.underlying9, sz9, by9, ze9, Tryz.underlying22, sz22, by22, ze22, Tryz.underlying23, sz23, by23, ze23, Tryz.underlying25, sz25, by25, ze25, fa25_0, Tryz.underlying26, sz26, by26, ze26, Tryz.underlying28, sz28, by28, ze28, fa28_0, fa28_1, fa28_2, fa28_3, Tryz.underlying31, sz31, by31, ze31, Tryz.underlying40, sz40, by40, ze40, fa40_0, fa40_1, fa40_2, fa40_3, fa40_4, fa40_5, Tryz.underlying41, sz41, by41, ze41, Tryz.underlying42, sz42, by42, ze42, Tryz.underlying45, sz45, by45, ze45, Tryz.underlying46, sz46, by46, ze46, Tryz.underlying48, sz48, by48, ze48, Tryz.underlying50, sz50, by50, ze50, Tryz.underlying51, sz51, by51, ze51, Tryz.underlying53, sz53, by53, ze53, Tryz.underlying63, sz63, by63, ze63, fa63_0, fa63_1, fa63_2, fa63_3, fa63_4, fa63_5, fa63_6, fa63_7, Tryz.underlying66, sz66, by66, ze66, plan0, go_sem, ↓reduceIte, reduceCtorEq, Nat.reduceEqDiff, Nat.reduceLT, ↓all_qV, Int.reduceToNat, Int.reduceLT, Int.reduceLE, Nat.reduceAdd, Nat.reduceLeDiff, Nat.reduceMul, ev_callG, gcallK_b, gcallK_w, callGc_true, callGc_false]
    have hpb := (lkF_ok hl.2.1).2.1
    refine ⟨by kernel_rfl, fun c1 hc1 => ⟨⟨okL1, ⟨l, rfl, by omega⟩, ⟨c1, rfl, fun x hx => (hc1.2.2.2.2 x hx).1, by have := hc1.2.2.2.1; omega⟩, by omega⟩, by kernel_rfl, ⟨okL1, l, rfl, by omega, hpb⟩, fun bt hbt => ?_⟩⟩
    have hbt : bt.length ≤ 1000 := hbt
    obtain ⟨X, hX⟩ : ∃ X, (cloF l 1 719 ⟨c1.i, c1.u, c1.p, c1.cl⟩).1 = X := ⟨_, rfl⟩
    have hXl : X.length ≤ 1000 := by
      rw [← hX]; unfold cloF
      have := adj_len (l := l) (en := 1) (day := 719) (c := ⟨c1.i, c1.u, c1.p, c1.cl⟩)
      exact bif_len (Nat.zero_le _) (by simp only [List.length_append]; omega)
    rw [hX]
    have hx : ∀ k : Nat, k < 4 → ∃ x : List Pst, (([.sl (l.map psV), .sl (X.map psV), .sl (bt.map psV), .sl (rw0.map psV)] : List PV).drop k).take 1 = [.sl (x.map psV)] ∧ x.length ≤ 1000 := fun k hk => by
      have : k = 0 ∨ k = 1 ∨ k = 2 ∨ k = 3 := by omega
      rcases this with rfl | rfl | rfl | rfl
      · exact ⟨l, rfl, by omega⟩
      · exact ⟨X, rfl, by omega⟩
      · exact ⟨bt, rfl, by omega⟩
      · exact ⟨rw0, rfl, by omega⟩
    have hxl : ([.sl (l.map psV), .sl (X.map psV), .sl (bt.map psV), .sl (rw0.map psV)] : List PV).length = 4 := rfl
    generalize ([.sl (l.map psV), .sl (X.map psV), .sl (bt.map psV), .sl (rw0.map psV)] : List PV) = A at hx hxl ⊢
    refine AWp.loop (T := plan0) (α := Nat) (fun k => ([(3, .pv (.int .i64 entity)), (4, .pv (.int .i64 day)), (5, .pv (.int .i64 year)), (8, .ptr 8 0), (13, .ptr 46 0), (15, .ptr 15 0), (95, .pv (.agg A)), (96, .pv (.int .i64 k))],
      [(8, .cells [.pv (.int .i64 ci), .pv (.int .i64 cu), .pv (.int .i64 cp), .pv (.sl ccl)]), (15, .cells [.pv (.int .i64 zi), .pv (.int .i64 zu), .pv (.int .i64 zp), .pv (.sl zcl)]), (46, .obj Tp)])) (fun k => k ≤ 4) (fun k => 4 - k)
      ⟨0, Nat.zero_le _, ⟨by simp [fitR, look], by simp [fitH, hget], rfl, rfl, rfl⟩⟩ ?_
    intro k hk
    have hi1 : IntKind.i64.wrap ((k : Int) + 1) = ((k + 1 : Nat) : Int) := by rw [i64_in _ (by omega)]; omega
    by_cases hlt : k < 4
    · have c0 : decide ((k : Int) < 4) = true := by simp; omega
      obtain ⟨x, e1, hx1⟩ := hx k hlt
      simp (config := {maxSteps := 1000000}) only [c0, e1, hi1, hxl, indexA, Int.toNat_natCast, Nat.mul_one, k_exL_4, smallS, on_pp_eq, k_exL_13, rcloS, on_piip_eq, k_exL_15, ackS, on_p_eq, k_exL_16, rackS, k_exL_19, rprovS, on_li_eq, k_exL_20, adjS, k_exL_21, radjS, k_exL_22, closS, k_exL_23, rpsS, on_ll_eq, k_exL_24, reoS, on_pii_eq, k_exL_25, rreoS, k_exL_26, resS, k_exL_27, rresS, ΨX, ΘB, ΘA, Θ9, Θ8, Θ7, Θ6, Θ5, Θ4, Θ3, Θ2, Θ1, Ψ1, newS, preT_eq, preL_eq, preB_eq, preC_eq, preN_eq, preR_eq, preP_eq, preX_eq, okP_eq, okX_eq, okN, okR, okC, okQ, okOd, arg1, arg2, arg3, intV, strV, lgV, cloV, lgOf_agg, cloOf_agg, map_psOf, Nat.reduceBEq, psiNew_eq, List.length_map, List.take_succ_cons, List.take_nil, Tryz.underlying1, sz1, by1, ze1, Tryz.underlying2, sz2, by2, ze2, Tryz.underlying3, sz3, by3, ze3, Tryz.underlying4, sz4, by4, ze4, Tryz.underlying9, sz9, by9, ze9, Tryz.underlying22, sz22, by22, ze22, Tryz.underlying23, sz23, by23, ze23, Tryz.underlying25, sz25, by25, ze25, fa25_0, Tryz.underlying26, sz26, by26, ze26, Tryz.underlying28, sz28, by28, ze28, fa28_0, fa28_1, fa28_2, fa28_3, Tryz.underlying31, sz31, by31, ze31, Tryz.underlying40, sz40, by40, ze40, fa40_0, fa40_1, fa40_2, fa40_3, fa40_4, fa40_5, Tryz.underlying41, sz41, by41, ze41, Tryz.underlying42, sz42, by42, ze42, Tryz.underlying45, sz45, by45, ze45, Tryz.underlying46, sz46, by46, ze46, Tryz.underlying48, sz48, by48, ze48, Tryz.underlying50, sz50, by50, ze50, Tryz.underlying51, sz51, by51, ze51, Tryz.underlying53, sz53, by53, ze53, Tryz.underlying63, sz63, by63, ze63, fa63_0, fa63_1, fa63_2, fa63_3, fa63_4, fa63_5, fa63_6, fa63_7, Tryz.underlying66, sz66, by66, ze66, plan0, go_sem, ↓reduceIte, reduceCtorEq, Nat.reduceEqDiff, Nat.reduceLT, ↓all_qV, Int.reduceToNat, Int.reduceLT, Int.reduceLE, Nat.reduceAdd, Nat.reduceLeDiff, Nat.reduceMul, ev_callG, gcallK_b, gcallK_w, callGc_true, callGc_false]
      refine ⟨⟨by omega, by omega, by omega⟩, by kernel_rfl, fun c2 hc2 => ?_⟩
      have hy : ∀ j : Nat, j < 3 → ∃ y : Clo, (([.int .i64 c2.i, .int .i64 c2.u, .int .i64 c2.p, .sl c2.cl, .int .i64 zi, .int .i64 zu, .int .i64 zp, .sl zcl, .int .i64 ci, .int .i64 cu, .int .i64 cp, .sl ccl] : List PV).drop (j * 4)).take 4 = [.int .i64 y.i, .int .i64 y.u, .int .i64 y.p, .sl y.cl] ∧ y.cl.length ≤ 70 ∧ ∀ e, e ∈ y.cl → isCl e := fun j hj => by
        have : j = 0 ∨ j = 1 ∨ j = 2 := by omega
        rcases this with rfl | rfl | rfl
        · exact ⟨c2, rfl, by have := hc2.2.2.2.1; omega, fun e he => (hc2.2.2.2.2 e he).1⟩
        · exact ⟨⟨zi, zu, zp, zcl⟩, rfl, by simp only; omega, hz2⟩
        · exact ⟨⟨ci, cu, cp, ccl⟩, rfl, hccl, hcc⟩
      have hyl : ([.int .i64 c2.i, .int .i64 c2.u, .int .i64 c2.p, .sl c2.cl, .int .i64 zi, .int .i64 zu, .int .i64 zp, .sl zcl, .int .i64 ci, .int .i64 cu, .int .i64 cp, .sl ccl] : List PV).length = 12 := rfl
      generalize ([.int .i64 c2.i, .int .i64 c2.u, .int .i64 c2.p, .sl c2.cl, .int .i64 zi, .int .i64 zu, .int .i64 zp, .sl zcl, .int .i64 ci, .int .i64 cu, .int .i64 cp, .sl ccl] : List PV) = B at hy hyl ⊢
      refine AWp.loop (T := plan0) (α := Nat) (fun j => ([(3, .pv (.int .i64 entity)), (4, .pv (.int .i64 day)), (5, .pv (.int .i64 year)), (8, .ptr 8 0), (13, .ptr 46 0), (15, .ptr 15 0), (19, .ptr 19 0), (95, .pv (.agg A)), (96, .pv (.int .i64 k)), (103, .pv (.agg B)), (104, .pv (.int .i64 j))],
        [(8, .cells [.pv (.int .i64 ci), .pv (.int .i64 cu), .pv (.int .i64 cp), .pv (.sl ccl)]), (15, .cells [.pv (.int .i64 zi), .pv (.int .i64 zu), .pv (.int .i64 zp), .pv (.sl zcl)]), (19, .cells [.pv (.sl (x.map psV))]), (46, .obj Tp)])) (fun j => j ≤ 3) (fun j => 3 - j)
        ⟨0, Nat.zero_le _, ⟨by simp [fitR, look], by simp [fitH, hget], rfl, rfl, rfl⟩⟩ ?_
      intro j hj
      have hj1 : IntKind.i64.wrap ((j : Int) + 1) = ((j + 1 : Nat) : Int) := by rw [i64_in _ (by omega)]; omega
      by_cases hjl : j < 3
      · have c3 : decide ((j : Int) < 3) = true := by simp; omega
        obtain ⟨⟨yi, yu, yp, ycl⟩, e2, hy1, hy2⟩ := hy j hjl
        simp only at e2 hy1 hy2
        have hbq : (ackF ⟨yi, yu, yp, ycl⟩ != ackF ⟨yi, yu, yp, ycl⟩) = false := by simp
        simp (config := {maxSteps := 1000000}) only [c3, e2, hj1, hyl, hbq, indexA, Int.toNat_natCast, Nat.mul_one, k_exL_4, smallS, on_pp_eq, k_exL_13, rcloS, on_piip_eq, k_exL_15, ackS, on_p_eq, k_exL_16, rackS, k_exL_19, rprovS, on_li_eq, k_exL_20, adjS, k_exL_21, radjS, k_exL_22, closS, k_exL_23, rpsS, on_ll_eq, k_exL_24, reoS, on_pii_eq, k_exL_25, rreoS, k_exL_26, resS, k_exL_27, rresS, ΨX, ΘB, ΘA, Θ9, Θ8, Θ7, Θ6, Θ5, Θ4, Θ3, Θ2, Θ1, Ψ1, newS, preT_eq, preL_eq, preB_eq, preC_eq, preN_eq, preR_eq, preP_eq, preX_eq, okP_eq, okX_eq, okN, okR, okC, okQ, okOd, arg1, arg2, arg3, intV, strV, lgV, cloV, lgOf_agg, cloOf_agg, map_psOf, Nat.reduceBEq, psiNew_eq, List.length_map, List.take_succ_cons, List.take_nil, Tryz.underlying1, sz1, by1, ze1, Tryz.underlying2, sz2, by2, ze2, Tryz.underlying3, sz3, by3, ze3, Tryz.underlying4, sz4, by4, ze4, Tryz.underlying9, sz9, by9, ze9, Tryz.underlying22, sz22, by22, ze22, Tryz.underlying23, sz23, by23, ze23, Tryz.underlying25, sz25, by25, ze25, fa25_0, Tryz.underlying26, sz26, by26, ze26, Tryz.underlying28, sz28, by28, ze28, fa28_0, fa28_1, fa28_2, fa28_3, Tryz.underlying31, sz31, by31, ze31, Tryz.underlying40, sz40, by40, ze40, fa40_0, fa40_1, fa40_2, fa40_3, fa40_4, fa40_5, Tryz.underlying41, sz41, by41, ze41, Tryz.underlying42, sz42, by42, ze42, Tryz.underlying45, sz45, by45, ze45, Tryz.underlying46, sz46, by46, ze46, Tryz.underlying48, sz48, by48, ze48, Tryz.underlying50, sz50, by50, ze50, Tryz.underlying51, sz51, by51, ze51, Tryz.underlying53, sz53, by53, ze53, Tryz.underlying63, sz63, by63, ze63, fa63_0, fa63_1, fa63_2, fa63_3, fa63_4, fa63_5, fa63_6, fa63_7, Tryz.underlying66, sz66, by66, ze66, plan0, go_sem, ↓reduceIte, reduceCtorEq, Nat.reduceEqDiff, Nat.reduceLT, ↓all_qV, Int.reduceToNat, Int.reduceLT, Int.reduceLE, Nat.reduceAdd, Nat.reduceLeDiff, Nat.reduceMul, ev_callG, gcallK_b, gcallK_w, callGc_true, callGc_false]
        have hC : isClo (.agg [.int .i64 yi, .int .i64 yu, .int .i64 yp, .sl ycl]) := ⟨⟨yi, yu, yp, ycl⟩, rfl, hy2, by simp only; omega⟩
        refine ⟨⟨by omega, by omega, by omega⟩, by kernel_rfl, ⟨okC4, hC⟩, ⟨okC4, hC⟩, fun r hr n hn => ?_⟩
        have hz : ∀ i : Nat, i < 3 → ∃ a b : Int, (([.int .i64 entity, .int .i64 day, .int .i64 r, .int .i64 719, .int .i64 1, .int .i64 n] : List PV).drop (i * 2)).take 2 = [.int .i64 a, .int .i64 b] := fun i hi => by
          have : i = 0 ∨ i = 1 ∨ i = 2 := by omega
          rcases this with rfl | rfl | rfl
          · exact ⟨entity, day, rfl⟩
          · exact ⟨r, 719, rfl⟩
          · exact ⟨1, n, rfl⟩
        have hzl : ([.int .i64 entity, .int .i64 day, .int .i64 r, .int .i64 719, .int .i64 1, .int .i64 n] : List PV).length = 6 := rfl
        generalize ([.int .i64 entity, .int .i64 day, .int .i64 r, .int .i64 719, .int .i64 1, .int .i64 n] : List PV) = D at hz hzl ⊢
        refine AWp.loop (T := plan0) (α := Nat) (fun i => ([(3, .pv (.int .i64 entity)), (4, .pv (.int .i64 day)), (5, .pv (.int .i64 year)), (8, .ptr 8 0), (13, .ptr 46 0), (15, .ptr 15 0), (19, .ptr 19 0), (21, .ptr 21 0), (95, .pv (.agg A)), (96, .pv (.int .i64 k)), (103, .pv (.agg B)), (104, .pv (.int .i64 j)), (121, .pv (.agg D)), (122, .pv (.int .i64 i))],
          [(8, .cells [.pv (.int .i64 ci), .pv (.int .i64 cu), .pv (.int .i64 cp), .pv (.sl ccl)]), (15, .cells [.pv (.int .i64 zi), .pv (.int .i64 zu), .pv (.int .i64 zp), .pv (.sl zcl)]), (19, .cells [.pv (.sl (x.map psV))]), (21, .cells [.pv (.int .i64 yi), .pv (.int .i64 yu), .pv (.int .i64 yp), .pv (.sl ycl)]), (46, .obj Tp)])) (fun i => i ≤ 3) (fun i => 3 - i)
          ⟨0, Nat.zero_le _, ⟨by simp [fitR, look], by simp [fitH, hget], rfl, rfl, rfl⟩⟩ ?_
        intro i hi
        have hii : IntKind.i64.wrap ((i : Int) + 1) = ((i + 1 : Nat) : Int) := by rw [i64_in _ (by omega)]; omega
        by_cases hil : i < 3
        · have c4 : decide ((i : Int) < 3) = true := by simp; omega
          obtain ⟨ea, db, e3⟩ := hz i hil
          have q1 : ((provF ycl db).1 != (provF ycl db).1) = false := by simp
          have q2 : ((provF ycl db).2 != (provF ycl db).2) = false := by simp
          have q3 : ((adjF x ea db ⟨yi, yu, yp, ycl⟩).2 != (adjF x ea db ⟨yi, yu, yp, ycl⟩).2) = false := by simp
          have q4 : ((cloF x ea db ⟨yi, yu, yp, ycl⟩).2 != (cloF x ea db ⟨yi, yu, yp, ycl⟩).2) = false := by simp
          have q5 : ((reoF x ea db).2 != (reoF x ea db).2) = false := by simp
          have q6 : decide ((adjF x ea db ⟨yi, yu, yp, ycl⟩).1 = (adjF x ea db ⟨yi, yu, yp, ycl⟩).1) = true := by simp
          have q7 : decide ((cloF x ea db ⟨yi, yu, yp, ycl⟩).1 = (cloF x ea db ⟨yi, yu, yp, ycl⟩).1) = true := by simp
          have q8 : decide ((reoF x ea db).1 = (reoF x ea db).1) = true := by simp
          simp (config := {maxSteps := 2000000}) only [c4, e3, hii, hzl, q1, q2, q3, q4, q5, dT, BK_prov, provS, on_li_eq, indexA, Int.toNat_natCast, Nat.mul_one, k_exL_4, smallS, on_pp_eq, k_exL_13, rcloS, on_piip_eq, k_exL_15, ackS, on_p_eq, k_exL_16, rackS, k_exL_19, rprovS, on_li_eq, k_exL_20, adjS, k_exL_21, radjS, k_exL_22, closS, k_exL_23, rpsS, on_ll_eq, k_exL_24, reoS, on_pii_eq, k_exL_25, rreoS, k_exL_26, resS, k_exL_27, rresS, ΨX, ΘB, ΘA, Θ9, Θ8, Θ7, Θ6, Θ5, Θ4, Θ3, Θ2, Θ1, Ψ1, newS, preT_eq, preL_eq, preB_eq, preC_eq, preN_eq, preR_eq, preP_eq, preX_eq, okP_eq, okX_eq, okN, okR, okC, okQ, okOd, arg1, arg2, arg3, intV, strV, lgV, cloV, lgOf_agg, cloOf_agg, map_psOf, Nat.reduceBEq, psiNew_eq, List.length_map, List.take_succ_cons, List.take_nil, Tryz.underlying1, sz1, by1, ze1, Tryz.underlying2, sz2, by2, ze2, Tryz.underlying3, sz3, by3, ze3, Tryz.underlying4, sz4, by4, ze4, Tryz.underlying9, sz9, by9, ze9, Tryz.underlying22, sz22, by22, ze22, Tryz.underlying23, sz23, by23, ze23, Tryz.underlying25, sz25, by25, ze25, fa25_0, Tryz.underlying26, sz26, by26, ze26, Tryz.underlying28, sz28, by28, ze28, fa28_0, fa28_1, fa28_2, fa28_3, Tryz.underlying31, sz31, by31, ze31, Tryz.underlying40, sz40, by40, ze40, fa40_0, fa40_1, fa40_2, fa40_3, fa40_4, fa40_5, Tryz.underlying41, sz41, by41, ze41, Tryz.underlying42, sz42, by42, ze42, Tryz.underlying45, sz45, by45, ze45, Tryz.underlying46, sz46, by46, ze46, Tryz.underlying48, sz48, by48, ze48, Tryz.underlying50, sz50, by50, ze50, Tryz.underlying51, sz51, by51, ze51, Tryz.underlying53, sz53, by53, ze53, Tryz.underlying63, sz63, by63, ze63, fa63_0, fa63_1, fa63_2, fa63_3, fa63_4, fa63_5, fa63_6, fa63_7, Tryz.underlying66, sz66, by66, ze66, plan0, go_sem, ↓reduceIte, reduceCtorEq, Nat.reduceEqDiff, Nat.reduceLT, ↓all_qV, Int.reduceToNat, Int.reduceLT, Int.reduceLE, Nat.reduceAdd, Nat.reduceLeDiff, Nat.reduceMul, ev_callG, gcallK_b, gcallK_w, callGc_true, callGc_false]
          have hLx : isLg (.agg [.sl (x.map psV)]) := ⟨x, rfl, by omega⟩
          have l1 := adj_len (l := x) (en := ea) (day := db) (c := ⟨yi, yu, yp, ycl⟩)
          have l2 : (cloF x ea db ⟨yi, yu, yp, ycl⟩).1.length ≤ 2000 := by
            unfold cloF
            exact bif_len (Nat.zero_le _) (by simp only [List.length_append]; omega)
          have l3 : (reoF x ea db).1.length ≤ 2000 := by
            have := (reT_len ea db x x).2
            unfold reoF
            exact bif_len (Nat.zero_le _) (bif_len (Nat.zero_le _) (bif_len (Nat.zero_le _) (bif_len (Nat.zero_le _) (by simp only; omega))))
          and_intros
          all_goals try first | exact okL1 | exact okC4 | exact hLx | exact hC | exact hy2 | omega | exact ⟨_, rfl⟩ | exact ⟨_, rfl, by omega⟩
          exact ⟨i + 1, by omega, by omega, ⟨by simp [fitR, look], by simp [fitH, hget], rfl, rfl, rfl⟩⟩
        · have c4 : decide ((i : Int) < 3) = false := by simp; omega
          simp (config := {maxSteps := 1000000}) only [c4, hj1, k_exL_4, smallS, on_pp_eq, k_exL_13, rcloS, on_piip_eq, k_exL_15, ackS, on_p_eq, k_exL_16, rackS, k_exL_19, rprovS, on_li_eq, k_exL_20, adjS, k_exL_21, radjS, k_exL_22, closS, k_exL_23, rpsS, on_ll_eq, k_exL_24, reoS, on_pii_eq, k_exL_25, rreoS, k_exL_26, resS, k_exL_27, rresS, ΨX, ΘB, ΘA, Θ9, Θ8, Θ7, Θ6, Θ5, Θ4, Θ3, Θ2, Θ1, Ψ1, newS, preT_eq, preL_eq, preB_eq, preC_eq, preN_eq, preR_eq, preP_eq, preX_eq, okP_eq, okX_eq, okN, okR, okC, okQ, okOd, arg1, arg2, arg3, intV, strV, lgV, cloV, lgOf_agg, cloOf_agg, map_psOf, Nat.reduceBEq, psiNew_eq, List.length_map, List.take_succ_cons, List.take_nil, Tryz.underlying1, sz1, by1, ze1, Tryz.underlying2, sz2, by2, ze2, Tryz.underlying3, sz3, by3, ze3, Tryz.underlying4, sz4, by4, ze4, Tryz.underlying9, sz9, by9, ze9, Tryz.underlying22, sz22, by22, ze22, Tryz.underlying23, sz23, by23, ze23, Tryz.underlying25, sz25, by25, ze25, fa25_0, Tryz.underlying26, sz26, by26, ze26, Tryz.underlying28, sz28, by28, ze28, fa28_0, fa28_1, fa28_2, fa28_3, Tryz.underlying31, sz31, by31, ze31, Tryz.underlying40, sz40, by40, ze40, fa40_0, fa40_1, fa40_2, fa40_3, fa40_4, fa40_5, Tryz.underlying41, sz41, by41, ze41, Tryz.underlying42, sz42, by42, ze42, Tryz.underlying45, sz45, by45, ze45, Tryz.underlying46, sz46, by46, ze46, Tryz.underlying48, sz48, by48, ze48, Tryz.underlying50, sz50, by50, ze50, Tryz.underlying51, sz51, by51, ze51, Tryz.underlying53, sz53, by53, ze53, Tryz.underlying63, sz63, by63, ze63, fa63_0, fa63_1, fa63_2, fa63_3, fa63_4, fa63_5, fa63_6, fa63_7, Tryz.underlying66, sz66, by66, ze66, plan0, go_sem, ↓reduceIte, reduceCtorEq, Nat.reduceEqDiff, Nat.reduceLT, ↓all_qV, Int.reduceToNat, Int.reduceLT, Int.reduceLE, Nat.reduceAdd, Nat.reduceLeDiff, Nat.reduceMul, ev_callG, gcallK_b, gcallK_w, callGc_true, callGc_false]
          exact ⟨j + 1, by omega, by omega, ⟨by simp [fitR, look], by simp [fitH, hget], rfl, rfl, rfl⟩⟩
      · have c3 : decide ((j : Int) < 3) = false := by simp; omega
        simp (config := {maxSteps := 1000000}) only [c3, k_exL_4, smallS, on_pp_eq, k_exL_13, rcloS, on_piip_eq, k_exL_15, ackS, on_p_eq, k_exL_16, rackS, k_exL_19, rprovS, on_li_eq, k_exL_20, adjS, k_exL_21, radjS, k_exL_22, closS, k_exL_23, rpsS, on_ll_eq, k_exL_24, reoS, on_pii_eq, k_exL_25, rreoS, k_exL_26, resS, k_exL_27, rresS, ΨX, ΘB, ΘA, Θ9, Θ8, Θ7, Θ6, Θ5, Θ4, Θ3, Θ2, Θ1, Ψ1, newS, preT_eq, preL_eq, preB_eq, preC_eq, preN_eq, preR_eq, preP_eq, preX_eq, okP_eq, okX_eq, okN, okR, okC, okQ, okOd, arg1, arg2, arg3, intV, strV, lgV, cloV, lgOf_agg, cloOf_agg, map_psOf, Nat.reduceBEq, psiNew_eq, List.length_map, List.take_succ_cons, List.take_nil, Tryz.underlying1, sz1, by1, ze1, Tryz.underlying2, sz2, by2, ze2, Tryz.underlying3, sz3, by3, ze3, Tryz.underlying4, sz4, by4, ze4, Tryz.underlying9, sz9, by9, ze9, Tryz.underlying22, sz22, by22, ze22, Tryz.underlying23, sz23, by23, ze23, Tryz.underlying25, sz25, by25, ze25, fa25_0, Tryz.underlying26, sz26, by26, ze26, Tryz.underlying28, sz28, by28, ze28, fa28_0, fa28_1, fa28_2, fa28_3, Tryz.underlying31, sz31, by31, ze31, Tryz.underlying40, sz40, by40, ze40, fa40_0, fa40_1, fa40_2, fa40_3, fa40_4, fa40_5, Tryz.underlying41, sz41, by41, ze41, Tryz.underlying42, sz42, by42, ze42, Tryz.underlying45, sz45, by45, ze45, Tryz.underlying46, sz46, by46, ze46, Tryz.underlying48, sz48, by48, ze48, Tryz.underlying50, sz50, by50, ze50, Tryz.underlying51, sz51, by51, ze51, Tryz.underlying53, sz53, by53, ze53, Tryz.underlying63, sz63, by63, ze63, fa63_0, fa63_1, fa63_2, fa63_3, fa63_4, fa63_5, fa63_6, fa63_7, Tryz.underlying66, sz66, by66, ze66, plan0, go_sem, ↓reduceIte, reduceCtorEq, Nat.reduceEqDiff, Nat.reduceLT, ↓all_qV, Int.reduceToNat, Int.reduceLT, Int.reduceLE, Nat.reduceAdd, Nat.reduceLeDiff, Nat.reduceMul, ev_callG, gcallK_b, gcallK_w, callGc_true, callGc_false]
        intro r hr n hn m hm
        have hz : ∀ i : Nat, i < 3 → ∃ a b : Int, (([.int .i64 entity, .int .i64 year, .int .i64 r, .int .i64 n, .int .i64 0, .int .i64 m] : List PV).drop (i * 2)).take 2 = [.int .i64 a, .int .i64 b] := fun i hi => by
          have : i = 0 ∨ i = 1 ∨ i = 2 := by omega
          rcases this with rfl | rfl | rfl
          · exact ⟨entity, year, rfl⟩
          · exact ⟨r, n, rfl⟩
          · exact ⟨0, m, rfl⟩
        have hzl : ([.int .i64 entity, .int .i64 year, .int .i64 r, .int .i64 n, .int .i64 0, .int .i64 m] : List PV).length = 6 := rfl
        generalize ([.int .i64 entity, .int .i64 year, .int .i64 r, .int .i64 n, .int .i64 0, .int .i64 m] : List PV) = D at hz hzl ⊢
        refine AWp.loop (T := plan0) (α := Nat) (fun i => ([(3, .pv (.int .i64 entity)), (4, .pv (.int .i64 day)), (5, .pv (.int .i64 year)), (8, .ptr 8 0), (13, .ptr 46 0), (15, .ptr 15 0), (19, .ptr 19 0), (95, .pv (.agg A)), (96, .pv (.int .i64 k)), (253, .pv (.agg D)), (254, .pv (.int .i64 i))],
          [(8, .cells [.pv (.int .i64 ci), .pv (.int .i64 cu), .pv (.int .i64 cp), .pv (.sl ccl)]), (15, .cells [.pv (.int .i64 zi), .pv (.int .i64 zu), .pv (.int .i64 zp), .pv (.sl zcl)]), (19, .cells [.pv (.sl (x.map psV))]), (46, .obj Tp)])) (fun i => i ≤ 3) (fun i => 3 - i)
          ⟨0, Nat.zero_le _, ⟨by simp [fitR, look], by simp [fitH, hget], rfl, rfl, rfl⟩⟩ ?_
        intro i hi
        have hii : IntKind.i64.wrap ((i : Int) + 1) = ((i + 1 : Nat) : Int) := by rw [i64_in _ (by omega)]; omega
        by_cases hil : i < 3
        · have c4 : decide ((i : Int) < 3) = true := by simp; omega
          obtain ⟨ea, db, e3⟩ := hz i hil
          have q1 : ((resF x ea db).1 != (resF x ea db).1) = false := by simp
          have q2 : ((resF x ea db).2 != (resF x ea db).2) = false := by simp
          simp (config := {maxSteps := 2000000}) only [c4, e3, hii, hzl, q1, q2, indexA, Int.toNat_natCast, Nat.mul_one, k_exL_4, smallS, on_pp_eq, k_exL_13, rcloS, on_piip_eq, k_exL_15, ackS, on_p_eq, k_exL_16, rackS, k_exL_19, rprovS, on_li_eq, k_exL_20, adjS, k_exL_21, radjS, k_exL_22, closS, k_exL_23, rpsS, on_ll_eq, k_exL_24, reoS, on_pii_eq, k_exL_25, rreoS, k_exL_26, resS, k_exL_27, rresS, ΨX, ΘB, ΘA, Θ9, Θ8, Θ7, Θ6, Θ5, Θ4, Θ3, Θ2, Θ1, Ψ1, newS, preT_eq, preL_eq, preB_eq, preC_eq, preN_eq, preR_eq, preP_eq, preX_eq, okP_eq, okX_eq, okN, okR, okC, okQ, okOd, arg1, arg2, arg3, intV, strV, lgV, cloV, lgOf_agg, cloOf_agg, map_psOf, Nat.reduceBEq, psiNew_eq, List.length_map, List.take_succ_cons, List.take_nil, Tryz.underlying1, sz1, by1, ze1, Tryz.underlying2, sz2, by2, ze2, Tryz.underlying3, sz3, by3, ze3, Tryz.underlying4, sz4, by4, ze4, Tryz.underlying9, sz9, by9, ze9, Tryz.underlying22, sz22, by22, ze22, Tryz.underlying23, sz23, by23, ze23, Tryz.underlying25, sz25, by25, ze25, fa25_0, Tryz.underlying26, sz26, by26, ze26, Tryz.underlying28, sz28, by28, ze28, fa28_0, fa28_1, fa28_2, fa28_3, Tryz.underlying31, sz31, by31, ze31, Tryz.underlying40, sz40, by40, ze40, fa40_0, fa40_1, fa40_2, fa40_3, fa40_4, fa40_5, Tryz.underlying41, sz41, by41, ze41, Tryz.underlying42, sz42, by42, ze42, Tryz.underlying45, sz45, by45, ze45, Tryz.underlying46, sz46, by46, ze46, Tryz.underlying48, sz48, by48, ze48, Tryz.underlying50, sz50, by50, ze50, Tryz.underlying51, sz51, by51, ze51, Tryz.underlying53, sz53, by53, ze53, Tryz.underlying63, sz63, by63, ze63, fa63_0, fa63_1, fa63_2, fa63_3, fa63_4, fa63_5, fa63_6, fa63_7, Tryz.underlying66, sz66, by66, ze66, plan0, go_sem, ↓reduceIte, reduceCtorEq, Nat.reduceEqDiff, Nat.reduceLT, ↓all_qV, Int.reduceToNat, Int.reduceLT, Int.reduceLE, Nat.reduceAdd, Nat.reduceLeDiff, Nat.reduceMul, ev_callG, gcallK_b, gcallK_w, callGc_true, callGc_false]
          have hLx : isLg (.agg [.sl (x.map psV)]) := ⟨x, rfl, by omega⟩
          and_intros
          all_goals try first | exact okL1 | exact hLx | omega
          exact ⟨i + 1, by omega, by omega, ⟨by simp [fitR, look], by simp [fitH, hget], rfl, rfl, rfl⟩⟩
        · have c4 : decide ((i : Int) < 3) = false := by simp; omega
          simp (config := {maxSteps := 1000000}) only [c4, hi1, k_exL_4, smallS, on_pp_eq, k_exL_13, rcloS, on_piip_eq, k_exL_15, ackS, on_p_eq, k_exL_16, rackS, k_exL_19, rprovS, on_li_eq, k_exL_20, adjS, k_exL_21, radjS, k_exL_22, closS, k_exL_23, rpsS, on_ll_eq, k_exL_24, reoS, on_pii_eq, k_exL_25, rreoS, k_exL_26, resS, k_exL_27, rresS, ΨX, ΘB, ΘA, Θ9, Θ8, Θ7, Θ6, Θ5, Θ4, Θ3, Θ2, Θ1, Ψ1, newS, preT_eq, preL_eq, preB_eq, preC_eq, preN_eq, preR_eq, preP_eq, preX_eq, okP_eq, okX_eq, okN, okR, okC, okQ, okOd, arg1, arg2, arg3, intV, strV, lgV, cloV, lgOf_agg, cloOf_agg, map_psOf, Nat.reduceBEq, psiNew_eq, List.length_map, List.take_succ_cons, List.take_nil, Tryz.underlying1, sz1, by1, ze1, Tryz.underlying2, sz2, by2, ze2, Tryz.underlying3, sz3, by3, ze3, Tryz.underlying4, sz4, by4, ze4, Tryz.underlying9, sz9, by9, ze9, Tryz.underlying22, sz22, by22, ze22, Tryz.underlying23, sz23, by23, ze23, Tryz.underlying25, sz25, by25, ze25, fa25_0, Tryz.underlying26, sz26, by26, ze26, Tryz.underlying28, sz28, by28, ze28, fa28_0, fa28_1, fa28_2, fa28_3, Tryz.underlying31, sz31, by31, ze31, Tryz.underlying40, sz40, by40, ze40, fa40_0, fa40_1, fa40_2, fa40_3, fa40_4, fa40_5, Tryz.underlying41, sz41, by41, ze41, Tryz.underlying42, sz42, by42, ze42, Tryz.underlying45, sz45, by45, ze45, Tryz.underlying46, sz46, by46, ze46, Tryz.underlying48, sz48, by48, ze48, Tryz.underlying50, sz50, by50, ze50, Tryz.underlying51, sz51, by51, ze51, Tryz.underlying53, sz53, by53, ze53, Tryz.underlying63, sz63, by63, ze63, fa63_0, fa63_1, fa63_2, fa63_3, fa63_4, fa63_5, fa63_6, fa63_7, Tryz.underlying66, sz66, by66, ze66, plan0, go_sem, ↓reduceIte, reduceCtorEq, Nat.reduceEqDiff, Nat.reduceLT, ↓all_qV, Int.reduceToNat, Int.reduceLT, Int.reduceLE, Nat.reduceAdd, Nat.reduceLeDiff, Nat.reduceMul, ev_callG, gcallK_b, gcallK_w, callGc_true, callGc_false]
          exact ⟨k + 1, by omega, by omega, ⟨by simp [fitR, look], by simp [fitH, hget], rfl, rfl, rfl⟩⟩
    · have c0 : decide ((k : Int) < 4) = false := by simp; omega
      simp (config := {maxSteps := 1000000}) only [c0, BK_sane, saneS, on__eq, ΨX, ΘB, ΘA, Θ9, Θ8, Θ7, Θ6, Θ5, Θ4, Θ3, Θ2, Θ1, Ψ1, newS, preT_eq, preL_eq, preB_eq, preC_eq, preN_eq, preR_eq, preP_eq, preX_eq, okP_eq, okX_eq, okN, okR, okC, okQ, okOd, arg1, arg2, arg3, intV, strV, lgV, cloV, lgOf_agg, cloOf_agg, map_psOf, Nat.reduceBEq, psiNew_eq, List.length_map, List.take_succ_cons, List.take_nil, Tryz.underlying1, sz1, by1, ze1, Tryz.underlying2, sz2, by2, ze2, Tryz.underlying3, sz3, by3, ze3, Tryz.underlying4, sz4, by4, ze4, Tryz.underlying9, sz9, by9, ze9, Tryz.underlying22, sz22, by22, ze22, Tryz.underlying23, sz23, by23, ze23, Tryz.underlying25, sz25, by25, ze25, fa25_0, Tryz.underlying26, sz26, by26, ze26, Tryz.underlying28, sz28, by28, ze28, fa28_0, fa28_1, fa28_2, fa28_3, Tryz.underlying31, sz31, by31, ze31, Tryz.underlying40, sz40, by40, ze40, fa40_0, fa40_1, fa40_2, fa40_3, fa40_4, fa40_5, Tryz.underlying41, sz41, by41, ze41, Tryz.underlying42, sz42, by42, ze42, Tryz.underlying45, sz45, by45, ze45, Tryz.underlying46, sz46, by46, ze46, Tryz.underlying48, sz48, by48, ze48, Tryz.underlying50, sz50, by50, ze50, Tryz.underlying51, sz51, by51, ze51, Tryz.underlying53, sz53, by53, ze53, Tryz.underlying63, sz63, by63, ze63, fa63_0, fa63_1, fa63_2, fa63_3, fa63_4, fa63_5, fa63_6, fa63_7, Tryz.underlying66, sz66, by66, ze66, plan0, go_sem, ↓reduceIte, reduceCtorEq, Nat.reduceEqDiff, Nat.reduceLT, ↓all_qV, Int.reduceToNat, Int.reduceLT, Int.reduceLE, Nat.reduceAdd, Nat.reduceLeDiff, Nat.reduceMul, ev_callG, gcallK_b, gcallK_w, callGc_true, callGc_false]
end Go.AM
namespace Go.AM
open Go Go.Proofs
set_option linter.unusedVariables false
abbrev shI : Sh := .int .i64
abbrev shPs : Sh := .st [shI, shI, shI, shI, shI, shI, shI, shI]
abbrev shLg : Sh := .st [.sl shPs]
abbrev shCl : Sh := .st [shI, shI, shI, shI, shI, .str]
abbrev shClo : Sh := .st [shI, shI, shI, .sl shCl]
theorem ps_of {cs : List PV} (h : HasSh shPs cs) : ∃ x : Pst, boxSh shPs cs = psV x := by
  obtain ⟨_, _, rfl, h1, h⟩ := h.cons_inv
  obtain ⟨_, _, rfl, h2, h⟩ := h.cons_inv
  obtain ⟨_, _, rfl, h3, h⟩ := h.cons_inv
  obtain ⟨_, _, rfl, h4, h⟩ := h.cons_inv
  obtain ⟨_, _, rfl, h5, h⟩ := h.cons_inv
  obtain ⟨_, _, rfl, h6, h⟩ := h.cons_inv
  obtain ⟨_, _, rfl, h7, h⟩ := h.cons_inv
  obtain ⟨_, _, rfl, h8, h⟩ := h.cons_inv
  obtain rfl := h.nil_inv
  obtain ⟨n1, rfl, _⟩ := h1.i64_inv
  obtain ⟨n2, rfl, _⟩ := h2.i64_inv
  obtain ⟨n3, rfl, _⟩ := h3.i64_inv
  obtain ⟨n4, rfl, _⟩ := h4.i64_inv
  obtain ⟨n5, rfl, _⟩ := h5.i64_inv
  obtain ⟨n6, rfl, _⟩ := h6.i64_inv
  obtain ⟨n7, rfl, _⟩ := h7.i64_inv
  obtain ⟨n8, rfl, _⟩ := h8.i64_inv
  exact ⟨⟨n1, n2, n3, n4, n5, n6, n7, n8⟩, rfl⟩
theorem pss_of : ∀ {es : List PV}, (∀ x, x ∈ es → ∃ ds, x = boxSh shPs ds ∧ HasSh shPs ds) → ∃ l : List Pst, es = l.map psV
  | [], _ => ⟨[], rfl⟩
  | e :: r, h => by
    obtain ⟨ds, rfl, hd⟩ := h e List.mem_cons_self
    obtain ⟨x, hx⟩ := ps_of hd
    obtain ⟨l, rfl⟩ := pss_of (es := r) (fun y hy => h y (List.mem_cons_of_mem _ hy))
    exact ⟨x :: l, by rw [hx]; rfl⟩
theorem lg_of {cs : List PV} (h : HasSh shLg cs) : isLg0 (boxSh shLg cs) := by
  obtain ⟨_, _, rfl, h1, h⟩ := h.cons_inv
  obtain rfl := h.nil_inv
  obtain ⟨es, rfl, hl, hall⟩ := h1.sl_inv
  obtain ⟨l, rfl⟩ := pss_of hall
  rw [List.length_map] at hl
  exact ⟨l, rfl, hl⟩
theorem cl_of {cs : List PV} (h : HasSh shCl cs) : isCl0 (boxSh shCl cs) := by
  obtain ⟨_, _, rfl, h1, h⟩ := h.cons_inv
  obtain ⟨_, _, rfl, h2, h⟩ := h.cons_inv
  obtain ⟨_, _, rfl, h3, h⟩ := h.cons_inv
  obtain ⟨_, _, rfl, h4, h⟩ := h.cons_inv
  obtain ⟨_, _, rfl, h5, h⟩ := h.cons_inv
  obtain ⟨_, _, rfl, h6, h⟩ := h.cons_inv
  obtain rfl := h.nil_inv
  obtain ⟨n1, rfl, _⟩ := h1.i64_inv
  obtain ⟨n2, rfl, _⟩ := h2.i64_inv
  obtain ⟨n3, rfl, _⟩ := h3.i64_inv
  obtain ⟨n4, rfl, _⟩ := h4.i64_inv
  obtain ⟨n5, rfl, _⟩ := h5.i64_inv
  obtain ⟨s, rfl, hs⟩ := h6.str_inv
  exact ⟨n1, n2, n3, n4, n5, s, rfl, hs⟩
theorem clo_of {cs : List PV} (h : HasSh shClo cs) : isClo0 (boxSh shClo cs) := by
  obtain ⟨_, _, rfl, h1, h⟩ := h.cons_inv
  obtain ⟨_, _, rfl, h2, h⟩ := h.cons_inv
  obtain ⟨_, _, rfl, h3, h⟩ := h.cons_inv
  obtain ⟨_, _, rfl, h4, h⟩ := h.cons_inv
  obtain rfl := h.nil_inv
  obtain ⟨n1, rfl, _⟩ := h1.i64_inv
  obtain ⟨n2, rfl, _⟩ := h2.i64_inv
  obtain ⟨n3, rfl, _⟩ := h3.i64_inv
  obtain ⟨es, rfl, hl, hall⟩ := h4.sl_inv
  exact ⟨⟨n1, n2, n3, es⟩, rfl, fun x hx => by obtain ⟨ds, rfl, hd⟩ := hall x hx; exact cl_of hd, hl⟩
end Go.AM
