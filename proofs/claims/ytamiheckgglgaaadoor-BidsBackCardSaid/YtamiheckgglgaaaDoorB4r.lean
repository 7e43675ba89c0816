/-
  A part of a proof: see the last text of this claim for what is proved.
-/
import Derived.Test.YtamiheckgglgaaaDoorB4m
import Derived.Test.YtamiheckgglgaaaDoorB4q
import Derived.Test.YtamiheckgglgaaaDoorZMa
/-! BidsBack -/
namespace Go.AM
open Go Go.Proofs Go.IntWalk
set_option maxRecDepth 100000
set_option maxHeartbeats 1000000
set_option linter.unusedSimpArgs false
set_option linter.unusedVariables false
noncomputable def backLS : PSpec := on_l (fun es => es.length ≤ 9223372036854775807 ∧ ∀ e, e ∈ es → isI e) (fun _ => .bool true)
theorem k_backL_11 {args : List PV} : Bj 11 args = sameS args := rfl
theorem k_backL_13 {args : List PV} : Bj 13 args = saneS args := rfl
theorem k_backL_14 {args : List PV} : Bj 14 args = formatS args := rfl
theorem k_backL_15 {args : List PV} : Bj 15 args = parseS args := rfl
theorem k_backL_16 {args : List PV} : Bj 16 args = rsortS args := rfl
theorem w_backLS : PSound GG 4 backLS := by
  refine PSound.of_wpc (C := cxQ Tryd.prog Bj Θ4 Ψn [] [] 60) (T := planA) Tryd.func4 rfl rfl rfl (Fit.all (G := GG) hBj hΘ4 hΨn mixed) (fun args h => ?_)
  unfold backLS at h
  obtain ⟨es0, rfl, he1, he2⟩ := on_l_inv h
  refine ⟨by simp [cxQ], ?_⟩
  simp only [backLS, on_l_eq, k_backL_11, sameS, on_ll_eq, k_backL_13, saneS, on__eq, k_backL_14, formatS, on_l_eq, k_backL_15, parseS, on_s_eq, k_backL_16, rsortS, Ψn, Ψt5, Ψt4, Ψt3, Ψt2, Ψt1, Θ4, Θ3, Θ2, Θ1, Ψ1, newS, preT_eq, nS, preN_eq, preB_eq, okN, arg1, arg2, intV, bidsV, map_bidOf, Nat.reduceBEq, psiNew_eq, psiRow_eq, all_sl, sortS, on_l_eq, List.length_map, List.take_succ_cons, List.take_nil, Tryd.underlying1, sz1, by1, ze1, Tryd.underlying2, sz2, by2, ze2, Tryd.underlying3, sz3, by3, ze3, Tryd.underlying4, sz4, by4, ze4, Tryd.underlying9, sz9, by9, ze9, Tryd.underlying22, sz22, by22, ze22, Tryd.underlying23, sz23, by23, ze23, Tryd.underlying25, sz25, by25, ze25, Tryd.underlying28, sz28, by28, ze28, fa28_0, fa28_1, fa28_2, fa28_3, fa28_4, Tryd.underlying35, sz35, by35, ze35, Tryd.underlying36, sz36, by36, ze36, Tryd.underlying38, sz38, by38, ze38, Tryd.f4, argL, planA, go_sem, ↓reduceIte, reduceCtorEq, Nat.reduceEqDiff, Nat.reduceLT, ↓all_qVz, ↓all_qVz', Int.reduceToNat, Int.reduceLT, Int.reduceLE, Nat.reduceAdd, Nat.reduceLeDiff, Nat.reduceMul, ev_callG, gcallK_b, gcallK_w, callGc_true, callGc_false]
  refine ⟨⟨he1, he2⟩, ?_⟩
  refine AWp.here (T := plan0) (α := Unit) (fun _ => ([(2, .pv (.bool false)), (3, .ptr 13 0)], [(13, .obj Tp)])) (fun _ => True) ⟨(), trivial, ⟨by simp [fitR, look], by simp [fitH, hget], rfl, rfl, rfl⟩⟩ ?_
  intro _ _
  simp only [k_backL_11, sameS, on_ll_eq, k_backL_13, saneS, on__eq, k_backL_14, formatS, on_l_eq, k_backL_15, parseS, on_s_eq, k_backL_16, rsortS, Ψn, Ψt5, Ψt4, Ψt3, Ψt2, Ψt1, Θ4, Θ3, Θ2, Θ1, Ψ1, newS, preT_eq, nS, preN_eq, preB_eq, okN, arg1, arg2, intV, bidsV, map_bidOf, Nat.reduceBEq, psiNew_eq, psiRow_eq, all_sl, sortS, on_l_eq, List.length_map, List.take_succ_cons, List.take_nil, Tryd.underlying1, sz1, by1, ze1, Tryd.underlying2, sz2, by2, ze2, Tryd.underlying3, sz3, by3, ze3, Tryd.underlying4, sz4, by4, ze4, Tryd.underlying9, sz9, by9, ze9, Tryd.underlying22, sz22, by22, ze22, Tryd.underlying23, sz23, by23, ze23, Tryd.underlying25, sz25, by25, ze25, Tryd.underlying28, sz28, by28, ze28, fa28_0, fa28_1, fa28_2, fa28_3, fa28_4, Tryd.underlying35, sz35, by35, ze35, Tryd.underlying36, sz36, by36, ze36, Tryd.underlying38, sz38, by38, ze38, plan0, go_sem, ↓reduceIte, reduceCtorEq, Nat.reduceEqDiff, Nat.reduceLT, ↓all_qVz, ↓all_qVz', Int.reduceToNat, Int.reduceLT, Int.reduceLE, Nat.reduceAdd, Nat.reduceLeDiff, Nat.reduceMul, ev_callG, gcallK_b, gcallK_w, callGc_true, callGc_false]
  intro l hl
  obtain ⟨hl1, hl2⟩ := hl
  rw [Stop_eq]
  have hn : l.length ≤ 10 := by simp only [arg1] at hl1; omega
  have hv := bidsG_vB hl2
  have hnd := bidsG_nd hl2
  have hst := srt_str hnd
  have hsl := srtL_length l
  have hsv : ∀ x, x ∈ srtL l → vB x = true := fun x hx => hv x ((mem_isort ltB).1 hx)
  have hsd : (srtL l).Pairwise fun a b => a.n ≠ b.n := (List.Perm.pairwise_iff (fun {a b} hab => Ne.symm hab) (isort_perm ltB l)).2 hnd
  have k1 : chkF l = 0 := chkF_ok hv (by omega) hnd
  have k2 : chkF (srtL l) = 0 := chkF_ok hsv (by omega) hsd
  have k3 : srtL (srtL l) = srtL l := srt_id hst
  have p1 : prs (fmtL (srtL l)) = (srtL l, 0, 0) := prs_fmt hsv hst (by omega)
  have hfl := fmtL_len _ hsv
  have q9 : ((0 : Int) == 0) = true := rfl
  simp only [k1, k2, k3, p1, q9, cond_true, k_backL_11, sameS, on_ll_eq, k_backL_13, saneS, on__eq, k_backL_14, formatS, on_l_eq, k_backL_15, parseS, on_s_eq, k_backL_16, rsortS, Ψn, Ψt5, Ψt4, Ψt3, Ψt2, Ψt1, Θ4, Θ3, Θ2, Θ1, Ψ1, newS, preT_eq, nS, preN_eq, preB_eq, okN, arg1, arg2, intV, bidsV, map_bidOf, Nat.reduceBEq, psiNew_eq, psiRow_eq, all_sl, sortS, on_l_eq, List.length_map, List.take_succ_cons, List.take_nil, Tryd.underlying1, sz1, by1, ze1, Tryd.underlying2, sz2, by2, ze2, Tryd.underlying3, sz3, by3, ze3, Tryd.underlying4, sz4, by4, ze4, Tryd.underlying9, sz9, by9, ze9, Tryd.underlying22, sz22, by22, ze22, Tryd.underlying23, sz23, by23, ze23, Tryd.underlying25, sz25, by25, ze25, Tryd.underlying28, sz28, by28, ze28, fa28_0, fa28_1, fa28_2, fa28_3, fa28_4, Tryd.underlying35, sz35, by35, ze35, Tryd.underlying36, sz36, by36, ze36, Tryd.underlying38, sz38, by38, ze38, plan0, go_sem, ↓reduceIte, reduceCtorEq, Nat.reduceEqDiff, Nat.reduceLT, ↓all_qV, Int.reduceToNat, Int.reduceLT, Int.reduceLE, Nat.reduceAdd, Nat.reduceLeDiff, Nat.reduceMul, ev_callG, gcallK_b, gcallK_w, callGc_true, callGc_false, List.forall_mem_cons, List.not_mem_nil, PV.one, AV.one]
  exact ⟨⟨⟨l, rfl⟩, by omega⟩, by omega, ⟨⟨_, rfl⟩, by omega⟩, ⟨⟨l, rfl⟩, by omega⟩, by omega, _, rfl⟩
end Go.AM
