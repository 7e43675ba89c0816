/-
  A part of a proof: see the last text of this claim for what is proved.
-/
import Derived.Test.YtcmkdpdinjkokaaGreatDoorX6k
import Derived.Test.YtcmkdpdinjkokaaGreatDoorZMa
namespace Go.AM
open Go Go.Proofs Go.IntWalk
set_option maxRecDepth 100000
set_option maxHeartbeats 1000000
set_option linter.unusedSimpArgs false
set_option linter.unusedVariables false
def preRe (args : List PV) : Prop := ∃ (l : PV) (n : Int), args = [l, .int .i64 n] ∧ lawP l ∧ 0 ≤ n ∧ n ≤ 10
def okRe (args : List PV) (es : List PV) : Prop := es.length ≤ 20 ∧ (∀ x, x ∈ es → recP (args.getD 0 default) x) ∧ ∃ day, RecI day es
noncomputable def receiptsS : QSpec := qV Tp preRe slV okRe
theorem w_receiptsS : QSound GG 28 receiptsS := by
  unfold receiptsS
  refine QSound.of_wpcV (C := cxQ Tryz.prog Φ14 Θ5 noΨ [] [9000] 58) 9000 Tryz.func28 rfl rfl rfl (Fit.all (G := GG) hΦ14 hΘ5 hnoΨ mixed) rfl (fun args h => ?_) (fun args h => ?_)
  · exact ⟨[], Nat.zero_le _, (fun x hx => by cases hx), 0, RecI.nil⟩
  · obtain ⟨l, n, rfl, ⟨first, years, tree, a, b, c, d, e, f, g, rfl, hf, hy, ht, h9, _⟩, hn⟩ := h
    refine ⟨by simp [cxQ], ?_⟩
    refine wpc_sound (T := plan0) _ _ _ ?_
    have hw1 : IntKind.i64.wrap (n + 1) = n + 1 := i64_in _ (by omega)
    simp only [hw1, lawV, Θ5, Θ4, Θ3, Θ2, Θ1, nS, preN_eq, okN, arg1, intV, Nat.reduceBEq, Φ14, Φ13, leavesS, on_ls_eq, List.take_succ_cons, List.take_nil, Tryz.underlying1, sz1, by1, ze1, Tryz.underlying2, sz2, by2, ze2, Tryz.underlying3, sz3, by3, ze3, Tryz.underlying4, sz4, by4, ze4, Tryz.underlying5, sz5, by5, ze5, Tryz.underlying9, sz9, by9, ze9, Tryz.underlying22, sz22, by22, ze22, Tryz.underlying23, sz23, by23, ze23, Tryz.underlying25, sz25, by25, ze25, Tryz.underlying26, sz26, by26, ze26, Tryz.underlying27, sz27, by27, ze27, Tryz.underlying28, sz28, by28, ze28, Tryz.underlying29, sz29, by29, ze29, Tryz.underlying30, sz30, by30, ze30, Tryz.underlying31, sz31, by31, ze31, Tryz.underlying33, sz33, by33, ze33, fa33_0, fa33_1, fa33_2, fa33_3, fa33_4, fa33_5, fa33_6, fa33_7, fa33_8, fa33_9, Tryz.underlying35, sz35, by35, ze35, Tryz.underlying41, sz41, by41, ze41, fa41_0, fa41_1, fa41_2, fa41_3, Tryz.underlying44, sz44, by44, ze44, Tryz.underlying55, sz55, by55, ze55, fa55_0, fa55_1, Tryz.underlying57, sz57, by57, ze57, fa57_0, fa57_1, fa57_2, fa57_3, fa57_4, fa57_5, fa57_6, Tryz.underlying77, sz77, by77, ze77, fa77_0, fa77_1, fa77_2, Tryz.underlying86, sz86, by86, ze86, fa86_0, fa86_1, fa86_2, Tryz.underlying88, sz88, by88, ze88, fa88_0, fa88_1, fa88_2, fa88_3, Tryz.underlying89, sz89, by89, ze89, fa89_0, fa89_1, fa89_2, Tryz.underlying92, sz92, by92, ze92, fa92_0, fa92_1, fa92_2, fa92_3, Tryz.underlying93, sz93, by93, ze93, Tryz.underlying95, sz95, by95, ze95, fa95_0, fa95_1, fa95_2, Tryz.f28, plan0, go_sem, ↓reduceIte, reduceCtorEq, Nat.reduceEqDiff, Nat.reduceLT, ↓all_qVs, Int.reduceToNat, Int.reduceLT, Int.reduceLE, Nat.reduceAdd, Nat.reduceLeDiff, Nat.reduceMul]
    refine ⟨⟨ht.isH, by have := ht.1; omega⟩, ⟨by omega, by omega⟩, fun x hx => ?_⟩
    simp only [Later_eq]
    have hlv := leaves9 ht h9 [57] (.inr rfl)
    have hlm := leavesF_mem (top := [57]) ht
    have hll : (leavesF tree [57]).length ≤ 100 := Nat.le_trans leavesF_len ht.1
    have hw2 : IntKind.i64.wrap (360 * first) = 360 * first := i64_in _ (by omega)
    rw [hw2]
    obtain ⟨lv, hle⟩ : ∃ lv, leavesF tree [57] = lv := ⟨_, rfl⟩
    rw [hle] at hlv hlm hll ⊢
    have hlp := List.length_pos_iff.2 hlv
    refine AWp.adoptS (s := 7) (κ := 8000) (k := 4) (by simp [look]) rfl (by decide) ?_
    refine AWp.loop (T := plan0) (α := Int × Int × List PV) (fun y => ([(0, .ptr 9000 0), (7, .rs 8000 y.2.2.length), (8, .pv (.int .i64 y.2.1)), (9, .pv (.sl lv)), (10, .pv (.int .i64 y.1))], [(9000, .obj Tp), (8000, .row 4 y.2.2)]))
      (fun y => (0 ≤ y.1 ∧ y.1 ≤ 10) ∧ (360 * first ≤ y.2.1 ∧ y.2.1 + 120 * y.1 ≤ 360 * first + 1200) ∧ (y.2.2.length : Int) + y.1 ≤ 11 ∧ (∀ e, e ∈ y.2.2 → recQ lv first e) ∧ RecI y.2.1 y.2.2) (fun y => y.1.toNat)
      ⟨(x, 360 * first, []), ⟨⟨by omega, by omega⟩, ⟨by simp only; omega, by simp only; omega⟩, by simp; omega, (fun e he => (by cases he)), RecI.nil⟩, ⟨by simp [fitR, look, upd], by simp [fitH, hget, hset], rfl, rfl, rfl⟩⟩ ?_
    rintro ⟨i, day, acc⟩ ⟨⟨g1, g2⟩, ⟨g3, g4⟩, g5, g6, g7⟩
    simp only at g1 g2 g3 g4 g5 g6 g7
    have hi1 : IntKind.i64.wrap (i - 1) = i - 1 := i64_in _ (by omega)
    have hal : IntKind.i64.wrap ((acc.length : Int) + 1) = (acc.length : Int) + 1 := i64_in _ (by omega)
    by_cases hlt : 0 < i
    · have c0 : decide (0 < i) = true := by simp; exact hlt
      simp only [c0, Θ5, Θ4, Θ3, Θ2, Θ1, preN_eq, preP_eq, okP_eq, preR_eq, allI_nil, allI_cons, memI_nil, memI_cons, or_false, false_or, okN, okR, arg1, arg2, ne_eq, not_false_eq_true, intV, Nat.reduceBEq, Tryz.underlying1, sz1, by1, ze1, Tryz.underlying2, sz2, by2, ze2, Tryz.underlying3, sz3, by3, ze3, Tryz.underlying4, sz4, by4, ze4, Tryz.underlying5, sz5, by5, ze5, Tryz.underlying9, sz9, by9, ze9, Tryz.underlying22, sz22, by22, ze22, Tryz.underlying23, sz23, by23, ze23, Tryz.underlying25, sz25, by25, ze25, Tryz.underlying26, sz26, by26, ze26, Tryz.underlying27, sz27, by27, ze27, Tryz.underlying28, sz28, by28, ze28, Tryz.underlying29, sz29, by29, ze29, Tryz.underlying30, sz30, by30, ze30, Tryz.underlying31, sz31, by31, ze31, Tryz.underlying33, sz33, by33, ze33, fa33_0, fa33_1, fa33_2, fa33_3, fa33_4, fa33_5, fa33_6, fa33_7, fa33_8, fa33_9, Tryz.underlying35, sz35, by35, ze35, Tryz.underlying41, sz41, by41, ze41, fa41_0, fa41_1, fa41_2, fa41_3, Tryz.underlying44, sz44, by44, ze44, Tryz.underlying55, sz55, by55, ze55, fa55_0, fa55_1, Tryz.underlying57, sz57, by57, ze57, fa57_0, fa57_1, fa57_2, fa57_3, fa57_4, fa57_5, fa57_6, Tryz.underlying77, sz77, by77, ze77, fa77_0, fa77_1, fa77_2, Tryz.underlying86, sz86, by86, ze86, fa86_0, fa86_1, fa86_2, Tryz.underlying88, sz88, by88, ze88, fa88_0, fa88_1, fa88_2, fa88_3, Tryz.underlying89, sz89, by89, ze89, fa89_0, fa89_1, fa89_2, Tryz.underlying92, sz92, by92, ze92, fa92_0, fa92_1, fa92_2, fa92_3, Tryz.underlying93, sz93, by93, ze93, Tryz.underlying95, sz95, by95, ze95, fa95_0, fa95_1, fa95_2, plan0, go_sem, ↓reduceIte, reduceCtorEq, Nat.reduceEqDiff, Nat.reduceLT, ↓all_qVz, ↓all_qVz', Int.reduceToNat, Int.reduceLT, Int.reduceLE, Nat.reduceAdd, Nat.reduceLeDiff, Nat.reduceMul, ev_callG, gcallK_b, gcallK_w, callGc_true, callGc_false]
      intro x hx
      rw [Stop_eq]
      simp only [Θ5, Θ4, Θ3, Θ2, Θ1, preN_eq, preP_eq, okP_eq, preR_eq, allI_nil, allI_cons, memI_nil, memI_cons, or_false, false_or, okN, okR, arg1, arg2, ne_eq, not_false_eq_true, intV, Nat.reduceBEq, Tryz.underlying1, sz1, by1, ze1, Tryz.underlying2, sz2, by2, ze2, Tryz.underlying3, sz3, by3, ze3, Tryz.underlying4, sz4, by4, ze4, Tryz.underlying5, sz5, by5, ze5, Tryz.underlying9, sz9, by9, ze9, Tryz.underlying22, sz22, by22, ze22, Tryz.underlying23, sz23, by23, ze23, Tryz.underlying25, sz25, by25, ze25, Tryz.underlying26, sz26, by26, ze26, Tryz.underlying27, sz27, by27, ze27, Tryz.underlying28, sz28, by28, ze28, Tryz.underlying29, sz29, by29, ze29, Tryz.underlying30, sz30, by30, ze30, Tryz.underlying31, sz31, by31, ze31, Tryz.underlying33, sz33, by33, ze33, fa33_0, fa33_1, fa33_2, fa33_3, fa33_4, fa33_5, fa33_6, fa33_7, fa33_8, fa33_9, Tryz.underlying35, sz35, by35, ze35, Tryz.underlying41, sz41, by41, ze41, fa41_0, fa41_1, fa41_2, fa41_3, Tryz.underlying44, sz44, by44, ze44, Tryz.underlying55, sz55, by55, ze55, fa55_0, fa55_1, Tryz.underlying57, sz57, by57, ze57, fa57_0, fa57_1, fa57_2, fa57_3, fa57_4, fa57_5, fa57_6, Tryz.underlying77, sz77, by77, ze77, fa77_0, fa77_1, fa77_2, Tryz.underlying86, sz86, by86, ze86, fa86_0, fa86_1, fa86_2, Tryz.underlying88, sz88, by88, ze88, fa88_0, fa88_1, fa88_2, fa88_3, Tryz.underlying89, sz89, by89, ze89, fa89_0, fa89_1, fa89_2, Tryz.underlying92, sz92, by92, ze92, fa92_0, fa92_1, fa92_2, fa92_3, Tryz.underlying93, sz93, by93, ze93, Tryz.underlying95, sz95, by95, ze95, fa95_0, fa95_1, fa95_2, plan0, go_sem, ↓reduceIte, reduceCtorEq, Nat.reduceEqDiff, Nat.reduceLT, ↓all_qVz, ↓all_qVz', Int.reduceToNat, Int.reduceLT, Int.reduceLE, Nat.reduceAdd, Nat.reduceLeDiff, Nat.reduceMul, ev_callG, gcallK_b, gcallK_w, callGc_true, callGc_false]
      refine ⟨by omega, fun y hy => ?_⟩
      rw [Stop_eq]
      simp only [Θ5, Θ4, Θ3, Θ2, Θ1, preN_eq, preP_eq, okP_eq, preR_eq, allI_nil, allI_cons, memI_nil, memI_cons, or_false, false_or, okN, okR, arg1, arg2, ne_eq, not_false_eq_true, intV, Nat.reduceBEq, Tryz.underlying1, sz1, by1, ze1, Tryz.underlying2, sz2, by2, ze2, Tryz.underlying3, sz3, by3, ze3, Tryz.underlying4, sz4, by4, ze4, Tryz.underlying5, sz5, by5, ze5, Tryz.underlying9, sz9, by9, ze9, Tryz.underlying22, sz22, by22, ze22, Tryz.underlying23, sz23, by23, ze23, Tryz.underlying25, sz25, by25, ze25, Tryz.underlying26, sz26, by26, ze26, Tryz.underlying27, sz27, by27, ze27, Tryz.underlying28, sz28, by28, ze28, Tryz.underlying29, sz29, by29, ze29, Tryz.underlying30, sz30, by30, ze30, Tryz.underlying31, sz31, by31, ze31, Tryz.underlying33, sz33, by33, ze33, fa33_0, fa33_1, fa33_2, fa33_3, fa33_4, fa33_5, fa33_6, fa33_7, fa33_8, fa33_9, Tryz.underlying35, sz35, by35, ze35, Tryz.underlying41, sz41, by41, ze41, fa41_0, fa41_1, fa41_2, fa41_3, Tryz.underlying44, sz44, by44, ze44, Tryz.underlying55, sz55, by55, ze55, fa55_0, fa55_1, Tryz.underlying57, sz57, by57, ze57, fa57_0, fa57_1, fa57_2, fa57_3, fa57_4, fa57_5, fa57_6, Tryz.underlying77, sz77, by77, ze77, fa77_0, fa77_1, fa77_2, Tryz.underlying86, sz86, by86, ze86, fa86_0, fa86_1, fa86_2, Tryz.underlying88, sz88, by88, ze88, fa88_0, fa88_1, fa88_2, fa88_3, Tryz.underlying89, sz89, by89, ze89, fa89_0, fa89_1, fa89_2, Tryz.underlying92, sz92, by92, ze92, fa92_0, fa92_1, fa92_2, fa92_3, Tryz.underlying93, sz93, by93, ze93, Tryz.underlying95, sz95, by95, ze95, fa95_0, fa95_1, fa95_2, plan0, go_sem, ↓reduceIte, reduceCtorEq, Nat.reduceEqDiff, Nat.reduceLT, ↓all_qVz, ↓all_qVz', Int.reduceToNat, Int.reduceLT, Int.reduceLE, Nat.reduceAdd, Nat.reduceLeDiff, Nat.reduceMul, ev_callG, gcallK_b, gcallK_w, callGc_true, callGc_false]
      refine ⟨by kernel_rfl, ⟨by omega, by omega⟩, fun k hk => ?_⟩
      obtain ⟨j, rfl⟩ := Int.eq_ofNat_of_zero_le hk.1
      have hj : j < lv.length := by omega
      obtain ⟨cc, hm, hcl, hcm⟩ : ∃ cc, lv.getD j default = .str cc ∧ cc.length ≤ 100 ∧ PV.str cc ∈ lv := by
        obtain ⟨cc, e, h⟩ := hlm (lv[j]'hj) (List.getElem_mem _)
        exact ⟨cc, by simp [List.getD_eq_getElem?_getD, hj, e], h, by rw [← e]; exact List.getElem_mem _⟩
      rw [Stop_eq]
      simp only [hm, hi1, Θ5, Θ4, Θ3, Θ2, Θ1, preN_eq, preP_eq, okP_eq, preR_eq, allI_nil, allI_cons, memI_nil, memI_cons, or_false, false_or, okN, okR, arg1, arg2, ne_eq, not_false_eq_true, intV, Nat.reduceBEq, Tryz.underlying1, sz1, by1, ze1, Tryz.underlying2, sz2, by2, ze2, Tryz.underlying3, sz3, by3, ze3, Tryz.underlying4, sz4, by4, ze4, Tryz.underlying5, sz5, by5, ze5, Tryz.underlying9, sz9, by9, ze9, Tryz.underlying22, sz22, by22, ze22, Tryz.underlying23, sz23, by23, ze23, Tryz.underlying25, sz25, by25, ze25, Tryz.underlying26, sz26, by26, ze26, Tryz.underlying27, sz27, by27, ze27, Tryz.underlying28, sz28, by28, ze28, Tryz.underlying29, sz29, by29, ze29, Tryz.underlying30, sz30, by30, ze30, Tryz.underlying31, sz31, by31, ze31, Tryz.underlying33, sz33, by33, ze33, fa33_0, fa33_1, fa33_2, fa33_3, fa33_4, fa33_5, fa33_6, fa33_7, fa33_8, fa33_9, Tryz.underlying35, sz35, by35, ze35, Tryz.underlying41, sz41, by41, ze41, fa41_0, fa41_1, fa41_2, fa41_3, Tryz.underlying44, sz44, by44, ze44, Tryz.underlying55, sz55, by55, ze55, fa55_0, fa55_1, Tryz.underlying57, sz57, by57, ze57, fa57_0, fa57_1, fa57_2, fa57_3, fa57_4, fa57_5, fa57_6, Tryz.underlying77, sz77, by77, ze77, fa77_0, fa77_1, fa77_2, Tryz.underlying86, sz86, by86, ze86, fa86_0, fa86_1, fa86_2, Tryz.underlying88, sz88, by88, ze88, fa88_0, fa88_1, fa88_2, fa88_3, Tryz.underlying89, sz89, by89, ze89, fa89_0, fa89_1, fa89_2, Tryz.underlying92, sz92, by92, ze92, fa92_0, fa92_1, fa92_2, fa92_3, Tryz.underlying93, sz93, by93, ze93, Tryz.underlying95, sz95, by95, ze95, fa95_0, fa95_1, fa95_2, plan0, go_sem, ↓reduceIte, reduceCtorEq, Nat.reduceEqDiff, Nat.reduceLT, ↓all_qV, Int.reduceToNat, Int.reduceLT, Int.reduceLE, Nat.reduceAdd, Nat.reduceLeDiff, Nat.reduceMul]
      have b1 := i64_in (day + y) (by omega)
      refine ⟨hk, fun x1 h1 x2 h2 x3 h3 => ?_⟩
      have b2 := i64_in (0 - x3) (by omega)
      refine ⟨⟨by omega, by omega, by omega, by omega⟩, fun x4 h4 => ⟨rfl, ?_, Nat.le_refl _, by omega, by simp only [maxLen]; omega, ⟨i - 1, day + y, acc ++ [recV (acc.length + 1) (day + y) cc x4]⟩, ?_, by simp only; omega, ?_⟩⟩
      · intro e he
        simp only [List.mem_singleton] at he
        subst he; rfl
      · refine ⟨⟨by simp only; omega, by simp only; omega⟩, ⟨by simp only; omega, by simp only; omega⟩, by simp only [List.length_append, List.length_cons, List.length_nil]; omega, (fun e he => ?_), g7.add (show day ≤ day + y by omega)⟩
        simp only [List.mem_append, List.mem_singleton] at he
        rcases he with he | rfl
        · exact g6 e he
        · exact ⟨_, _, _, _, rfl, hcl, hcm, ⟨by omega, by omega⟩, ⟨by omega, by omega, by omega⟩⟩
      · refine ⟨?_, ?_, rfl, rfl, rfl⟩
        · rw [b1]; simp [fitR, look]
        · rw [b1, hal, List.take_length]; simp [fitH, hget, recV]
    · have c0 : decide (0 < i) = false := by simp; omega
      simp only [c0, Tryz.underlying1, sz1, by1, ze1, Tryz.underlying2, sz2, by2, ze2, Tryz.underlying3, sz3, by3, ze3, Tryz.underlying4, sz4, by4, ze4, Tryz.underlying5, sz5, by5, ze5, Tryz.underlying9, sz9, by9, ze9, Tryz.underlying22, sz22, by22, ze22, Tryz.underlying23, sz23, by23, ze23, Tryz.underlying25, sz25, by25, ze25, Tryz.underlying26, sz26, by26, ze26, Tryz.underlying27, sz27, by27, ze27, Tryz.underlying28, sz28, by28, ze28, Tryz.underlying29, sz29, by29, ze29, Tryz.underlying30, sz30, by30, ze30, Tryz.underlying31, sz31, by31, ze31, Tryz.underlying33, sz33, by33, ze33, fa33_0, fa33_1, fa33_2, fa33_3, fa33_4, fa33_5, fa33_6, fa33_7, fa33_8, fa33_9, Tryz.underlying35, sz35, by35, ze35, Tryz.underlying41, sz41, by41, ze41, fa41_0, fa41_1, fa41_2, fa41_3, Tryz.underlying44, sz44, by44, ze44, Tryz.underlying55, sz55, by55, ze55, fa55_0, fa55_1, Tryz.underlying57, sz57, by57, ze57, fa57_0, fa57_1, fa57_2, fa57_3, fa57_4, fa57_5, fa57_6, Tryz.underlying77, sz77, by77, ze77, fa77_0, fa77_1, fa77_2, Tryz.underlying86, sz86, by86, ze86, fa86_0, fa86_1, fa86_2, Tryz.underlying88, sz88, by88, ze88, fa88_0, fa88_1, fa88_2, fa88_3, Tryz.underlying89, sz89, by89, ze89, fa89_0, fa89_1, fa89_2, Tryz.underlying92, sz92, by92, ze92, fa92_0, fa92_1, fa92_2, fa92_3, Tryz.underlying93, sz93, by93, ze93, Tryz.underlying95, sz95, by95, ze95, fa95_0, fa95_1, fa95_2, plan0, Nat.reduceBEq, go_sem, ↓reduceIte, reduceCtorEq, Nat.reduceEqDiff, Nat.reduceLT, ↓all_qVs, Int.reduceToNat, Int.reduceLT, Int.reduceLE, Nat.reduceAdd, Nat.reduceLeDiff, Nat.reduceMul]
      rw [List.take_length]
      exact ⟨Nat.le_refl _, acc, rfl, ⟨by omega, (by rw [← hle] at g6; exact g6), day, g7⟩⟩
end Go.AM
