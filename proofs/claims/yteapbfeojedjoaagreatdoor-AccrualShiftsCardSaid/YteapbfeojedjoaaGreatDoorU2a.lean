/-
  A part of a proof: see the last text of this claim for what is proved.
-/
import Derived.Test.YteapbfeojedjoaaGreatDoorU1g
import Derived.Test.YteapbfeojedjoaaGreatDoorZMa
/-! the reference of ledger: Posting, Check, Sums, Of, Post, Postings -/
namespace Go.AM
open Go Go.Proofs Go.IntWalk
set_option maxRecDepth 100000
set_option maxHeartbeats 4000000
set_option linter.unusedSimpArgs false
set_option linter.unusedVariables false
noncomputable def rdayS : PSpec := on_i (fun _ => True) (fun n => .bool (amg n 0 36000))
theorem w_rdayS : PSound GG 54 rdayS := by
  refine PSound.of_wpc (C := cxP Tryz.prog AB [] 9) (T := plan0) Tryz.func54 rfl rfl rfl (Fit.pure (G := GG) hAB mixed) (fun args h => ?_)
  unfold rdayS at h
  obtain ⟨n, rfl, hp⟩ := on_i_inv h
  refine ⟨by simp [cxP], ?_⟩
  simp only [rdayS, on_i_eq, Tryz.f54, argL, plan0]
  simp only [go_sem, ↓reduceIte, reduceCtorEq, Nat.reduceEqDiff, Nat.reduceLT, ↓all_qV, Int.reduceToNat, Int.reduceLT, Int.reduceLE, Nat.reduceAdd, Nat.reduceLeDiff, Nat.reduceMul]
  rfl
noncomputable def rclsS : PSpec := on_i (fun _ => True) (fun n => .int .i64 (clsI n))
theorem w_rclsS : PSound GG 32 rclsS := by
  refine PSound.of_wpc (C := cxP Tryz.prog AB [] 11) (T := plan0) Tryz.func32 rfl rfl rfl (Fit.pure (G := GG) hAB mixed) (fun args h => ?_)
  unfold rclsS at h
  obtain ⟨n, rfl, hp⟩ := on_i_inv h
  refine ⟨by simp [cxP], ?_⟩
  simp only [rclsS, on_i_eq, Tryz.f32, argL, plan0]
  simp only [Tryz.underlying3, sz3, by3, ze3, Tryz.underlying4, sz4, by4, ze4, go_sem, ↓reduceIte, reduceCtorEq, Nat.reduceEqDiff, Nat.reduceLT, ↓all_qV, Int.reduceToNat, Int.reduceLT, Int.reduceLE, Nat.reduceAdd, Nat.reduceLeDiff, Nat.reduceMul]
  have hc : (decide (n < 100) || decide (599 < n)) = !amg n 100 599 := by
    unfold amg; rw [Bool.eq_iff_iff]; simp; try omega
  refine ⟨fun h1 => ?_, fun h1 => ⟨by decide, ?_⟩⟩
  · have h1 : amg n 100 599 = false := by
      unfold amg; simp at h1 ⊢; omega
    unfold clsI; rw [h1]; rfl
  · have h1 : amg n 100 599 = true := by
      unfold amg; simp at h1 ⊢; omega
    unfold clsI; rw [h1, cls_wrap h1]; rfl
noncomputable def AC (g : FuncId) : PSpec := (putΦ (putΦ AB 54 rdayS) 32 rclsS) g
theorem hAC : TabSound GG AC := ((hAB.put w_rdayS).put w_rclsS)
theorem clsI_nn {n : Int} : 0 ≤ clsI n := by
  unfold clsI
  cases h : amg n 100 599 with
  | false => simp
  | true =>
    have h : 100 ≤ n ∧ n ≤ 599 := by simpa [amg] using h
    simp only [cond_true]
    rw [Int.tdiv_eq_ediv_of_nonneg (by omega)]; omega
theorem pB_alt {nu d en db cr am pa re : Int} : (decide (1 ≤ nu) && decide (nu ≤ 1000000) && amg d 0 36000 && decide (1 ≤ en) && decide (en ≤ 10) && (db != cr) && (clsI db != 0) && (clsI cr != 0) && decide (1 ≤ am) && decide (am ≤ 1000000000000) && decide (0 ≤ pa) && decide (pa ≤ 10) && (pa != en) && decide (0 ≤ re) && decide (re ≤ 1000000)) = pB ⟨nu, d, en, db, cr, am, pa, re⟩ := by
  have hd := clsI_nn (n := db)
  have hc := clsI_nn (n := cr)
  unfold pB amg
  rw [Bool.eq_iff_iff]
  simp only [Bool.and_eq_true, decide_eq_true_eq, bne_iff_ne, ne_eq]
  constructor <;> (intro h9; and_intros <;> first | omega | exact fun h => by omega)
noncomputable def rpstS : PSpec := on_p isPs (fun e => .bool (pB (psOf e)))
theorem k_rpstS_32 {args : List PV} : AC 32 args = rclsS args := rfl
theorem k_rpstS_54 {args : List PV} : AC 54 args = rdayS args := rfl
theorem w_rpstS : PSound GG 34 rpstS := by
  refine PSound.of_wpc (C := cxP Tryz.prog AC [] 82) (T := plan0) Tryz.func34 rfl rfl rfl (Fit.pure (G := GG) hAC mixed) (fun args h => ?_)
  unfold rpstS at h
  obtain ⟨e, rfl, hp⟩ := on_p_inv h
  refine ⟨by simp [cxP], ?_⟩
  simp only [rpstS, on_p_eq, Tryz.f34, argL, plan0]
  obtain ⟨⟨nu, d, en, db, cr, am, pa, re⟩, rfl⟩ := hp
  have hd := clsI_nn (n := db)
  have hc := clsI_nn (n := cr)
  simp (config := {maxSteps := 1000000}) only [List.append_eq, psV, psOf_agg, k_rpstS_32, rclsS, on_i_eq, k_rpstS_54, rdayS, Tryz.underlying1, sz1, by1, ze1, Tryz.underlying2, sz2, by2, ze2, Tryz.underlying3, sz3, by3, ze3, Tryz.underlying4, sz4, by4, ze4, Tryz.underlying5, sz5, by5, ze5, Tryz.underlying6, sz6, by6, ze6, Tryz.underlying7, sz7, by7, ze7, fa7_0, fa7_1, fa7_2, fa7_3, Tryz.underlying57, sz57, by57, ze57, fa57_0, fa57_1, fa57_2, fa57_3, fa57_4, fa57_5, fa57_6, fa57_7, go_sem, ↓reduceIte, reduceCtorEq, Nat.reduceEqDiff, Nat.reduceLT, ↓all_qV, Int.reduceToNat, Int.reduceLT, Int.reduceLE, Nat.reduceAdd, Nat.reduceLeDiff, Nat.reduceMul]
  exact congrArg PV.bool pB_alt
noncomputable def AD (g : FuncId) : PSpec := (putΦ AC 34 rpstS) g
theorem hAD : TabSound GG AD := (hAC.put w_rpstS)
end Go.AM
