/-
  A part of a proof: see the last text of this claim for what is proved.
-/
import Derived.Test.YthfmoamiaofamaaGreatDoorU1g
import Derived.Test.YthfmoamiaofamaaGreatDoorZMa
import Derived.Test.YthfmoamiaofamaaGreatDoorQR
import Derived.Test.YthfmoamiaofamaaGreatDoorPP
namespace Go.AM
open Go Go.Proofs Go.IntWalk
set_option maxRecDepth 100000
set_option maxHeartbeats 4000000
set_option linter.unusedSimpArgs false
set_option linter.unusedVariables false
noncomputable def rdayS : PSpec := on_i (fun _ => True) (fun n => .bool (amg n 0 36000))
theorem w_rdayS : PSound GG 74 rdayS := by
  refine PSound.of_wpc (C := cxP Tryz.prog AB [] 9) (T := plan0) Tryz.func74 rfl rfl rfl (Fit.pure (G := GG) hAB mixed) (fun args h => ?_)
  unfold rdayS at h
  obtain ⟨n, rfl, hp⟩ := on_i_inv h
  refine ⟨by simp [cxP], ?_⟩
  simp only [rdayS, on_i_eq, Tryz.f74, argL, plan0]
  simp only [go_sem, ↓reduceIte, reduceCtorEq, Nat.reduceEqDiff, Nat.reduceLT, ↓all_qV, Int.reduceToNat, Int.reduceLT, Int.reduceLE, Nat.reduceAdd, Nat.reduceLeDiff, Nat.reduceMul]
  rfl
noncomputable def rclsS : PSpec := on_i (fun _ => True) (fun n => .int .i64 (clsI n))
theorem w_rclsS : PSound GG 69 rclsS := by
  refine PSound.of_wpc (C := cxP Tryz.prog AB [] 11) (T := plan0) Tryz.func69 rfl rfl rfl (Fit.pure (G := GG) hAB mixed) (fun args h => ?_)
  unfold rclsS at h
  obtain ⟨n, rfl, hp⟩ := on_i_inv h
  refine ⟨by simp [cxP], ?_⟩
  simp only [rclsS, on_i_eq, Tryz.f69, argL, plan0]
  simp only [Tryz.underlying3, sz3, by3, ze3, Tryz.underlying4, sz4, by4, ze4, go_sem, ↓reduceIte, reduceCtorEq, Nat.reduceEqDiff, Nat.reduceLT, ↓all_qV, Int.reduceToNat, Int.reduceLT, Int.reduceLE, Nat.reduceAdd, Nat.reduceLeDiff, Nat.reduceMul]
  have hc : (decide (n < 100) || decide (599 < n)) = !amg n 100 599 := by
    unfold amg; rw [Bool.eq_iff_iff]; simp; try omega
  refine ⟨fun h1 => ?_, fun h1 => ⟨by decide, ?_⟩⟩
  · have h1 : amg n 100 599 = false := by
      unfold amg; simp at h1 ⊢; omega
    unfold clsI; rw [h1]; rfl
  · have h1 : amg n 100 599 = true := by
      unfold amg; simp at h1 ⊢; omega
    unfold clsI; rw [h1, cls_wrap h1]; rfl
noncomputable def AC (g : FuncId) : PSpec := (putΦ (putΦ AB 74 rdayS) 69 rclsS) g
theorem hAC : TabSound GG AC := ((hAB.put w_rdayS).put w_rclsS)
theorem clsI_nn {n : Int} : 0 ≤ clsI n := by
  unfold clsI
  cases h : amg n 100 599 with
  | false => simp
  | true =>
    have h : 100 ≤ n ∧ n ≤ 599 := by simpa [amg] using h
    simp only [cond_true]
    rw [Int.tdiv_eq_ediv_of_nonneg (by omega)]; omega
theorem pB_alt {nu d en db cr am pa re : Int} : (decide (1 ≤ nu) && decide (nu ≤ 1000000) && amg d 0 36000 && decide (1 ≤ en) && decide (en ≤ 10) && (db != cr) && (clsI db != 0) && (clsI cr != 0) && decide (1 ≤ am) && decide (am ≤ 1000000000000) && decide (0 ≤ pa) && decide (pa ≤ 10) && (pa != en) && decide (0 ≤ re) && decide (re ≤ 1000000)) = pB ⟨nu, d, en, db, cr, am, pa, re⟩ := by
  have hd := clsI_nn (n := db)
  have hc := clsI_nn (n := cr)
  unfold pB amg
  rw [Bool.eq_iff_iff]
  simp only [Bool.and_eq_true, decide_eq_true_eq, bne_iff_ne, ne_eq]
  constructor <;> (intro h9; and_intros <;> first | omega | exact fun h => by omega)
noncomputable def rpstS : PSpec := on_p isPs (fun e => .bool (pB (psOf e)))
theorem k_rpstS_69 {args : List PV} : AC 69 args = rclsS args := rfl
theorem k_rpstS_74 {args : List PV} : AC 74 args = rdayS args := rfl
theorem w_rpstS : PSound GG 56 rpstS := by
  refine PSound.of_wpc (C := cxP Tryz.prog AC [] 82) (T := plan0) Tryz.func56 rfl rfl rfl (Fit.pure (G := GG) hAC mixed) (fun args h => ?_)
  unfold rpstS at h
  obtain ⟨e, rfl, hp⟩ := on_p_inv h
  refine ⟨by simp [cxP], ?_⟩
  simp only [rpstS, on_p_eq, Tryz.f56, argL, plan0]
  obtain ⟨⟨nu, d, en, db, cr, am, pa, re⟩, rfl⟩ := hp
  have hd := clsI_nn (n := db)
  have hc := clsI_nn (n := cr)
  simp (config := {maxSteps := 1000000}) only [List.append_eq, psV, psOf_agg, k_rpstS_69, rclsS, on_i_eq, k_rpstS_74, rdayS, Tryz.underlying1, sz1, by1, ze1, Tryz.underlying2, sz2, by2, ze2, Tryz.underlying3, sz3, by3, ze3, Tryz.underlying4, sz4, by4, ze4, Tryz.underlying5, sz5, by5, ze5, Tryz.underlying6, sz6, by6, ze6, Tryz.underlying7, sz7, by7, ze7, fa7_0, fa7_1, fa7_2, fa7_3, Tryz.underlying63, sz63, by63, ze63, fa63_0, fa63_1, fa63_2, fa63_3, fa63_4, fa63_5, fa63_6, fa63_7, go_sem, ↓reduceIte, reduceCtorEq, Nat.reduceEqDiff, Nat.reduceLT, ↓all_qV, Int.reduceToNat, Int.reduceLT, Int.reduceLE, Nat.reduceAdd, Nat.reduceLeDiff, Nat.reduceMul]
  exact congrArg PV.bool pB_alt
noncomputable def AD (g : FuncId) : PSpec := (putΦ AC 56 rpstS) g
theorem hAD : TabSound GG AD := (hAC.put w_rpstS)
end Go.AM
namespace Go.AM
open Go Go.Proofs Go.IntWalk
set_option maxRecDepth 100000
set_option maxHeartbeats 4000000
set_option linter.unusedSimpArgs false
set_option linter.unusedVariables false
theorem w_growS : ESound GG 71 (psiGrow 8) := by
  have hE : Enterable GG.P 71 := ⟨Tryz.f71, Tryz.func71, by kernel_rfl, by kernel_rfl⟩
  obtain ⟨i0, z, h1, h2, h3, h4, h5⟩ : ∃ (i0 : TypeInfo) (z : Value), GG.P.info? (lGrow_ren.t 25) = some i0 ∧ i0.zero = some z ∧ i0.size = 8 ∧ z.cells.size = 8 ∧ i0.bytes ≤ 1000000 := ⟨_, _, rfl, rfl, by kernel_rfl, by kernel_rfl, by decide⟩
  have := ESound.of_grow lGrow i0 z h1 h2 (by omega) (by omega) h5 hE
  rw [h3] at this
  exact this
noncomputable def Ψg (g : FuncId) : Option ESpec := putΨ noΨ 71 (psiGrow 8) g
theorem hΨg : ETab GG Ψg := hnoΨ.put w_growS psiGrow_mono
def slOf : PV → List PV
  | .sl x => x
  | _ => []
def catL (ls : List (List Pst)) : List PV := ls.map fun l => .sl (l.map psV)
theorem catL_of (ls : List (List Pst)) : ((catL ls).map slOf).flatten = ls.flatten.map psV := by
  unfold catL
  rw [List.map_map, List.map_flatten]
  rfl
theorem getD_cat {ls : List (List Pst)} {i : Nat} (h : i < ls.length) : (catL ls).getD i default = .sl ((ls.getD i default).map psV) := by
  simp [catL, List.getD_eq_getElem?_getD, h]
theorem flat_take {ls : List (List Pst)} {i : Nat} (h : i < ls.length) : (ls.take (i + 1)).flatten = (ls.take i).flatten ++ ls.getD i default := by
  rw [take_succ' h]; simp
theorem flat_len {ls : List (List Pst)} (i : Nat) : (ls.take i).flatten.length ≤ ls.flatten.length := by
  have : ls.flatten = (ls.take i).flatten ++ (ls.drop i).flatten := by rw [← List.flatten_append, List.take_append_drop]
  rw [this, List.length_append]; omega
noncomputable def concS : PSpec := on_l (fun es => ∃ ls : List (List Pst), es = catL ls ∧ ls.length ≤ 100 ∧ ls.flatten.length ≤ 100000) (fun es => .sl ((es.map slOf).flatten))
theorem w_concS : PSound GG 50 concS := by
  refine PSound.of_wpc (C := cxQ Tryz.prog AB noΘ Ψg [] [] 36) (T := plan0) Tryz.func50 rfl rfl rfl (Fit.all (G := GG) hAB hnoΘ hΨg mixed) (fun args h => ?_)
  unfold concS at h
  obtain ⟨es, rfl, ls, rfl, hn, hl⟩ := on_l_inv h
  refine ⟨by simp [cxQ], ?_⟩
  have hlen : (catL ls).length = ls.length := by simp [catL]
  simp only [concS, on_l_eq, catL_of, hlen, Tryz.f50, argL, Tryz.underlying3, sz3, by3, ze3, Tryz.underlying4, sz4, by4, ze4, Tryz.underlying9, sz9, by9, ze9, Tryz.underlying20, sz20, by20, ze20, Tryz.underlying23, sz23, by23, ze23, Tryz.underlying63, sz63, by63, ze63, fa63_0, fa63_1, fa63_2, fa63_3, fa63_4, fa63_5, fa63_6, fa63_7, Tryz.underlying100, sz100, by100, ze100, plan0, go_sem, ↓reduceIte, reduceCtorEq, Nat.reduceEqDiff, Nat.reduceLT, ↓all_qV, Int.reduceToNat, Int.reduceLT, Int.reduceLE, Nat.reduceAdd, Nat.reduceLeDiff, Nat.reduceMul, ev_callG, gcallK_b, gcallK_w, callGc_true, callGc_false]
  refine AWp.loop (T := plan0) (α := Nat) (fun i => ([(0, .pv (.sl (catL ls))), (3, .pv (.int .i64 ((ls.take i).flatten.length : Nat))), (9, .pv (.sl (catL ls))), (10, .pv (.int .i64 ls.length)), (11, .pv (.int .i64 i))], [])) (fun i => i ≤ ls.length) (fun i => ls.length - i)
    ⟨0, Nat.zero_le _, ⟨by simp [fitR, look], trivial, rfl, rfl, rfl⟩⟩ ?_
  intro i hi
  have hi1 : IntKind.i64.wrap ((i : Int) + 1) = ((i + 1 : Nat) : Int) := by rw [i64_in _ (by omega)]; omega
  by_cases hlt : i < ls.length
  · have c0 : decide ((i : Int) < (ls.length : Int)) = true := by simp; omega
    have e1 := getD_cat hlt
    have hfl := flat_len (ls := ls) (i + 1)
    have hft := flat_take hlt
    rw [hft, List.length_append] at hfl
    generalize ls.getD i default = x at e1 hft hfl
    have w1 : IntKind.i64.wrap (((ls.take i).flatten.length : Nat) + (x.length : Int)) = (((ls.take (i + 1)).flatten.length : Nat) : Int) := by
      rw [hft, List.length_append, i64_in _ (by omega)]; omega
    have c2 : decide ((((ls.take (i + 1)).flatten.length : Nat) : Int) < 0) = false := by simp
    simp only [c0, e1, hi1, w1, c2, hlen, List.length_map, Tryz.underlying3, sz3, by3, ze3, Tryz.underlying4, sz4, by4, ze4, Tryz.underlying9, sz9, by9, ze9, Tryz.underlying20, sz20, by20, ze20, Tryz.underlying23, sz23, by23, ze23, Tryz.underlying63, sz63, by63, ze63, fa63_0, fa63_1, fa63_2, fa63_3, fa63_4, fa63_5, fa63_6, fa63_7, Tryz.underlying100, sz100, by100, ze100, plan0, go_sem, ↓reduceIte, reduceCtorEq, Nat.reduceEqDiff, Nat.reduceLT, ↓all_qV, Int.reduceToNat, Int.reduceLT, Int.reduceLE, Nat.reduceAdd, Nat.reduceLeDiff, Nat.reduceMul, ev_callG, gcallK_b, gcallK_w, callGc_true, callGc_false]
    exact ⟨⟨by omega, by omega⟩, i + 1, by omega, by omega, ⟨by simp [fitR, look, -List.map_take, -List.length_flatten], trivial, rfl, rfl, rfl⟩⟩
  · have c0 : decide ((i : Int) < (ls.length : Int)) = false := by simp; omega
    rw [List.take_of_length_le (show ls.length ≤ i by omega)]
    simp only [c0, hlen, Ψg, psiGrow_eq, Tryz.underlying3, sz3, by3, ze3, Tryz.underlying4, sz4, by4, ze4, Tryz.underlying9, sz9, by9, ze9, Tryz.underlying20, sz20, by20, ze20, Tryz.underlying23, sz23, by23, ze23, Tryz.underlying63, sz63, by63, ze63, fa63_0, fa63_1, fa63_2, fa63_3, fa63_4, fa63_5, fa63_6, fa63_7, Tryz.underlying100, sz100, by100, ze100, plan0, go_sem, ↓reduceIte, reduceCtorEq, Nat.reduceEqDiff, Nat.reduceLT, ↓all_qV, Int.reduceToNat, Int.reduceLT, Int.reduceLE, Nat.reduceAdd, Nat.reduceLeDiff, Nat.reduceMul, ev_callG, gcallK_b, gcallK_w, callGc_true, callGc_false]
    refine ⟨⟨by omega, by omega⟩, ?_⟩
    refine AWp.loop (T := plan0) (α := Nat) (fun i => ([(6, .rs 24 (ls.take i).flatten.length), (25, .pv (.sl (catL ls))), (26, .pv (.int .i64 ls.length)), (27, .pv (.int .i64 i))], [(24, .row 8 ((ls.take i).flatten.map psV))])) (fun i => i ≤ ls.length) (fun i => ls.length - i)
      ⟨0, Nat.zero_le _, ⟨by simp [fitR, look], by simp [fitH, hget], rfl, rfl, rfl⟩⟩ ?_
    intro i hi
    have hi1 : IntKind.i64.wrap ((i : Int) + 1) = ((i + 1 : Nat) : Int) := by rw [i64_in _ (by omega)]; omega
    by_cases hlt : i < ls.length
    · have c0 : decide ((i : Int) < (ls.length : Int)) = true := by simp; omega
      have e1 := getD_cat hlt
      have hfl := flat_len (ls := ls) (i + 1)
      have hft := flat_take hlt
      rw [hft, List.length_append] at hfl
      generalize ls.getD i default = x at e1 hft hfl
      have tk : ((ls.take i).flatten.map psV).take (ls.take i).flatten.length = (ls.take i).flatten.map psV := List.take_of_length_le (by rw [List.length_map]; exact Nat.le_refl _)
      simp only [c0, e1, hi1, hlen, tk, List.length_map, Tryz.underlying3, sz3, by3, ze3, Tryz.underlying4, sz4, by4, ze4, Tryz.underlying9, sz9, by9, ze9, Tryz.underlying20, sz20, by20, ze20, Tryz.underlying23, sz23, by23, ze23, Tryz.underlying63, sz63, by63, ze63, fa63_0, fa63_1, fa63_2, fa63_3, fa63_4, fa63_5, fa63_6, fa63_7, Tryz.underlying100, sz100, by100, ze100, plan0, go_sem, ↓reduceIte, reduceCtorEq, Nat.reduceEqDiff, Nat.reduceLT, ↓all_qV, Int.reduceToNat, Int.reduceLT, Int.reduceLE, Nat.reduceAdd, Nat.reduceLeDiff, Nat.reduceMul, ev_callG, gcallK_b, gcallK_w, callGc_true, callGc_false]
      refine ⟨⟨by omega, by omega⟩, rfl, fun e he => by obtain ⟨y, _, rfl⟩ := List.mem_map.1 he; rfl, Nat.le_refl _, by omega, by simp only [maxLen]; omega, i + 1, by omega, by omega, ⟨?_, ?_, rfl, rfl, rfl⟩⟩
      · rw [hft]; simp [fitR, look, -List.length_flatten]
      · rw [hft]; simp [fitH, hget, -List.map_flatten]
    · have c0 : decide ((i : Int) < (ls.length : Int)) = false := by simp; omega
      rw [List.take_of_length_le (show ls.length ≤ i by omega)]
      have tk : (ls.flatten.map psV).take ls.flatten.length = ls.flatten.map psV := List.take_of_length_le (by rw [List.length_map]; exact Nat.le_refl _)
      simp only [c0, hlen, tk, List.length_map, Tryz.underlying3, sz3, by3, ze3, Tryz.underlying4, sz4, by4, ze4, Tryz.underlying9, sz9, by9, ze9, Tryz.underlying20, sz20, by20, ze20, Tryz.underlying23, sz23, by23, ze23, Tryz.underlying63, sz63, by63, ze63, fa63_0, fa63_1, fa63_2, fa63_3, fa63_4, fa63_5, fa63_6, fa63_7, Tryz.underlying100, sz100, by100, ze100, plan0, go_sem, ↓reduceIte, reduceCtorEq, Nat.reduceEqDiff, Nat.reduceLT, ↓all_qV, Int.reduceToNat, Int.reduceLT, Int.reduceLE, Nat.reduceAdd, Nat.reduceLeDiff, Nat.reduceMul, ev_callG, gcallK_b, gcallK_w, callGc_true, callGc_false]
      exact Nat.le_refl _
noncomputable def AC0 (g : FuncId) : PSpec := (putΦ AB 50 concS) g
theorem hAC0 : TabSound GG AC0 := (hAB.put w_concS)
end Go.AM
namespace Go.AM
open Go Go.Proofs Go.IntWalk
set_option maxRecDepth 100000
set_option maxHeartbeats 4000000
set_option linter.unusedSimpArgs false
set_option linter.unusedVariables false
theorem any_take {l : List Pst} {q : Pst → Bool} {i : Nat} (h : i < l.length) (ha : ∀ x, x ∈ l.take i → q x = true) (hx : q (l.getD i default) = true) : ∀ x, x ∈ l.take (i + 1) → q x = true := by
  rw [take_succ' h]
  intro x hm
  rcases List.mem_append.1 hm with hm | hm
  · exact ha x hm
  · rw [List.mem_singleton] at hm; subst hm; exact hx
noncomputable def rchkS : PSpec := on_p isLg (fun e => .int .i64 (lkF (lgOf e)))
theorem k_rchkS_56 {args : List PV} : AD 56 args = rpstS args := rfl
theorem w_rchkS : PSound GG 47 rchkS := by
  refine PSound.of_wpc (C := cxP Tryz.prog AD [] 52) (T := plan0) Tryz.func47 rfl rfl rfl (Fit.pure (G := GG) hAD mixed) (fun args h => ?_)
  unfold rchkS at h
  obtain ⟨e, rfl, hp⟩ := on_p_inv h
  refine ⟨by simp [cxP], ?_⟩
  simp only [rchkS, on_p_eq, Tryz.f47, argL, plan0]
  obtain ⟨l, rfl, hl⟩ := hp
  simp only [lgV, lgOf_agg, map_psOf, List.length_map, loadC_eq, k_rchkS_56, rpstS, on_p_eq, List.take_succ_cons, List.take_nil, Tryz.underlying1, sz1, by1, ze1, Tryz.underlying3, sz3, by3, ze3, Tryz.underlying4, sz4, by4, ze4, Tryz.underlying23, sz23, by23, ze23, Tryz.underlying25, sz25, by25, ze25, fa25_0, Tryz.underlying41, sz41, by41, ze41, Tryz.underlying63, sz63, by63, ze63, fa63_0, fa63_1, fa63_2, fa63_3, fa63_4, fa63_5, fa63_6, fa63_7, go_sem, ↓reduceIte, reduceCtorEq, Nat.reduceEqDiff, Nat.reduceLT, ↓all_qV, Int.reduceToNat, Int.reduceLT, Int.reduceLE, Nat.reduceAdd, Nat.reduceLeDiff, Nat.reduceMul]
  refine ⟨fun h1 => by unfold lkF; rw [h1]; rfl, fun h1 => ?_⟩
  refine AWp.loop (T := plan0) (α := Nat) (fun i => ([(1, .ptr 1 0), (12, .pv (.sl (l.map psV))), (13, .pv (.int .i64 l.length)), (14, .pv (.int .i64 i))], [(1, .cells [.pv (.sl (l.map psV))])]))
    (fun i => i ≤ l.length ∧ ∀ x, x ∈ l.take i → pB x = true) (fun i => l.length - i)
    ⟨0, ⟨Nat.zero_le _, fun x hx => by simp at hx⟩, ⟨by simp [fitR, look], by simp [fitH, hget], rfl, rfl, rfl⟩⟩ ?_
  rintro i ⟨g1, g2⟩
  have hi1 : IntKind.i64.wrap ((i : Int) + 1) = ((i + 1 : Nat) : Int) := by rw [i64_in _ (by omega)]; omega
  by_cases hlt : i < l.length
  · have c0 : decide ((i : Int) < (l.length : Int)) = true := by simp; omega
    have e1 := getD_ps hlt
    have hm := mem_getD' hlt
    have hnx := fun hx => any_take hlt g2 hx
    generalize l.getD i default = x at e1 hm hnx
    obtain ⟨nu, d, en, db, cr, am, pa, re⟩ := x
    simp only [psV] at e1
    simp only [c0, hi1, e1, psOf_agg, List.length_map, loadC_eq, k_rchkS_56, rpstS, on_p_eq, List.take_succ_cons, List.take_nil, Tryz.underlying1, sz1, by1, ze1, Tryz.underlying3, sz3, by3, ze3, Tryz.underlying4, sz4, by4, ze4, Tryz.underlying23, sz23, by23, ze23, Tryz.underlying25, sz25, by25, ze25, fa25_0, Tryz.underlying41, sz41, by41, ze41, Tryz.underlying63, sz63, by63, ze63, fa63_0, fa63_1, fa63_2, fa63_3, fa63_4, fa63_5, fa63_6, fa63_7, plan0, go_sem, ↓reduceIte, reduceCtorEq, Nat.reduceEqDiff, Nat.reduceLT, ↓all_qV, Int.reduceToNat, Int.reduceLT, Int.reduceLE, Nat.reduceAdd, Nat.reduceLeDiff, Nat.reduceMul]
    refine ⟨⟨by omega, by omega⟩, ⟨okPs, isPs_agg⟩, fun h9 => ?_, fun h9 => ⟨i + 1, ⟨by omega, hnx (by simpa using h9)⟩, by omega, ⟨by simp [fitR, look], by simp [fitH, hget], rfl, rfl, rfl⟩⟩⟩
    have ha : (l.any fun x => !pB x) = true := List.any_eq_true.2 ⟨_, hm, h9⟩
    unfold lkF; rw [h1, ha]; rfl
  · have c0 : decide ((i : Int) < (l.length : Int)) = false := by simp; omega
    rw [List.take_of_length_le (by omega)] at g2
    have h2 : (l.any fun x => !pB x) = false := List.any_eq_false.2 (fun x hx => by simp [g2 x hx])
    have hres : lkF l = bif seqG 0 none l then 0 else 86 := by unfold lkF; rw [h1, h2]; rfl
    rw [hres]
    simp only [c0, List.length_map, loadC_eq, List.take_succ_cons, List.take_nil, Tryz.underlying1, sz1, by1, ze1, Tryz.underlying3, sz3, by3, ze3, Tryz.underlying4, sz4, by4, ze4, Tryz.underlying23, sz23, by23, ze23, Tryz.underlying25, sz25, by25, ze25, fa25_0, Tryz.underlying41, sz41, by41, ze41, Tryz.underlying63, sz63, by63, ze63, fa63_0, fa63_1, fa63_2, fa63_3, fa63_4, fa63_5, fa63_6, fa63_7, plan0, go_sem, ↓reduceIte, reduceCtorEq, Nat.reduceEqDiff, Nat.reduceLT, ↓all_qV, Int.reduceToNat, Int.reduceLT, Int.reduceLE, Nat.reduceAdd, Nat.reduceLeDiff, Nat.reduceMul]
    refine AWp.loop (T := plan0) (α := Nat) (fun i => ([(1, .ptr 1 0), (23, .pv (.sl (l.map psV))), (24, .pv (.int .i64 l.length)), (25, .pv (.int .i64 i))], [(1, .cells [.pv (.sl (l.map psV))])]))
      (fun i => i ≤ l.length ∧ seqG 0 none l = seqG i (prevD l i) (l.drop i)) (fun i => l.length - i)
      ⟨0, ⟨Nat.zero_le _, rfl⟩, ⟨by simp [fitR, look], by simp [fitH, hget], rfl, rfl, rfl⟩⟩ ?_
    rintro i ⟨g1, g2⟩
    have hi1 : IntKind.i64.wrap ((i : Int) + 1) = ((i + 1 : Nat) : Int) := by rw [i64_in _ (by omega)]; omega
    by_cases hlt : i < l.length
    · have c0 : decide ((i : Int) < (l.length : Int)) = true := by simp; omega
      have e1 := getD_ps hlt
      have hpn : prevD l (i + 1) = some (l.getD i default).d := rfl
      rw [drop_cons' hlt, seqG_cons, ← hpn] at g2
      generalize l.getD i default = x at e1 g2 hpn
      obtain ⟨nu, d, en, db, cr, am, pa, re⟩ := x
      simp only [psV] at e1
      simp only at g2
      cases i with
      | zero =>
        have c9 : decide (0 < (l.length : Int)) = true := c0
        have q1 : IntKind.i64.wrap (0 + 1) = 1 := by decide
        have hp0 : prevD l 0 = none := rfl
        rw [hp0] at g2
        have g2 : seqG 0 none l = ((nu == 1) && seqG 1 (prevD l 1) (l.drop 1)) := by rw [g2]; simp [leO]
        have w1 : IntKind.i64.wrap (0 - 1) = -1 := by decide
        have w3 : Int.toNat (-1) = 0 := rfl
        have hcond : (nu == 1) = !(nu != 1) := by simp [bne]
        rw [hcond] at g2
        simp only [c9, q1, w1, w3, e1, psOf_agg, List.length_map, loadC_eq, List.take_succ_cons, List.take_nil, Tryz.underlying1, sz1, by1, ze1, Tryz.underlying3, sz3, by3, ze3, Tryz.underlying4, sz4, by4, ze4, Tryz.underlying23, sz23, by23, ze23, Tryz.underlying25, sz25, by25, ze25, fa25_0, Tryz.underlying41, sz41, by41, ze41, Tryz.underlying63, sz63, by63, ze63, fa63_0, fa63_1, fa63_2, fa63_3, fa63_4, fa63_5, fa63_6, fa63_7, plan0, go_sem, ↓reduceIte, reduceCtorEq, Nat.reduceEqDiff, Nat.reduceLT, ↓all_qV, Int.reduceToNat, Int.reduceLT, Int.reduceLE, Nat.reduceAdd, Nat.reduceLeDiff, Nat.reduceMul]
        have nf : (decide False) = false := by simp
        have hc2 : (nu != 1 || decide False && decide (d < d)) = (nu != 1) := by rw [nf]; simp
        refine ⟨by omega, by kernel_rfl, ?_⟩
        and_intros
        all_goals try (intro h9; rw [nf] at h9; simp at h9; done)
        all_goals try (intro _ h9; rw [nf] at h9; cases h9; done)
        · intro h9
          rw [hc2] at h9
          rw [g2, h9]; rfl
        · intro h9
          rw [hc2] at h9
          exact ⟨1, ⟨by omega, by rw [g2, h9]; rfl⟩, by omega, ⟨by simp [fitR, look], by simp [fitH, hget], rfl, rfl, rfl⟩⟩
      | succ j =>
        have c1 : decide (0 < ((j + 1 : Nat) : Int)) = true := by simp
        have w2 : IntKind.i64.wrap (((j + 1 : Nat) : Int) - 1) = (j : Int) := by rw [i64_in _ (by omega)]; omega
        have e2 := getD_ps (l := l) (i := j) (by omega)
        have hpj : prevD l (j + 1) = some (l.getD j default).d := rfl
        rw [hpj] at g2
        generalize l.getD j default = y at e2 g2
        obtain ⟨nu', d', en', db', cr', am', pa', re'⟩ := y
        simp only [psV] at e2
        simp only at g2
        simp only [c0, c1, w2, hi1, e1, e2, psOf_agg, List.length_map, loadC_eq, List.take_succ_cons, List.take_nil, Tryz.underlying1, sz1, by1, ze1, Tryz.underlying3, sz3, by3, ze3, Tryz.underlying4, sz4, by4, ze4, Tryz.underlying23, sz23, by23, ze23, Tryz.underlying25, sz25, by25, ze25, fa25_0, Tryz.underlying41, sz41, by41, ze41, Tryz.underlying63, sz63, by63, ze63, fa63_0, fa63_1, fa63_2, fa63_3, fa63_4, fa63_5, fa63_6, fa63_7, plan0, go_sem, ↓reduceIte, reduceCtorEq, Nat.reduceEqDiff, Nat.reduceLT, ↓all_qV, Int.reduceToNat, Int.reduceLT, Int.reduceLE, Nat.reduceAdd, Nat.reduceLeDiff, Nat.reduceMul]
        have hcond : (nu == (((j + 1 : Nat) : Int)) + 1 && leO (some d') d) = !(nu != ((j + 1 + 1 : Nat) : Int) || decide (d < d')) := by
          have e3 : (((j + 1 : Nat) : Int)) + 1 = ((j + 1 + 1 : Nat) : Int) := by omega
          rw [e3, Bool.not_or]
          congr 1
          · simp [bne]
          · simp only [leO]
            by_cases h : d < d' <;> simp [h] <;> omega
        rw [hcond] at g2
        refine ⟨⟨by omega, by omega⟩, by kernel_rfl, fun _ => ⟨by omega, by omega⟩, fun h9 => ?_, fun h9 => ⟨j + 1 + 1, ⟨by omega, ?_⟩, by omega, ⟨by simp [fitR, look], by simp [fitH, hget], rfl, rfl, rfl⟩⟩⟩
        · rw [g2, h9]; rfl
        · rw [g2, h9]; rfl
    · have c0 : decide ((i : Int) < (l.length : Int)) = false := by simp; omega
      rw [List.drop_eq_nil_of_le (by omega), seqG_nil] at g2
      simp only [c0, g2, List.length_map, Tryz.underlying1, sz1, by1, ze1, Tryz.underlying3, sz3, by3, ze3, Tryz.underlying4, sz4, by4, ze4, Tryz.underlying23, sz23, by23, ze23, Tryz.underlying25, sz25, by25, ze25, fa25_0, Tryz.underlying41, sz41, by41, ze41, Tryz.underlying63, sz63, by63, ze63, fa63_0, fa63_1, fa63_2, fa63_3, fa63_4, fa63_5, fa63_6, fa63_7, plan0, go_sem, ↓reduceIte, reduceCtorEq, Nat.reduceEqDiff, Nat.reduceLT, ↓all_qV, Int.reduceToNat, Int.reduceLT, Int.reduceLE, Nat.reduceAdd, Nat.reduceLeDiff, Nat.reduceMul]
noncomputable def AE (g : FuncId) : PSpec := (putΦ (putΦ AD 47 rchkS) 50 concS) g
theorem hAE : TabSound GG AE := ((hAD.put w_rchkS).put w_concS)
end Go.AM
