/-
  A part of a proof: see the last text of this claim for what is proved.
-/
import Derived.Test.YteapbfeojedjoaaGreatDoorU2d
import Derived.Test.YteapbfeojedjoaaGreatDoorNE
import Derived.Test.YteapbfeojedjoaaGreatDoorZMa
/-! the reference of ledger: Of, Post, Postings; accrual.Close -/
namespace Go.AM
open Go Go.Proofs Go.IntWalk
set_option maxRecDepth 100000
set_option maxHeartbeats 4000000
set_option linter.unusedSimpArgs false
set_option linter.unusedVariables false
def rofF (l : List Pst) (en ac d : Int) : Int := bif lkF l != 0 || clsI ac == 0 then 0 else balF en 0 d ac l
noncomputable def rofS : PSpec := on_piii (fun e _ _ _ => isLg e) (fun e en ac d => .int .i64 (rofF (lgOf e) en ac d))
theorem k_rofS_14 {args : List PV} : AF 14 args = rchkS args := rfl
theorem k_rofS_32 {args : List PV} : AF 32 args = rclsS args := rfl
theorem k_rofS_33 {args : List PV} : AF 33 args = rsumS args := rfl
theorem w_rofS : PSound GG 13 rofS := by
  refine PSound.of_wpc (C := cxP Tryz.prog AF [] 25) (T := plan0) Tryz.func13 rfl rfl rfl (Fit.pure (G := GG) hAF mixed) (fun args h => ?_)
  unfold rofS at h
  obtain ⟨e, en, ac, d, rfl, hp⟩ := on_piii_inv h
  refine ⟨by simp [cxP], ?_⟩
  simp only [rofS, on_piii_eq, Tryz.f13, argL, plan0]
  obtain ⟨l, rfl, hl⟩ := hp
  simp only [lgV, lgOf_agg, map_psOf, List.length_map, k_rofS_14, rchkS, on_p_eq, k_rofS_32, rclsS, on_i_eq, k_rofS_33, rsumS, on_liii_eq, List.take_succ_cons, List.take_nil, Tryz.underlying3, sz3, by3, ze3, Tryz.underlying4, sz4, by4, ze4, Tryz.underlying25, sz25, by25, ze25, Tryz.underlying27, sz27, by27, ze27, fa27_0, Tryz.underlying33, sz33, by33, ze33, Tryz.underlying57, sz57, by57, ze57, fa57_0, fa57_1, fa57_2, fa57_3, fa57_4, fa57_5, fa57_6, fa57_7, Tryz.underlying68, sz68, by68, go_sem, ↓reduceIte, reduceCtorEq, Nat.reduceEqDiff, Nat.reduceLT, ↓all_qV, Int.reduceToNat, Int.reduceLT, Int.reduceLE, Nat.reduceAdd, Nat.reduceLeDiff, Nat.reduceMul, ev_callG, gcallK_b, gcallK_w, callGc_true, callGc_false]
  refine ⟨⟨okL1, l, rfl, hl⟩, fun h1 => by unfold rofF; rw [h1]; rfl, fun h1 => ?_⟩
  have h2 : lkF l = 0 ∧ clsI ac ≠ 0 := by simpa using h1
  have hac := clsI_pos (show 0 < clsI ac by have := clsI_nn (n := ac); omega)
  obtain ⟨g1, g2, _⟩ := lkF_ok h2.1
  have w1 : IntKind.i64.wrap (ac - 100) = ac - 100 := i64_in _ (by omega)
  have hS : (sumsT en 0 d l).length = 500 := tab_len
  have hg := arrP_get (s := sumsT en 0 d l) (i := (ac - 100).toNat) (by omega)
  have hr : (sumsT en 0 d l).getD (ac - 100).toNat 0 = rofF l en ac d := by
    unfold sumsT rofF
    rw [tab_get (by omega), show (((ac - 100).toNat : Nat) : Int) + 100 = ac by omega, h1]; rfl
  rw [hr] at hg
  simp only [w1, hg, hS, indexA, arrP_len, Nat.mul_one, Tryz.underlying3, sz3, by3, ze3, Tryz.underlying4, sz4, by4, ze4, Tryz.underlying25, sz25, by25, ze25, Tryz.underlying27, sz27, by27, ze27, fa27_0, Tryz.underlying33, sz33, by33, ze33, Tryz.underlying57, sz57, by57, ze57, fa57_0, fa57_1, fa57_2, fa57_3, fa57_4, fa57_5, fa57_6, fa57_7, Tryz.underlying68, sz68, by68, go_sem, ↓reduceIte, reduceCtorEq, Nat.reduceEqDiff, Nat.reduceLT, ↓all_qV, Int.reduceToNat, Int.reduceLT, Int.reduceLE, Nat.reduceAdd, Nat.reduceLeDiff, Nat.reduceMul, ev_callG, gcallK_b, gcallK_w, callGc_true, callGc_false]
  exact ⟨⟨l, rfl, g2, by omega⟩, by omega, by omega, by omega⟩
/-! ### Post -/
def on_pp (p : PV → PV → Prop) (f : PV → PV → PV) : PSpec
  | [a0, a1] => (p a0 a1, f a0 a1)
  | _ => (False, default)
theorem on_pp_eq {p : PV → PV → Prop} {f : PV → PV → PV} {a0 : PV} {a1 : PV} : on_pp p f [a0, a1] = (p a0 a1, f a0 a1) := rfl
theorem on_pp_inv {p : PV → PV → Prop} {f : PV → PV → PV} {args : List PV} (h : (on_pp p f args).1) : ∃ a0 : PV, ∃ a1 : PV, args = [a0, a1] ∧ p a0 a1 := by
  unfold on_pp at h
  split at h
  · exact ⟨_, _, rfl, h⟩
  · exact h.elim
def poF (l : List Pst) (p : Pst) : List Pst × Int :=
  bif lkF l != 0 then ([], lkF l) else bif !pB p then ([], 85) else bif (l.length : Int) == 400 then ([], 3) else bif p.nu != (l.length : Int) + 1 then ([], 65) else bif decide (0 < (l.length : Int)) && decide (p.d < (l.getD (l.length - 1) default).d) then ([], 8) else (l ++ [p], 0)
noncomputable def rpoS : PSpec := on_pp (fun a b => isLg a ∧ isPs b) (fun a b => .tup [lgV (poF (lgOf a) (psOf b)).1, .int .i64 (poF (lgOf a) (psOf b)).2])
def planP : Plan := { keep := fun _ => none, cut := fun _ => false, stop := fun i => i == 13 }
theorem okN1 {H : AHeap} : ∀ c, c ∈ [AV.nils] → c.one = true ∧ frzOk H 3 c := fun c hc => by rw [List.mem_singleton] at hc; subst hc; exact ⟨rfl, trivial⟩
theorem okLg {H : AHeap} {l : List PV} : ∀ c, c ∈ [AV.pv (.sl l)] → c.one = true ∧ frzOk H 3 c := okL1
theorem k_rpoS_14 {args : List PV} : AF 14 args = rchkS args := rfl
theorem k_rpoS_34 {args : List PV} : AF 34 args = rpstS args := rfl
theorem w_rpoS : PSound GG 21 rpoS := by
  refine PSound.of_wpc (C := cxP Tryz.prog AF [] 56) (T := planP) Tryz.func21 rfl rfl rfl (Fit.pure (G := GG) hAF mixed) (fun args h => ?_)
  unfold rpoS at h
  obtain ⟨a, b, rfl, hp⟩ := on_pp_inv h
  refine ⟨by simp [cxP], ?_⟩
  simp only [rpoS, on_pp_eq, Tryz.f21, argL, planP]
  obtain ⟨⟨l, rfl, hl⟩, ⟨⟨nu, d, en, db, cr, am, pa, re⟩, rfl⟩⟩ := hp
  have tl : (l.map psV).take l.length = l.map psV := List.take_of_length_le (by rw [List.length_map]; exact Nat.le_refl _)
  have hwl : ∀ e, e ∈ l.map psV → e.cells.length = 8 := fun e he => by obtain ⟨x, _, rfl⟩ := List.mem_map.1 he; rfl
  have tl1 : ∀ z : PV, (l.map psV ++ [z]).take (l.length + 1) = l.map psV ++ [z] := fun z => List.take_of_length_le (by simp)
  have w1 : IntKind.i64.wrap ((l.length : Int) + 1) = (l.length : Int) + 1 := i64_in _ (by omega)
  cases hn : l.length with
  | zero =>
    have hnil : l = [] := List.length_eq_zero_iff.1 hn
    subst hnil
    have h0 : (lkF (lgOf (.agg [.sl []])) != 0) = false := rfl
    have h40 : ((0 : Int) == 400) = false := rfl
    have q1 : decide ((0 : Int) < 0) = false := by decide
    have q2 : IntKind.i64.wrap (0 + 1) = 1 := by decide
    have nf : decide False = false := by simp
    have hdef : (default : PV) = .bool false := rfl
    have hpo : poF (lgOf (.agg [.sl []])) ⟨nu, d, en, db, cr, am, pa, re⟩ = bif !pB ⟨nu, d, en, db, cr, am, pa, re⟩ then ([], 85) else bif nu != 1 then ([], 65) else ([⟨nu, d, en, db, cr, am, pa, re⟩], 0) := by
      show poF [] ⟨nu, d, en, db, cr, am, pa, re⟩ = _
      unfold poF
      have e1 : (lkF ([] : List Pst) != 0) = false := rfl
      rw [e1]; simp
    simp only [h0, h40, q1, q2, nf, hdef, List.getD_nil, psV, psOf_agg, lgV, lgOf_agg, hpo, map_psOf, List.map_nil, List.length_nil, loadC_eq, k_rpoS_14, rchkS, on_p_eq, k_rpoS_34, rpstS, List.take_succ_cons, List.take_nil, Tryz.underlying1, sz1, by1, ze1, Tryz.underlying3, sz3, by3, ze3, Tryz.underlying4, sz4, by4, ze4, Tryz.underlying25, sz25, by25, ze25, Tryz.underlying27, sz27, by27, ze27, fa27_0, Tryz.underlying33, sz33, by33, ze33, Tryz.underlying57, sz57, by57, ze57, fa57_0, fa57_1, fa57_2, fa57_3, fa57_4, fa57_5, fa57_6, fa57_7, planP, go_sem, ↓reduceIte, reduceCtorEq, Nat.reduceEqDiff, Nat.reduceLT, ↓all_qV, Int.reduceToNat, Int.reduceLT, Int.reduceLE, Nat.reduceAdd, Nat.reduceLeDiff, Nat.reduceMul, ev_callG, gcallK_b, gcallK_w, callGc_true, callGc_false]
    refine ⟨⟨okL1, [], rfl, by simp⟩, ⟨okPs, isPs_agg⟩, fun h1 => ?_, fun h1 => ?_⟩
    · exact ⟨okN1, by rw [h1]; rfl⟩
    · refine ⟨fun h2 => ⟨okN1, by rw [h1, h2]; rfl⟩, fun h2 => ?_⟩
      refine ⟨by kernel_rfl, ?_⟩
      rw [h1, h2]
      refine AWp.perm (T := plan0) [0, 1, 3, 4, 2, 5, 6, 7, 8] (by kernel_rfl) rfl ?_
      simp only [opsOf, List.filterMap_cons, List.filterMap_nil, List.getElem?_toArray, List.getElem?_cons_succ, List.getElem?_cons_zero, psV, loadC_eq, List.map_nil, List.length_nil, List.take_succ_cons, List.take_nil, Tryz.underlying1, sz1, by1, ze1, Tryz.underlying3, sz3, by3, ze3, Tryz.underlying4, sz4, by4, ze4, Tryz.underlying25, sz25, by25, ze25, Tryz.underlying27, sz27, by27, ze27, fa27_0, Tryz.underlying33, sz33, by33, ze33, Tryz.underlying57, sz57, by57, ze57, fa57_0, fa57_1, fa57_2, fa57_3, fa57_4, fa57_5, fa57_6, fa57_7, plan0, go_sem, ↓reduceIte, reduceCtorEq, Nat.reduceEqDiff, Nat.reduceLT, ↓all_qV, Int.reduceToNat, Int.reduceLT, Int.reduceLE, Nat.reduceAdd, Nat.reduceLeDiff, Nat.reduceMul, ev_callG, gcallK_b, gcallK_w, callGc_true, callGc_false]
      have tk1 : ∀ z : PV, (z : PV) = z := fun z => rfl
      and_intros
      all_goals try first | exact okPs | rfl | omega | (simp only [maxLen]; omega) | (intro e he; cases he; done) | (intro e he; rw [List.mem_singleton] at he; subst he; rfl) | (simp [frzOk, hget]; done)
  | succ k =>
    have c1 : decide (0 < ((k + 1 : Nat) : Int)) = true := by simp
    have w2 : IntKind.i64.wrap (((k + 1 : Nat) : Int) - 1) = (k : Int) := by rw [i64_in _ (by omega)]; omega
    have e1 := getD_ps (l := l) (i := k) (by omega)
    have hpo : poF l ⟨nu, d, en, db, cr, am, pa, re⟩ = bif lkF l != 0 then ([], lkF l) else bif !pB ⟨nu, d, en, db, cr, am, pa, re⟩ then ([], 85) else bif ((k + 1 : Nat) : Int) == 400 then ([], 3) else bif nu != ((k + 1 : Nat) : Int) + 1 then ([], 65) else bif decide (d < (l.getD k default).d) then ([], 8) else (l ++ [⟨nu, d, en, db, cr, am, pa, re⟩], 0) := by
      unfold poF
      rw [hn, c1]; rfl
    generalize l.getD k default = y at e1 hpo
    obtain ⟨nu', d', en', db', cr', am', pa', re'⟩ := y
    simp only [psV] at e1
    simp only at hpo
    rw [hn] at w1
    simp only [c1, w1, w2, e1, hn, psV, psOf_agg, lgV, lgOf_agg, hpo, map_psOf, List.length_map, loadC_eq, k_rpoS_14, rchkS, on_p_eq, k_rpoS_34, rpstS, List.take_succ_cons, List.take_nil, Tryz.underlying1, sz1, by1, ze1, Tryz.underlying3, sz3, by3, ze3, Tryz.underlying4, sz4, by4, ze4, Tryz.underlying25, sz25, by25, ze25, Tryz.underlying27, sz27, by27, ze27, fa27_0, Tryz.underlying33, sz33, by33, ze33, Tryz.underlying57, sz57, by57, ze57, fa57_0, fa57_1, fa57_2, fa57_3, fa57_4, fa57_5, fa57_6, fa57_7, planP, go_sem, ↓reduceIte, reduceCtorEq, Nat.reduceEqDiff, Nat.reduceLT, ↓all_qV, Int.reduceToNat, Int.reduceLT, Int.reduceLE, Nat.reduceAdd, Nat.reduceLeDiff, Nat.reduceMul, ev_callG, gcallK_b, gcallK_w, callGc_true, callGc_false]
    refine ⟨⟨okL1, l, rfl, hl⟩, fun h0 => ⟨okN1, by rw [h0]; rfl⟩, fun h0 => ⟨⟨okPs, isPs_agg⟩, fun h1 => ⟨okN1, by rw [h0, h1]; rfl⟩, fun h1 => ⟨fun h2 => ⟨okN1, by rw [h0, h1, h2]; rfl⟩, fun h2 => ⟨fun h3 => ⟨okN1, by rw [h0, h1, h2, h3]; rfl⟩, fun h3 => ?_⟩⟩⟩⟩
    refine ⟨by kernel_rfl, ⟨by omega, by omega⟩, fun h4 => ⟨okN1, by rw [h0, h1, h2, h3, h4]; rfl⟩, fun h4 => ?_⟩
    rw [h0, h1, h2, h3, h4]
    refine AWp.perm (T := plan0) [0, 1, 3, 4, 2, 5, 6, 7, 8] (by kernel_rfl) rfl ?_
    rw [hn] at tl tl1
    simp only [opsOf, List.filterMap_cons, List.filterMap_nil, List.getElem?_toArray, List.getElem?_cons_succ, List.getElem?_cons_zero, tl, tl1, hn, psV, loadC_eq, List.length_map, List.take_succ_cons, List.take_nil, Tryz.underlying1, sz1, by1, ze1, Tryz.underlying3, sz3, by3, ze3, Tryz.underlying4, sz4, by4, ze4, Tryz.underlying25, sz25, by25, ze25, Tryz.underlying27, sz27, by27, ze27, fa27_0, Tryz.underlying33, sz33, by33, ze33, Tryz.underlying57, sz57, by57, ze57, fa57_0, fa57_1, fa57_2, fa57_3, fa57_4, fa57_5, fa57_6, fa57_7, plan0, go_sem, ↓reduceIte, reduceCtorEq, Nat.reduceEqDiff, Nat.reduceLT, ↓all_qV, Int.reduceToNat, Int.reduceLT, Int.reduceLE, Nat.reduceAdd, Nat.reduceLeDiff, Nat.reduceMul, ev_callG, gcallK_b, gcallK_w, callGc_true, callGc_false]
    and_intros
    all_goals try first | exact okPs | rfl | omega | (simp only [maxLen]; omega) | exact hwl | (intro e he; cases he; done) | (intro e he; rw [List.mem_singleton] at he; subst he; rfl) | (simp [frzOk, hget]; done) | (intro c hc; rw [List.mem_singleton] at hc; subst hc; simp [frzOk, hget, hn]; done) | (simp [psV]; done)
noncomputable def AG (g : FuncId) : PSpec := (putΦ (putΦ AF 13 rofS) 21 rpoS) g
theorem hAG : TabSound GG AG := ((hAF.put w_rofS).put w_rpoS)
end Go.AM
