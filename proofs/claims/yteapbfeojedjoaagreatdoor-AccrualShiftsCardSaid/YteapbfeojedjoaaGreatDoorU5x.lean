/-
  A part of a proof: see the last text of this claim for what is proved.
-/
import Derived.Test.YteapbfeojedjoaaGreatDoorUP3
import Derived.Test.YteapbfeojedjoaaGreatDoorZMa
namespace Go.AM
open Go Go.Proofs Go.IntWalk
set_option maxRecDepth 100000
set_option maxHeartbeats 4000000
set_option linter.unusedSimpArgs false
set_option linter.unusedVariables false
def trnF (x : Pst) (n d : Int) : Pst := ⟨n, d, x.en, x.cr, x.db, x.am, x.pa, x.re⟩
noncomputable def ltrnS : PSpec := on_pii (fun e _ _ => isPs e) (fun e n d => psV (trnF (psOf e) n d))
theorem w_ltrnS : PSound GG 39 ltrnS := by
  refine PSound.of_wpc (C := cxP Tryz.prog AJ [] 18) (T := plan0) Tryz.func39 rfl rfl rfl (Fit.pure (G := GG) hAJ mixed) (fun args h => ?_)
  unfold ltrnS at h
  obtain ⟨e, n, d, rfl, hp⟩ := on_pii_inv h
  refine ⟨by simp [cxP], ?_⟩
  simp only [ltrnS, on_pii_eq, Tryz.f39, argL, plan0]
  obtain ⟨⟨nu, day, en, db, cr, am, pa, re⟩, rfl⟩ := hp
  simp only [psV, psOf_agg, trnF, loadC_eq, List.take_succ_cons, List.take_nil, Tryz.underlying1, sz1, by1, ze1, Tryz.underlying3, sz3, by3, ze3, Tryz.underlying4, sz4, by4, ze4, Tryz.underlying57, sz57, by57, ze57, fa57_0, fa57_1, fa57_2, fa57_3, fa57_4, fa57_5, fa57_6, fa57_7, go_sem, ↓reduceIte, reduceCtorEq, Nat.reduceEqDiff, Nat.reduceLT, ↓all_qV, Int.reduceToNat, Int.reduceLT, Int.reduceLE, Nat.reduceAdd, Nat.reduceLeDiff, Nat.reduceMul]
  and_intros
  all_goals try first | exact okPs | rfl
noncomputable def AK (g : FuncId) : PSpec := (putΦ AJ 39 ltrnS) g
theorem hAK : TabSound GG AK := (hAJ.put w_ltrnS)
/-! ### slices.Clone -/
def planC : Plan := { keep := fun _ => none, cut := fun _ => false, stop := fun i => i == 1 }
noncomputable def cloneQ : PSpec := on_l (fun es => (∀ e, e ∈ es → e.width = 8 ∧ e.cells.all PV.one = true) ∧ es.length ≤ 1000000) (fun es => .sl es)
theorem w_cloneS : ESound GG 38 (psiRow 8 cloneQ) := by
  refine ESound.of_row (C := cxQ Tryz.prog AK noΘ noΨ [5] [] 8) (T := planC) (t := 2) (k := 8) (by decide) Tryz.func38 rfl rfl rfl rfl (Fit.all (G := GG) hAK hnoΘ hnoΨ mixed) (fun args h => ?_)
  unfold cloneQ at h
  obtain ⟨es, rfl, he, hl⟩ := on_l_inv h
  refine ⟨by simp [cxQ], ?_⟩
  simp only [cloneQ, on_l_eq, Tryz.f38, argL, Tryz.underlying3, sz3, by3, ze3, Tryz.underlying4, sz4, by4, ze4, Tryz.underlying25, sz25, by25, ze25, Tryz.underlying57, sz57, by57, ze57, fa57_0, fa57_1, fa57_2, fa57_3, fa57_4, fa57_5, fa57_6, fa57_7, planC, FinRow, go_sem, ↓reduceIte, reduceCtorEq, Nat.reduceEqDiff, Nat.reduceLT, ↓all_qV, Int.reduceToNat, Int.reduceLT, Int.reduceLE, Nat.reduceAdd, Nat.reduceLeDiff, Nat.reduceMul, ev_callG, gcallK_b, gcallK_w, callGc_true, callGc_false]
  refine AWp.nilq (e := 57) rfl Tryz.underlying25 (by decide) (by decide) (fun b hb => ?_)
  refine wpc_sound (T := plan0) _ _ _ ?_
  simp only [upd_look, ev_rowlit0, Nat.reduceBEq, Tryz.underlying3, sz3, by3, ze3, Tryz.underlying4, sz4, by4, ze4, Tryz.underlying25, sz25, by25, ze25, Tryz.underlying57, sz57, by57, ze57, fa57_0, fa57_1, fa57_2, fa57_3, fa57_4, fa57_5, fa57_6, fa57_7, FinRow, rowIs, plan0, planC, go_sem, ↓reduceIte, reduceCtorEq, Nat.reduceEqDiff, Nat.reduceLT, ↓all_qV, Int.reduceToNat, Int.reduceLT, Int.reduceLE, Nat.reduceAdd, Nat.reduceLeDiff, Nat.reduceMul, ev_callG, gcallK_b, gcallK_w, callGc_true, callGc_false]
  exact ⟨fun h9 => by rw [hb h9], fun _ => ⟨rfl, fun e he' => (he e he').1, by omega, by simp only [maxLen]; omega, Nat.le_refl _, by rw [List.take_length]⟩⟩
noncomputable def Ψc (g : FuncId) : Option ESpec := putΨ noΨ 38 (psiRow 8 cloneQ) g
theorem hΨc : ETab GG Ψc := hnoΨ.put w_cloneS psiRow_mono
/-! ### Reopen -/
def isT (en day : Int) (x : Pst) : Bool := x.en == en && x.d == day && x.re == 1000000
def reT (en day : Int) : List Pst → List Pst → List Pst
  | o, [] => o
  | o, x :: r => reT en day (bif isT en day x then o ++ [trnF x ((o.length : Int) + 1) (day + 1)] else o) r
theorem reT_snoc (en day : Int) (x : Pst) : ∀ (l o : List Pst), reT en day o (l ++ [x]) = bif isT en day x then reT en day o l ++ [trnF x (((reT en day o l).length : Int) + 1) (day + 1)] else reT en day o l
  | [], o => rfl
  | y :: r, o => by rw [List.cons_append, reT, reT_snoc en day x r, reT]
theorem reT_len (en day : Int) : ∀ (l o : List Pst), o.length ≤ (reT en day o l).length ∧ (reT en day o l).length ≤ o.length + l.length
  | [], o => by simp [reT]
  | y :: r, o => by
    rw [reT, List.length_cons]
    cases isT en day y with
    | true =>
      have := reT_len en day r (o ++ [trnF y ((o.length : Int) + 1) (day + 1)])
      simp only [cond_true, List.length_append, List.length_singleton] at this ⊢
      omega
    | false =>
      have := reT_len en day r o
      simp only [cond_false]; omega
def reoF (l : List Pst) (en day : Int) : List Pst × Int :=
  bif lkF l != 0 then ([], lkF l) else bif !amg en 1 10 then ([], 89) else bif !amg day 0 35999 || decide (day + 1 < lastD l) then ([], 8) else
  bif decide (400 < ((reT en day l l).length : Int)) then ([], 3) else (reT en day l l, 0)
theorem AK_among {args : List PV} : AK 28 args = amongS args := rfl
def planR : Plan := { keep := fun _ => none, cut := fun _ => false, stop := fun i => i == 12 }
noncomputable def reoS : PSpec := on_pii (fun a _ _ => isLg a) (fun a en day => .tup [lgV (reoF (lgOf a) en day).1, .int .i64 (reoF (lgOf a) en day).2])
theorem k_reoS_36 {args : List PV} : AK 36 args = lchkS args := rfl
theorem k_reoS_37 {args : List PV} : AK 37 args = llastS args := rfl
theorem k_reoS_39 {args : List PV} : AK 39 args = ltrnS args := rfl
theorem w_reoS : PSound GG 18 reoS := by
  refine PSound.of_wpc (C := cxQ Tryz.prog AK noΘ Ψc [] [] 81) (T := planR) Tryz.func18 rfl rfl rfl (Fit.all (G := GG) hAK hnoΘ hΨc mixed) (fun args h => ?_)
  unfold reoS at h
  obtain ⟨a, en, day, rfl, l, rfl, hl⟩ := on_pii_inv h
  refine ⟨by simp [cxQ], ?_⟩
  have hwl : ∀ e, e ∈ l.map psV → e.width = 8 ∧ e.cells.all PV.one = true := fun e he => by obtain ⟨x, _, rfl⟩ := List.mem_map.1 he; exact ⟨rfl, rfl⟩
  by_cases hd : 0 ≤ day ∧ day ≤ 35999
  · have hda : amg day 0 35999 = true := by unfold amg; simp; omega
    have w1 : IntKind.i64.wrap (day + 1) = day + 1 := i64_in _ (by omega)
    simp (config := {maxSteps := 1000000}) only [reoS, on_pii_eq, lgV, lgOf_agg, map_psOf, hda, w1, Ψc, psiRow_eq, cloneQ, on_l_eq, AK_among, amongS, on_iii_eq, List.length_map, loadC_eq, k_reoS_36, lchkS, on_p_eq, k_reoS_37, llastS, k_reoS_39, ltrnS, on_pii_eq, Tryz.f18, argL, List.take_succ_cons, List.take_nil, Tryz.underlying1, sz1, by1, ze1, Tryz.underlying2, sz2, by2, ze2, Tryz.underlying3, sz3, by3, ze3, Tryz.underlying4, sz4, by4, ze4, Tryz.underlying6, sz6, by6, ze6, Tryz.underlying7, sz7, by7, ze7, fa7_0, fa7_1, fa7_2, fa7_3, Tryz.underlying25, sz25, by25, ze25, Tryz.underlying27, sz27, by27, ze27, fa27_0, Tryz.underlying33, sz33, by33, ze33, Tryz.underlying57, sz57, by57, ze57, fa57_0, fa57_1, fa57_2, fa57_3, fa57_4, fa57_5, fa57_6, fa57_7, planR, go_sem, ↓reduceIte, reduceCtorEq, Nat.reduceEqDiff, Nat.reduceLT, ↓all_qV, Int.reduceToNat, Int.reduceLT, Int.reduceLE, Nat.reduceAdd, Nat.reduceLeDiff, Nat.reduceMul, ev_callG, gcallK_b, gcallK_w, callGc_true, callGc_false]
    refine ⟨⟨okL1, l, rfl, hl⟩, fun h1 => ⟨okN1, by unfold reoF; rw [h1]; rfl⟩, fun h1 => ⟨fun h2 => ⟨okN1, by unfold reoF; rw [h1, h2]; rfl⟩, fun h2 => ⟨⟨okL1, l, rfl, hl⟩, fun h3 => ⟨okN1, by unfold reoF; rw [h1, h2, hda, h3]; rfl⟩, fun h3 => ?_⟩⟩⟩
    have h0 : lkF l = 0 := by simpa using h1
    have hl4 := (lkF_ok h0).1
    have hres : reoF l en day = bif decide (400 < ((reT en day l l).length : Int)) then ([], 3) else (reT en day l l, 0) := by
      unfold reoF; rw [h1, h2, hda, h3]; rfl
    refine ⟨⟨hwl, by omega⟩, fun es he => ?_⟩
    simp only [PV.sl.injEq] at he
    subst he
    have tk0 : (l.map psV).take l.length = l.map psV := List.take_of_length_le (by rw [List.length_map]; exact Nat.le_refl _)
    rw [hres]
    simp (config := {maxSteps := 1000000}) only [List.length_map, loadC_eq, List.take_succ_cons, List.take_nil, Tryz.underlying1, sz1, by1, ze1, Tryz.underlying2, sz2, by2, ze2, Tryz.underlying3, sz3, by3, ze3, Tryz.underlying4, sz4, by4, ze4, Tryz.underlying6, sz6, by6, ze6, Tryz.underlying7, sz7, by7, ze7, fa7_0, fa7_1, fa7_2, fa7_3, Tryz.underlying25, sz25, by25, ze25, Tryz.underlying27, sz27, by27, ze27, fa27_0, Tryz.underlying33, sz33, by33, ze33, Tryz.underlying57, sz57, by57, ze57, fa57_0, fa57_1, fa57_2, fa57_3, fa57_4, fa57_5, fa57_6, fa57_7, planR, go_sem, ↓reduceIte, reduceCtorEq, Nat.reduceEqDiff, Nat.reduceLT, ↓all_qV, Int.reduceToNat, Int.reduceLT, Int.reduceLE, Nat.reduceAdd, Nat.reduceLeDiff, Nat.reduceMul, ev_callG, gcallK_b, gcallK_w, callGc_true, callGc_false]
    refine AWp.loop (T := planR) (α := Nat) (fun i => ([(1, .pv (.int .i64 en)), (2, .pv (.int .i64 day)), (6, .ptr 6 0), (9, .ptr 9 0), (40, .pv (.sl (l.map psV))), (41, .pv (.int .i64 l.length)), (42, .pv (.int .i64 i))], [(6, .cells [.nils]), (9, .cells [.rs 37 (reT en day l (l.take i)).length]), (37, .row 8 ((reT en day l (l.take i)).map psV))]))
      (fun i => i ≤ l.length) (fun i => l.length - i)
      ⟨0, Nat.zero_le _, ⟨by simp [fitR, look], by simp [fitH, hget, reT], rfl, rfl, rfl⟩⟩ ?_
    intro i hi
    have hi1 : IntKind.i64.wrap ((i : Int) + 1) = ((i + 1 : Nat) : Int) := by rw [i64_in _ (by omega)]; omega
    by_cases hlt : i < l.length
    · have c0 : decide ((i : Int) < (l.length : Int)) = true := by simp; omega
      have e1 := getD_ps hlt
      have hst := reT_snoc en day (l.getD i default) (l.take i) l
      rw [← take_succ' hlt] at hst
      have hrl := reT_len en day (l.take i) l
      rw [List.length_take] at hrl
      generalize l.getD i default = x at e1 hst
      generalize reT en day l (l.take i) = O at hst hrl ⊢
      obtain ⟨nu, d, e, db, cr, am, pa, re⟩ := x
      simp only [psV] at e1
      have wO : IntKind.i64.wrap ((O.length : Int) + 1) = (O.length : Int) + 1 := i64_in _ (by omega)
      have tk : (O.map psV).take O.length = O.map psV := List.take_of_length_le (by rw [List.length_map]; exact Nat.le_refl _)
      simp (config := {maxSteps := 1000000}) only [c0, e1, hi1, List.length_map, List.take_succ_cons, List.take_nil, Tryz.underlying1, sz1, by1, ze1, Tryz.underlying2, sz2, by2, ze2, Tryz.underlying3, sz3, by3, ze3, Tryz.underlying4, sz4, by4, ze4, Tryz.underlying6, sz6, by6, ze6, Tryz.underlying7, sz7, by7, ze7, fa7_0, fa7_1, fa7_2, fa7_3, Tryz.underlying25, sz25, by25, ze25, Tryz.underlying27, sz27, by27, ze27, fa27_0, Tryz.underlying33, sz33, by33, ze33, Tryz.underlying57, sz57, by57, ze57, fa57_0, fa57_1, fa57_2, fa57_3, fa57_4, fa57_5, fa57_6, fa57_7, planR, go_sem, ↓reduceIte, reduceCtorEq, Nat.reduceEqDiff, Nat.reduceLT, ↓all_qV, Int.reduceToNat, Int.reduceLT, Int.reduceLE, Nat.reduceAdd, Nat.reduceLeDiff, Nat.reduceMul, ev_callG, gcallK_b, gcallK_w, callGc_true, callGc_false]
      refine ⟨⟨by omega, by omega⟩, ?_⟩
      refine AWp.seqc (T := plan0) ?_
      simp (config := {maxSteps := 1000000}) only [List.take_succ_cons, List.take_nil, Tryz.underlying1, sz1, by1, ze1, Tryz.underlying2, sz2, by2, ze2, Tryz.underlying3, sz3, by3, ze3, Tryz.underlying4, sz4, by4, ze4, Tryz.underlying6, sz6, by6, ze6, Tryz.underlying7, sz7, by7, ze7, fa7_0, fa7_1, fa7_2, fa7_3, Tryz.underlying25, sz25, by25, ze25, Tryz.underlying27, sz27, by27, ze27, fa27_0, Tryz.underlying33, sz33, by33, ze33, Tryz.underlying57, sz57, by57, ze57, fa57_0, fa57_1, fa57_2, fa57_3, fa57_4, fa57_5, fa57_6, fa57_7, plan0, go_sem, ↓reduceIte, reduceCtorEq, Nat.reduceEqDiff, Nat.reduceLT, ↓all_qV, Int.reduceToNat, Int.reduceLT, Int.reduceLE, Nat.reduceAdd, Nat.reduceLeDiff, Nat.reduceMul, ev_callG, gcallK_b, gcallK_w, callGc_true, callGc_false]
      refine AWp.condc (t := isT en day ⟨nu, d, e, db, cr, am, pa, re⟩) rfl (fun h9 => ?_) (fun h9 => ?_)
      · rw [h9] at hst
        refine AWp.perm0 [0, 1, 2, 3, 4, 5, 6, 7, 8, 9, 10, 11, 12, 13] (by kernel_rfl) rfl ?_
        simp (config := {maxSteps := 1000000}) only [Ψc, opsOf, List.filterMap_cons, List.filterMap_nil, List.getElem?_toArray, List.getElem?_cons_succ, List.getElem?_cons_zero, hi1, w1, wO, tk, psV, psOf_agg, trnF, List.length_map, k_reoS_36, lchkS, on_p_eq, k_reoS_37, llastS, k_reoS_39, ltrnS, on_pii_eq, List.take_succ_cons, List.take_nil, Tryz.underlying1, sz1, by1, ze1, Tryz.underlying2, sz2, by2, ze2, Tryz.underlying3, sz3, by3, ze3, Tryz.underlying4, sz4, by4, ze4, Tryz.underlying6, sz6, by6, ze6, Tryz.underlying7, sz7, by7, ze7, fa7_0, fa7_1, fa7_2, fa7_3, Tryz.underlying25, sz25, by25, ze25, Tryz.underlying27, sz27, by27, ze27, fa27_0, Tryz.underlying33, sz33, by33, ze33, Tryz.underlying57, sz57, by57, ze57, fa57_0, fa57_1, fa57_2, fa57_3, fa57_4, fa57_5, fa57_6, fa57_7, plan0, planR, go_sem, ↓reduceIte, reduceCtorEq, Nat.reduceEqDiff, Nat.reduceLT, ↓all_qV, Int.reduceToNat, Int.reduceLT, Int.reduceLE, Nat.reduceAdd, Nat.reduceLeDiff, Nat.reduceMul, ev_callG, gcallK_b, gcallK_w, callGc_true, callGc_false]
        refine ⟨⟨okPs, isPs_agg⟩, rfl, fun e he => by rw [List.mem_singleton] at he; subst he; rfl, Nat.le_refl _, by omega, by simp only [maxLen]; omega, i + 1, by omega, by omega, ⟨by simp [fitR, look], ?_, rfl, rfl, rfl⟩⟩
        rw [hst]; simp [fitH, hget, psV, trnF]
      · refine AWp.skipc ?_
        rw [h9] at hst
        simp (config := {maxSteps := 1000000}) only [List.take_succ_cons, List.take_nil, hi1, Tryz.underlying1, sz1, by1, ze1, Tryz.underlying2, sz2, by2, ze2, Tryz.underlying3, sz3, by3, ze3, Tryz.underlying4, sz4, by4, ze4, Tryz.underlying6, sz6, by6, ze6, Tryz.underlying7, sz7, by7, ze7, fa7_0, fa7_1, fa7_2, fa7_3, Tryz.underlying25, sz25, by25, ze25, Tryz.underlying27, sz27, by27, ze27, fa27_0, Tryz.underlying33, sz33, by33, ze33, Tryz.underlying57, sz57, by57, ze57, fa57_0, fa57_1, fa57_2, fa57_3, fa57_4, fa57_5, fa57_6, fa57_7, plan0, planR, go_sem, ↓reduceIte, reduceCtorEq, Nat.reduceEqDiff, Nat.reduceLT, ↓all_qV, Int.reduceToNat, Int.reduceLT, Int.reduceLE, Nat.reduceAdd, Nat.reduceLeDiff, Nat.reduceMul, ev_callG, gcallK_b, gcallK_w, callGc_true, callGc_false]
        rw [cond_false] at hst
        exact ⟨i + 1, by omega, by omega, ⟨by simp [fitR, look], by rw [hst]; simp [fitH, hget], rfl, rfl, rfl⟩⟩
    · have c0 : decide ((i : Int) < (l.length : Int)) = false := by simp; omega
      rw [List.take_of_length_le (by omega)]
      have hrl := reT_len en day l l
      generalize reT en day l l = O at hrl ⊢
      have tk : (O.map psV).take O.length = O.map psV := List.take_of_length_le (by rw [List.length_map]; exact Nat.le_refl _)
      simp (config := {maxSteps := 1000000}) only [c0, tk, loadC_eq, List.length_map, List.take_succ_cons, List.take_nil, Tryz.underlying1, sz1, by1, ze1, Tryz.underlying2, sz2, by2, ze2, Tryz.underlying3, sz3, by3, ze3, Tryz.underlying4, sz4, by4, ze4, Tryz.underlying6, sz6, by6, ze6, Tryz.underlying7, sz7, by7, ze7, fa7_0, fa7_1, fa7_2, fa7_3, Tryz.underlying25, sz25, by25, ze25, Tryz.underlying27, sz27, by27, ze27, fa27_0, Tryz.underlying33, sz33, by33, ze33, Tryz.underlying57, sz57, by57, ze57, fa57_0, fa57_1, fa57_2, fa57_3, fa57_4, fa57_5, fa57_6, fa57_7, planR, go_sem, ↓reduceIte, reduceCtorEq, Nat.reduceEqDiff, Nat.reduceLT, ↓all_qV, Int.reduceToNat, Int.reduceLT, Int.reduceLE, Nat.reduceAdd, Nat.reduceLeDiff, Nat.reduceMul, ev_callG, gcallK_b, gcallK_w, callGc_true, callGc_false]
      have okR1 : ∀ {H : AHeap}, hget H 37 = some (.row 8 (O.map psV)) → ∀ c, c ∈ [AV.rs 37 O.length] → c.one = true ∧ frzOk H 3 c := fun hh c hc => by
        rw [List.mem_singleton] at hc; subst hc
        exact ⟨rfl, by simp only [frzOk, hh]; rw [List.length_map]; exact Nat.le_refl _⟩
      exact ⟨fun h5 => ⟨okN1, by rw [h5]; rfl⟩, fun h5 => ⟨okR1 (by simp [hget]), by rw [h5]; rfl⟩⟩
  · have hda : amg day 0 35999 = false := by unfold amg; simp; omega
    simp (config := {maxSteps := 1000000}) only [reoS, on_pii_eq, lgV, lgOf_agg, map_psOf, hda, Ψc, psiRow_eq, cloneQ, on_l_eq, AK_among, amongS, on_iii_eq, List.length_map, loadC_eq, k_reoS_36, lchkS, on_p_eq, k_reoS_37, llastS, k_reoS_39, ltrnS, on_pii_eq, Tryz.f18, argL, List.take_succ_cons, List.take_nil, Tryz.underlying1, sz1, by1, ze1, Tryz.underlying2, sz2, by2, ze2, Tryz.underlying3, sz3, by3, ze3, Tryz.underlying4, sz4, by4, ze4, Tryz.underlying6, sz6, by6, ze6, Tryz.underlying7, sz7, by7, ze7, fa7_0, fa7_1, fa7_2, fa7_3, Tryz.underlying25, sz25, by25, ze25, Tryz.underlying27, sz27, by27, ze27, fa27_0, Tryz.underlying33, sz33, by33, ze33, Tryz.underlying57, sz57, by57, ze57, fa57_0, fa57_1, fa57_2, fa57_3, fa57_4, fa57_5, fa57_6, fa57_7, planR, go_sem, ↓reduceIte, reduceCtorEq, Nat.reduceEqDiff, Nat.reduceLT, ↓all_qV, Int.reduceToNat, Int.reduceLT, Int.reduceLE, Nat.reduceAdd, Nat.reduceLeDiff, Nat.reduceMul, ev_callG, gcallK_b, gcallK_w, callGc_true, callGc_false]
    exact ⟨⟨okL1, l, rfl, hl⟩, fun h1 => ⟨okN1, by unfold reoF; rw [h1]; rfl⟩, fun h1 => ⟨fun h2 => ⟨okN1, by unfold reoF; rw [h1, h2]; rfl⟩, fun h2 => ⟨okN1, by unfold reoF; rw [h1, h2, hda]; rfl⟩⟩⟩
noncomputable def AL (g : FuncId) : PSpec := (putΦ AK 18 reoS) g
theorem hAL : TabSound GG AL := (hAK.put w_reoS)
end Go.AM
namespace Go.AM
open Go Go.Proofs Go.IntWalk
set_option maxRecDepth 100000
set_option maxHeartbeats 1000000
set_option linter.unusedSimpArgs false
set_option linter.unusedVariables false
/-- What is turned, by account. -/
def tBal (en day a : Int) : List Pst → Int
  | [] => 0
  | x :: r => (bif isT en day x then signA a x.db x.cr x.am else 0) + tBal en day a r
theorem tBal_app (en day a : Int) : ∀ x y : List Pst, tBal en day a (x ++ y) = tBal en day a x + tBal en day a y
  | [], y => by simp [tBal]
  | p :: r, y => by rw [List.cons_append, tBal, tBal, tBal_app en day a r y]; omega
theorem tBal_postL {en day a n db cr am re : Int} : tBal en day a (postL n en day db cr am re) = bif re == 1000000 then signA a db cr am else 0 := by
  unfold postL signA
  by_cases h1 : am < 0
  · rw [show decide (am < 0) = true from decide_eq_true h1]
    simp only [cond_true, tBal, isT, beq_self_eq_true, Bool.true_and, signA]
    cases re == 1000000 with
    | false => rfl
    | true => simp only [cond_true]; split <;> split <;> omega
  · rw [show decide (am < 0) = false from decide_eq_false h1]
    by_cases h2 : 0 < am
    · rw [show decide (0 < am) = true from decide_eq_true h2]
      simp only [cond_true, cond_false, tBal, isT, beq_self_eq_true, Bool.true_and, signA]
      cases re == 1000000 with
      | false => rfl
      | true => simp only [cond_true]; omega
    · rw [show decide (0 < am) = false from decide_eq_false h2]
      have : am = 0 := by omega
      subst this
      simp only [cond_false, tBal]
      cases re == 1000000 <;> simp
theorem tBal_addP {en day a n db cr am re : Int} {o : List Pst} : tBal en day a (addP n en day db cr am re o) = tBal en day a o + bif re == 1000000 then signA a db cr am else 0 := by
  unfold addP; rw [tBal_app, tBal_postL]
theorem tBal_outA {en day a : Int} {l : List Pst} {c : Clo} : tBal en day a (outA l en day c) = signA a 520 220 c.i + signA a 510 210 c.u + signA a 130 510 c.p := by
  unfold outA
  simp only [tBal_addP, tBal]
  have h1 : ((1000000 : Int) == 1000000) = true := rfl
  have h2 : ((0 : Int) == 1000000) = false := rfl
  rw [h1, h2]
  simp only [cond_true, cond_false]; omega
theorem tBal_none {en day a : Int} : ∀ l : List Pst, (∀ x, x ∈ l → x.d ≠ day) → tBal en day a l = 0
  | [], _ => rfl
  | x :: r, h => by
    have h1 : isT en day x = false := by
      unfold isT
      have : (x.d == day) = false := by simpa using h x List.mem_cons_self
      rw [this]; simp
    rw [tBal, h1, tBal_none r (fun y hy => h y (List.mem_cons_of_mem _ hy))]; rfl
theorem bal_reT {en day to a : Int} (he : en ≠ 0) (h0 : 0 ≤ day) (ht : day + 1 ≤ to) : ∀ (p o : List Pst), balF en 0 to a (reT en day o p) = balF en 0 to a o - tBal en day a p
  | [], o => by simp [reT, tBal]
  | x :: r, o => by
    rw [reT, bal_reT he h0 ht r, tBal]
    cases h : isT en day x with
    | false => simp
    | true =>
      simp only [cond_true, bal_app, balF]
      have hx : x.en = en := by
        unfold isT at h
        simp only [Bool.and_eq_true, beq_iff_eq] at h
        exact h.1.1
      have hc : cntB en 0 to (trnF x ((o.length : Int) + 1) (day + 1)) = true := by
        unfold cntB trnF amg
        simp [hx]; omega
      rw [hc]
      have key : ∀ p q B Q : Int, B + (q - p + 0) - Q = B - ((p - q) + Q) := by omega
      exact key (if a == x.db then x.am else 0) (if a == x.cr then x.am else 0) _ _
theorem reT_good {en day : Int} (he : 1 ≤ en ∧ en ≤ 10) (hd : 0 ≤ day ∧ day ≤ 35999) : ∀ (p o : List Pst), (∀ x, x ∈ p → pB x = true) → o.length + p.length ≤ 1000 → ∃ T, reT en day o p = o ++ T ∧ T.length ≤ p.length ∧ GoodO o.length en (day + 1) T
  | [], o, _, _ => ⟨[], by simp [reT], Nat.le_refl _, fun i x h => by simp at h⟩
  | x :: r, o, hp, hn => by
    rw [reT]
    simp only [List.length_cons] at hn
    cases h : isT en day x with
    | false =>
      obtain ⟨T, h1, h2, h3⟩ := reT_good he hd r o (fun y hy => hp y (List.mem_cons_of_mem _ hy)) (by omega)
      exact ⟨T, h1, by simp only [List.length_cons]; omega, h3⟩
    | true =>
      have hx : x.en = en := by
        unfold isT at h
        simp only [Bool.and_eq_true, beq_iff_eq] at h
        exact h.1.1
      obtain ⟨T, h1, h2, h3⟩ := reT_good he hd r (o ++ [trnF x ((o.length : Int) + 1) (day + 1)]) (fun y hy => hp y (List.mem_cons_of_mem _ hy)) (by rw [List.length_append]; simp only [List.length_singleton]; omega)
      refine ⟨trnF x ((o.length : Int) + 1) (day + 1) :: T, by simp only [cond_true]; rw [h1, List.append_assoc]; rfl, by simp only [List.length_cons]; omega, fun i y hi => ?_⟩
      cases i with
      | zero =>
        simp at hi; subst hi
        have hb := pB_parts (hp x List.mem_cons_self)
        refine ⟨by simp [trnF], rfl, hx, pB_of ⟨?_, ?_, ?_, hb.2.2.2.2.1, hb.2.2.2.1, fun e => hb.2.2.2.2.2.1 e.symm, ?_, ?_, ?_, ?_⟩⟩ <;> simp only [trnF] <;> omega
      | succ i =>
        have := h3 i y (by simpa using hi)
        rw [List.length_append, List.length_singleton] at this
        exact ⟨by rw [this.1]; push_cast; omega, this.2⟩
theorem turns_plain {l : List Pst} {c : Clo} (hl : ledG 2 700 l) (hn : l.length ≤ 10) (hc : cloG c) :
    ∃ X Y, cloF l 1 719 c = (X, 0) ∧ reoF X 1 719 = (Y, 0) ∧ lkF Y = 0 ∧ (∀ a, a = 220 ∨ a = 210 ∨ a = 130 ∨ a = 520 ∨ a = 510 → rofF Y 1 a 720 = rofF l 1 a 720) ∧ X.length ≤ 50 ∧ Y.length ≤ 50 := by
  obtain ⟨cl, sm⟩ := led_closable hl hn
  obtain ⟨rX, cX⟩ := close_gen cl (by omega) hc (en := 1) (by omega) (sm 1)
  have hXb := (lkF_ok cX.1).2.1
  obtain ⟨T, t1, t2, t3⟩ := reT_good (en := 1) (day := 719) (by omega) (by omega) (l ++ outA l 1 719 c) (l ++ outA l 1 719 c) hXb (by have := cX.2.1; omega)
  have tb : ∀ a, tBal 1 719 a (l ++ outA l 1 719 c) = signA a 520 220 c.i + signA a 510 210 c.u + signA a 130 510 c.p := fun a => by
    rw [tBal_app, tBal_outA, tBal_none l (fun x hx => by have := (hl.2 x hx).1; omega), Int.zero_add]
  have bX : ∀ a, balF 1 0 720 a (l ++ outA l 1 719 c) = balF 1 0 720 a l + dltA l 1 c a := fun a => by
    rw [bal_app, bal_outA]; rfl
  have bY : ∀ a, balF 1 0 720 a (reT 1 719 (l ++ outA l 1 719 c) (l ++ outA l 1 719 c)) = balF 1 0 720 a (l ++ outA l 1 719 c) - tBal 1 719 a (l ++ outA l 1 719 c) := fun a => bal_reT (by decide) (by decide) (by decide) _ _
  have hlast := lastD_le (day := 719) (by omega) cX.2.2
  have hXl := cX.2.1
  have hlk : lkF (reT 1 719 (l ++ outA l 1 719 c) (l ++ outA l 1 719 c)) = 0 := by
    rw [t1]
    exact lk_goes (en := 1) (day := 719 + 1) cX.1 (fun x hx => by have := cX.2.2 x hx; omega) t3 (by omega)
  have hlen := reT_len 1 719 (l ++ outA l 1 719 c) (l ++ outA l 1 719 c)
  have ro : reoF (l ++ outA l 1 719 c) 1 719 = (reT 1 719 (l ++ outA l 1 719 c) (l ++ outA l 1 719 c), 0) := by
    unfold reoF
    rw [cX.1, show amg 1 1 10 = true from rfl, show amg 719 0 35999 = true from rfl, show decide ((719 : Int) + 1 < lastD (l ++ outA l 1 719 c)) = false from decide_eq_false (by omega), show decide (400 < ((reT 1 719 (l ++ outA l 1 719 c) (l ++ outA l 1 719 c)).length : Int)) = false from decide_eq_false (by omega)]
    rfl
  refine ⟨_, _, rX, ro, hlk, fun a ha => ?_, by omega, by omega⟩
  have hcl : clsI a ≠ 0 := by rcases ha with rfl | rfl | rfl | rfl | rfl <;> decide
  rw [rof_ok hlk hcl, rof_ok hl.1 hcl, bY, bX, tb]
  unfold dltA
  rcases ha with rfl | rfl | rfl | rfl | rfl <;> simp [signA] <;> omega
end Go.AM
namespace Go.AM
open Go Go.Proofs Go.IntWalk
set_option maxRecDepth 100000
set_option maxHeartbeats 4000000
set_option linter.unusedSimpArgs false
set_option linter.unusedVariables false
def planT2 : Plan := { keep := fun _ => none, cut := fun _ => false, stop := fun i => i == 2 }
def planT7 : Plan := { keep := fun _ => none, cut := fun _ => false, stop := fun i => i == 7 }
noncomputable def trnLS : PSpec := on_l (fun es => es.length ≤ 9223372036854775807 ∧ ∀ e, e ∈ es → isI e) (fun _ => .bool true)
theorem k_trnL_10 {args : List PV} : AL 10 args = closS args := rfl
theorem k_trnL_13 {args : List PV} : AL 13 args = rofS args := rfl
theorem k_trnL_14 {args : List PV} : AL 14 args = rchkS args := rfl
theorem k_trnL_18 {args : List PV} : AL 18 args = reoS args := rfl
theorem AL_sane {args : List PV} : AL 15 args = saneS args := rfl
theorem w_trnLS : PSound GG 5 trnLS := by
  refine PSound.of_wpc (C := cxQ Tryz.prog AL Θ9 Ψ1 [] [] 67) (T := planT2) Tryz.func5 rfl rfl rfl (Fit.all (G := GG) hAL hΘ9 hΨ1 mixed) (fun args h => ?_)
  unfold trnLS at h
  obtain ⟨es0, rfl, he1, he2⟩ := on_l_inv h
  refine ⟨by simp [cxQ], ?_⟩
  simp only [trnLS, on_l_eq, Θ9, Θ8, Θ7, Θ6, Θ5, Θ4, Θ3, Θ2, Θ1, Ψ1, newS, preT_eq, preL_eq, preC_eq, okQ, arg1, arg2, arg3, intV, lgV, cloV, lgOf_agg, cloOf_agg, map_psOf, map_balOf, Nat.reduceBEq, psiNew_eq, List.length_map, List.take_succ_cons, List.take_nil, Tryz.underlying1, sz1, by1, ze1, Tryz.underlying3, sz3, by3, ze3, Tryz.underlying4, sz4, by4, ze4, Tryz.underlying9, sz9, by9, ze9, Tryz.underlying22, sz22, by22, ze22, Tryz.underlying23, sz23, by23, ze23, Tryz.underlying25, sz25, by25, ze25, Tryz.underlying27, sz27, by27, ze27, fa27_0, Tryz.underlying29, sz29, by29, ze29, Tryz.underlying31, sz31, by31, ze31, fa31_0, fa31_1, fa31_2, fa31_3, Tryz.underlying33, sz33, by33, ze33, Tryz.underlying34, sz34, by34, ze34, Tryz.underlying39, sz39, by39, ze39, fa39_0, fa39_1, fa39_2, fa39_3, fa39_4, fa39_5, Tryz.underlying49, sz49, by49, ze49, Tryz.underlying50, sz50, by50, ze50, Tryz.underlying57, sz57, by57, ze57, fa57_0, fa57_1, fa57_2, fa57_3, fa57_4, fa57_5, fa57_6, fa57_7, Tryz.f5, argL, planT2, go_sem, ↓reduceIte, reduceCtorEq, Nat.reduceEqDiff, Nat.reduceLT, ↓all_qVz, ↓all_qVz', Int.reduceToNat, Int.reduceLT, Int.reduceLE, Nat.reduceAdd, Nat.reduceLeDiff, Nat.reduceMul, ev_callG, gcallK_b, gcallK_w, callGc_true, callGc_false]
  refine ⟨⟨he1, he2⟩, ?_⟩
  refine AWp.here (T := planT7) (α := Unit) (fun _ => ([(2, .pv (.bool false)), (3, .ptr 15 0)], [(15, .obj Tp)])) (fun _ => True) ⟨(), trivial, ⟨by simp [fitR, look], by simp [fitH, hget], rfl, rfl, rfl⟩⟩ ?_
  intro _ _
  simp (config := {maxSteps := 1000000}) only [Θ9, Θ8, Θ7, Θ6, Θ5, Θ4, Θ3, Θ2, Θ1, Ψ1, newS, preT_eq, preL_eq, preC_eq, okQ, arg1, arg2, arg3, intV, lgV, cloV, lgOf_agg, cloOf_agg, map_psOf, map_balOf, Nat.reduceBEq, psiNew_eq, List.length_map, List.take_succ_cons, List.take_nil, Tryz.underlying1, sz1, by1, ze1, Tryz.underlying3, sz3, by3, ze3, Tryz.underlying4, sz4, by4, ze4, Tryz.underlying9, sz9, by9, ze9, Tryz.underlying22, sz22, by22, ze22, Tryz.underlying23, sz23, by23, ze23, Tryz.underlying25, sz25, by25, ze25, Tryz.underlying27, sz27, by27, ze27, fa27_0, Tryz.underlying29, sz29, by29, ze29, Tryz.underlying31, sz31, by31, ze31, fa31_0, fa31_1, fa31_2, fa31_3, Tryz.underlying33, sz33, by33, ze33, Tryz.underlying34, sz34, by34, ze34, Tryz.underlying39, sz39, by39, ze39, fa39_0, fa39_1, fa39_2, fa39_3, fa39_4, fa39_5, Tryz.underlying49, sz49, by49, ze49, Tryz.underlying50, sz50, by50, ze50, Tryz.underlying57, sz57, by57, ze57, fa57_0, fa57_1, fa57_2, fa57_3, fa57_4, fa57_5, fa57_6, fa57_7, planT7, go_sem, ↓reduceIte, reduceCtorEq, Nat.reduceEqDiff, Nat.reduceLT, ↓all_qVz, ↓all_qVz', Int.reduceToNat, Int.reduceLT, Int.reduceLE, Nat.reduceAdd, Nat.reduceLeDiff, Nat.reduceMul, ev_callG, gcallK_b, gcallK_w, callGc_true, callGc_false]
  intro l hl
  rw [Stop_eq]
  simp (config := {maxSteps := 1000000}) only [Θ9, Θ8, Θ7, Θ6, Θ5, Θ4, Θ3, Θ2, Θ1, Ψ1, newS, preT_eq, preL_eq, preC_eq, okQ, arg1, arg2, arg3, intV, lgV, cloV, lgOf_agg, cloOf_agg, map_psOf, map_balOf, Nat.reduceBEq, psiNew_eq, List.length_map, List.take_succ_cons, List.take_nil, Tryz.underlying1, sz1, by1, ze1, Tryz.underlying3, sz3, by3, ze3, Tryz.underlying4, sz4, by4, ze4, Tryz.underlying9, sz9, by9, ze9, Tryz.underlying22, sz22, by22, ze22, Tryz.underlying23, sz23, by23, ze23, Tryz.underlying25, sz25, by25, ze25, Tryz.underlying27, sz27, by27, ze27, fa27_0, Tryz.underlying29, sz29, by29, ze29, Tryz.underlying31, sz31, by31, ze31, fa31_0, fa31_1, fa31_2, fa31_3, Tryz.underlying33, sz33, by33, ze33, Tryz.underlying34, sz34, by34, ze34, Tryz.underlying39, sz39, by39, ze39, fa39_0, fa39_1, fa39_2, fa39_3, fa39_4, fa39_5, Tryz.underlying49, sz49, by49, ze49, Tryz.underlying50, sz50, by50, ze50, Tryz.underlying57, sz57, by57, ze57, fa57_0, fa57_1, fa57_2, fa57_3, fa57_4, fa57_5, fa57_6, fa57_7, planT7, go_sem, ↓reduceIte, reduceCtorEq, Nat.reduceEqDiff, Nat.reduceLT, ↓all_qVz, ↓all_qVz', Int.reduceToNat, Int.reduceLT, Int.reduceLE, Nat.reduceAdd, Nat.reduceLeDiff, Nat.reduceMul, ev_callG, gcallK_b, gcallK_w, callGc_true, callGc_false]
  intro c hc
  rw [Stop_eq]
  have hn : l.length ≤ 10 := by have := hl.1; simp only [arg1] at this; omega
  obtain ⟨X, Y, r1, r2, r3, r4, lX, lY⟩ := turns_plain (l := l) (c := c) hl.2 hn hc
  have hcl : (c.cl.length ≤ 5 ∧ ∀ e, e ∈ c.cl → clG e) := ⟨hc.2.2.2.1, hc.2.2.2.2⟩
  have hic : ∀ e, e ∈ c.cl → isCl e := fun e he => (hcl.2 e he).1
  obtain ⟨i, u, p, cl⟩ := c
  simp only at r1 hcl hic
  simp (config := {maxSteps := 1000000}) only [r1, r2, r3, k_trnL_10, closS, on_piip_eq, k_trnL_13, rofS, on_piii_eq, k_trnL_14, rchkS, on_p_eq, k_trnL_18, reoS, on_pii_eq, Θ9, Θ8, Θ7, Θ6, Θ5, Θ4, Θ3, Θ2, Θ1, Ψ1, newS, preT_eq, preL_eq, preC_eq, okQ, arg1, arg2, arg3, intV, lgV, cloV, lgOf_agg, cloOf_agg, map_psOf, map_balOf, Nat.reduceBEq, psiNew_eq, List.length_map, List.take_succ_cons, List.take_nil, Tryz.underlying1, sz1, by1, ze1, Tryz.underlying3, sz3, by3, ze3, Tryz.underlying4, sz4, by4, ze4, Tryz.underlying9, sz9, by9, ze9, Tryz.underlying22, sz22, by22, ze22, Tryz.underlying23, sz23, by23, ze23, Tryz.underlying25, sz25, by25, ze25, Tryz.underlying27, sz27, by27, ze27, fa27_0, Tryz.underlying29, sz29, by29, ze29, Tryz.underlying31, sz31, by31, ze31, fa31_0, fa31_1, fa31_2, fa31_3, Tryz.underlying33, sz33, by33, ze33, Tryz.underlying34, sz34, by34, ze34, Tryz.underlying39, sz39, by39, ze39, fa39_0, fa39_1, fa39_2, fa39_3, fa39_4, fa39_5, Tryz.underlying49, sz49, by49, ze49, Tryz.underlying50, sz50, by50, ze50, Tryz.underlying57, sz57, by57, ze57, fa57_0, fa57_1, fa57_2, fa57_3, fa57_4, fa57_5, fa57_6, fa57_7, planT7, go_sem, ↓reduceIte, reduceCtorEq, Nat.reduceEqDiff, Nat.reduceLT, ↓all_qV, Int.reduceToNat, Int.reduceLT, Int.reduceLE, Nat.reduceAdd, Nat.reduceLeDiff, Nat.reduceMul, ev_callG, gcallK_b, gcallK_w, callGc_true, callGc_false]
  refine ⟨⟨⟨okL1, okC4⟩, ⟨l, rfl, by omega⟩, ⟨⟨i, u, p, cl⟩, rfl, hic, by simp only; omega⟩, by omega⟩, ⟨okL1, X, rfl, by omega⟩, ?_⟩
  refine ⟨fun _ => ⟨okL1, Y, rfl, by omega⟩, fun h9 => (by cases h9), fun _ => ?_⟩
  refine AWp.here (T := plan0) (α := Unit) (fun _ => ([(4, .ptr 4 0), (8, .ptr 8 0)], [(4, .cells [.pv (.sl (l.map psV))]), (8, .cells [.pv (.sl (Y.map psV))])])) (fun _ => True) ⟨(), trivial, ⟨by simp [fitR, look], by simp [fitH, hget], rfl, rfl, rfl⟩⟩ ?_
  intro _ _
  simp (config := {maxSteps := 1000000}) only [Tryz.underlying1, sz1, by1, ze1, Tryz.underlying3, sz3, by3, ze3, Tryz.underlying4, sz4, by4, ze4, Tryz.underlying9, sz9, by9, ze9, Tryz.underlying22, sz22, by22, ze22, Tryz.underlying23, sz23, by23, ze23, Tryz.underlying25, sz25, by25, ze25, Tryz.underlying27, sz27, by27, ze27, fa27_0, Tryz.underlying29, sz29, by29, ze29, Tryz.underlying31, sz31, by31, ze31, fa31_0, fa31_1, fa31_2, fa31_3, Tryz.underlying33, sz33, by33, ze33, Tryz.underlying34, sz34, by34, ze34, Tryz.underlying39, sz39, by39, ze39, fa39_0, fa39_1, fa39_2, fa39_3, fa39_4, fa39_5, Tryz.underlying49, sz49, by49, ze49, Tryz.underlying50, sz50, by50, ze50, Tryz.underlying57, sz57, by57, ze57, fa57_0, fa57_1, fa57_2, fa57_3, fa57_4, fa57_5, fa57_6, fa57_7, plan0, go_sem, ↓reduceIte, reduceCtorEq, Nat.reduceEqDiff, Nat.reduceLT, ↓all_qV, Int.reduceToNat, Int.reduceLT, Int.reduceLE, Nat.reduceAdd, Nat.reduceLeDiff, Nat.reduceMul, ev_callG, gcallK_b, gcallK_w, callGc_true, callGc_false]
  refine AWp.loop (T := plan0) (α := Nat) (fun k => ([(4, .ptr 4 0), (8, .ptr 8 0), (42, .pv (.agg [.int .i64 220, .int .i64 210, .int .i64 130])), (43, .pv (.int .i64 k))], [(4, .cells [.pv (.sl (l.map psV))]), (8, .cells [.pv (.sl (Y.map psV))])])) (fun k => k ≤ 3) (fun k => 3 - k)
    ⟨0, Nat.zero_le _, ⟨by simp [fitR, look], by simp [fitH, hget], rfl, rfl, rfl⟩⟩ ?_
  intro k hk
  have hi1 : IntKind.i64.wrap ((k : Int) + 1) = ((k + 1 : Nat) : Int) := by rw [i64_in _ (by omega)]; omega
  by_cases hlt : k < 3
  · have c0 : decide ((k : Int) < 3) = true := by simp; omega
    obtain ⟨a, e1, ha⟩ : ∃ a : Int, [PV.int .i64 220, .int .i64 210, .int .i64 130].getD k default = .int .i64 a ∧ (a = 220 ∨ a = 210 ∨ a = 130 ∨ a = 520 ∨ a = 510) := by
      have : k = 0 ∨ k = 1 ∨ k = 2 := by omega
      rcases this with rfl | rfl | rfl
      · exact ⟨220, rfl, by omega⟩
      · exact ⟨210, rfl, by omega⟩
      · exact ⟨130, rfl, by omega⟩
    have hr := r4 a ha
    have hbq : (rofF l 1 a 720 != rofF l 1 a 720) = false := by simp
    simp (config := {maxSteps := 1000000}) only [c0, e1, hi1, hr, hbq, indexA, Int.toNat_natCast, Nat.mul_one, k_trnL_10, closS, on_piip_eq, k_trnL_13, rofS, on_piii_eq, k_trnL_14, rchkS, on_p_eq, k_trnL_18, reoS, on_pii_eq, Θ9, Θ8, Θ7, Θ6, Θ5, Θ4, Θ3, Θ2, Θ1, Ψ1, newS, preT_eq, preL_eq, preC_eq, okQ, arg1, arg2, arg3, intV, lgV, cloV, lgOf_agg, cloOf_agg, map_psOf, map_balOf, Nat.reduceBEq, psiNew_eq, List.length_map, List.take_succ_cons, List.take_nil, Tryz.underlying3, sz3, Tryz.underlying49, sz49, Tryz.underlying27, sz27, fa27_0, plan0, go_sem, ↓reduceIte, reduceCtorEq, Nat.reduceEqDiff, Nat.reduceLT, ↓all_qV, Int.reduceToNat, Int.reduceLT, Int.reduceLE, Nat.reduceAdd, Nat.reduceLeDiff, Nat.reduceMul, ev_callG, gcallK_b, gcallK_w, callGc_true, callGc_false]
    refine ⟨⟨by omega, by omega, by omega⟩, by kernel_rfl, ?_⟩
    and_intros
    all_goals try first | exact okL1 | exact ⟨_, rfl, by omega⟩
    exact ⟨k + 1, by omega, by omega, ⟨by simp [fitR, look], by simp [fitH, hget], rfl, rfl, rfl⟩⟩
  · have c0 : decide ((k : Int) < 3) = false := by simp; omega
    simp (config := {maxSteps := 1000000}) only [c0, Θ9, Θ8, Θ7, Θ6, Θ5, Θ4, Θ3, Θ2, Θ1, Ψ1, newS, preT_eq, preL_eq, preC_eq, okQ, arg1, arg2, arg3, intV, lgV, cloV, lgOf_agg, cloOf_agg, map_psOf, map_balOf, Nat.reduceBEq, psiNew_eq, List.length_map, List.take_succ_cons, List.take_nil, Tryz.underlying1, sz1, by1, ze1, Tryz.underlying3, sz3, by3, ze3, Tryz.underlying4, sz4, by4, ze4, Tryz.underlying9, sz9, by9, ze9, Tryz.underlying22, sz22, by22, ze22, Tryz.underlying23, sz23, by23, ze23, Tryz.underlying25, sz25, by25, ze25, Tryz.underlying27, sz27, by27, ze27, fa27_0, Tryz.underlying29, sz29, by29, ze29, Tryz.underlying31, sz31, by31, ze31, fa31_0, fa31_1, fa31_2, fa31_3, Tryz.underlying33, sz33, by33, ze33, Tryz.underlying34, sz34, by34, ze34, Tryz.underlying39, sz39, by39, ze39, fa39_0, fa39_1, fa39_2, fa39_3, fa39_4, fa39_5, Tryz.underlying49, sz49, by49, ze49, Tryz.underlying50, sz50, by50, ze50, Tryz.underlying57, sz57, by57, ze57, fa57_0, fa57_1, fa57_2, fa57_3, fa57_4, fa57_5, fa57_6, fa57_7, plan0, go_sem, ↓reduceIte, reduceCtorEq, Nat.reduceEqDiff, Nat.reduceLT, ↓all_qV, Int.reduceToNat, Int.reduceLT, Int.reduceLE, Nat.reduceAdd, Nat.reduceLeDiff, Nat.reduceMul, ev_callG, gcallK_b, gcallK_w, callGc_true, callGc_false]
    refine AWp.loop (T := plan0) (α := Nat) (fun k => ([(4, .ptr 4 0), (8, .ptr 8 0), (54, .pv (.agg [.int .i64 520, .int .i64 510])), (55, .pv (.int .i64 k))], [(4, .cells [.pv (.sl (l.map psV))]), (8, .cells [.pv (.sl (Y.map psV))])])) (fun k => k ≤ 2) (fun k => 2 - k)
      ⟨0, Nat.zero_le _, ⟨by simp [fitR, look], by simp [fitH, hget], rfl, rfl, rfl⟩⟩ ?_
    intro k hk
    have hi1 : IntKind.i64.wrap ((k : Int) + 1) = ((k + 1 : Nat) : Int) := by rw [i64_in _ (by omega)]; omega
    by_cases hlt : k < 2
    · have c0 : decide ((k : Int) < 2) = true := by simp; omega
      obtain ⟨a, e1, ha⟩ : ∃ a : Int, [PV.int .i64 520, .int .i64 510].getD k default = .int .i64 a ∧ (a = 220 ∨ a = 210 ∨ a = 130 ∨ a = 520 ∨ a = 510) := by
        have : k = 0 ∨ k = 1 := by omega
        rcases this with rfl | rfl
        · exact ⟨520, rfl, by omega⟩
        · exact ⟨510, rfl, by omega⟩
      have hr := r4 a ha
      have hbq : (rofF l 1 a 720 != rofF l 1 a 720) = false := by simp
      simp (config := {maxSteps := 1000000}) only [c0, e1, hi1, hr, hbq, indexA, Int.toNat_natCast, Nat.mul_one, k_trnL_10, closS, on_piip_eq, k_trnL_13, rofS, on_piii_eq, k_trnL_14, rchkS, on_p_eq, k_trnL_18, reoS, on_pii_eq, Θ9, Θ8, Θ7, Θ6, Θ5, Θ4, Θ3, Θ2, Θ1, Ψ1, newS, preT_eq, preL_eq, preC_eq, okQ, arg1, arg2, arg3, intV, lgV, cloV, lgOf_agg, cloOf_agg, map_psOf, map_balOf, Nat.reduceBEq, psiNew_eq, List.length_map, List.take_succ_cons, List.take_nil, Tryz.underlying3, sz3, Tryz.underlying50, sz50, Tryz.underlying27, sz27, fa27_0, plan0, go_sem, ↓reduceIte, reduceCtorEq, Nat.reduceEqDiff, Nat.reduceLT, ↓all_qV, Int.reduceToNat, Int.reduceLT, Int.reduceLE, Nat.reduceAdd, Nat.reduceLeDiff, Nat.reduceMul, ev_callG, gcallK_b, gcallK_w, callGc_true, callGc_false]
      refine ⟨⟨by omega, by omega, by omega⟩, by kernel_rfl, ?_⟩
      and_intros
      all_goals try first | exact okL1 | exact ⟨_, rfl, by omega⟩
      exact ⟨k + 1, by omega, by omega, ⟨by simp [fitR, look], by simp [fitH, hget], rfl, rfl, rfl⟩⟩
    · have c0 : decide ((k : Int) < 2) = false := by simp; omega
      simp (config := {maxSteps := 1000000}) only [c0, AL_sane, saneS, on__eq, Θ9, Θ8, Θ7, Θ6, Θ5, Θ4, Θ3, Θ2, Θ1, Ψ1, newS, preT_eq, preL_eq, preC_eq, okQ, arg1, arg2, arg3, intV, lgV, cloV, lgOf_agg, cloOf_agg, map_psOf, map_balOf, Nat.reduceBEq, psiNew_eq, List.length_map, List.take_succ_cons, List.take_nil, Tryz.underlying1, sz1, by1, ze1, Tryz.underlying3, sz3, by3, ze3, Tryz.underlying4, sz4, by4, ze4, Tryz.underlying9, sz9, by9, ze9, Tryz.underlying22, sz22, by22, ze22, Tryz.underlying23, sz23, by23, ze23, Tryz.underlying25, sz25, by25, ze25, Tryz.underlying27, sz27, by27, ze27, fa27_0, Tryz.underlying29, sz29, by29, ze29, Tryz.underlying31, sz31, by31, ze31, fa31_0, fa31_1, fa31_2, fa31_3, Tryz.underlying33, sz33, by33, ze33, Tryz.underlying34, sz34, by34, ze34, Tryz.underlying39, sz39, by39, ze39, fa39_0, fa39_1, fa39_2, fa39_3, fa39_4, fa39_5, Tryz.underlying49, sz49, by49, ze49, Tryz.underlying50, sz50, by50, ze50, Tryz.underlying57, sz57, by57, ze57, fa57_0, fa57_1, fa57_2, fa57_3, fa57_4, fa57_5, fa57_6, fa57_7, plan0, go_sem, ↓reduceIte, reduceCtorEq, Nat.reduceEqDiff, Nat.reduceLT, ↓all_qV, Int.reduceToNat, Int.reduceLT, Int.reduceLE, Nat.reduceAdd, Nat.reduceLeDiff, Nat.reduceMul, ev_callG, gcallK_b, gcallK_w, callGc_true, callGc_false]
end Go.AM
