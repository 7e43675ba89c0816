/-
  A part of a proof: see the last text of this claim for what is proved.
-/
import Derived.Test.YthfmoamiaofamaaGreatDoorV1b
import Derived.Test.YthfmoamiaofamaaGreatDoorZMa
namespace Go.AM
open Go Go.Proofs Go.IntWalk
set_option maxRecDepth 100000
set_option maxHeartbeats 4000000
set_option linter.unusedSimpArgs false
set_option linter.unusedVariables false
noncomputable def rcloS : PSpec := on_piip (fun a _ _ b => isLg a ∧ isClo b ∧ (lgOf a).length ≤ 1000) (fun a en day b => .tup [lgV (cloF (lgOf a) en day (cloOf b)).1, .int .i64 (cloF (lgOf a) en day (cloOf b)).2])
theorem k_rcloS_21 {args : List PV} : BE 21 args = radjS args := rfl
theorem w_rcloS : PSound GG 13 rcloS := by
  refine PSound.of_wpc (C := cxP Tryz.prog BE [] 30) (T := plan0) Tryz.func13 rfl rfl rfl (Fit.pure (G := GG) hBE mixed) (fun args h => ?_)
  unfold rcloS at h
  obtain ⟨a, en, day, b, rfl, hp⟩ := on_piip_inv h
  refine ⟨by simp [cxP], ?_⟩
  simp only [rcloS, on_piip_eq, Tryz.f13, argL, plan0]
  obtain ⟨⟨l, rfl, hl⟩, ⟨⟨i, u, p, cl⟩, rfl, hc, hcl⟩, hn⟩ := hp
  rw [show lgOf (lgV l) = l from lgOf_agg] at hn
  simp only at hc hcl
  have hal := adj_len (l := l) (en := en) (day := day) (c := ⟨i, u, p, cl⟩)
  have tkl : (l.map psV).take l.length = l.map psV := List.take_of_length_le (by simp)
  have tk2 : ∀ r : List Pst, (l.map psV ++ r.map psV).take (l.length + r.length) = (l ++ r).map psV := fun r => by rw [← List.map_append]; exact List.take_of_length_le (by simp)
  have hflat : ∀ r : List Pst, ∀ e : PV, e ∈ r.map psV → e.cells.length = 8 := fun r e he => by obtain ⟨x, _, rfl⟩ := List.mem_map.1 he; rfl
  obtain ⟨⟨r, e⟩, hr⟩ : ∃ r, adjF l en day ⟨i, u, p, cl⟩ = r := ⟨_, rfl⟩
  rw [hr] at hal
  simp only at hal
  simp only [hr, tkl, tk2, lgV, lgOf_agg, cloV, cloOf_agg, map_psOf, List.length_map, loadC_eq, k_rcloS_21, radjS, on_piip_eq, List.take_succ_cons, List.take_nil, Tryz.underlying1, sz1, by1, ze1, Tryz.underlying3, sz3, by3, ze3, Tryz.underlying4, sz4, by4, ze4, Tryz.underlying9, sz9, by9, ze9, Tryz.underlying23, sz23, by23, ze23, Tryz.underlying25, sz25, by25, ze25, fa25_0, Tryz.underlying26, sz26, by26, ze26, Tryz.underlying28, sz28, by28, ze28, fa28_0, fa28_1, fa28_2, fa28_3, Tryz.underlying40, sz40, by40, ze40, fa40_0, fa40_1, fa40_2, fa40_3, fa40_4, fa40_5, Tryz.underlying41, sz41, by41, ze41, Tryz.underlying53, sz53, by53, ze53, Tryz.underlying63, sz63, by63, ze63, fa63_0, fa63_1, fa63_2, fa63_3, fa63_4, fa63_5, fa63_6, fa63_7, go_sem, ↓reduceIte, reduceCtorEq, Nat.reduceEqDiff, Nat.reduceLT, ↓all_qV, Int.reduceToNat, Int.reduceLT, Int.reduceLE, Nat.reduceAdd, Nat.reduceLeDiff, Nat.reduceMul, ev_callG, gcallK_b, gcallK_w, callGc_true, callGc_false]
  have okR : ∀ {H : AHeap} {r : List Pst}, hget H 26 = some (.row 8 (r.map psV)) → ∀ c, c ∈ [AV.rs 26 r.length] → c.one = true ∧ frzOk H 3 c := fun hh c hc => by
    rw [List.mem_singleton] at hc; subst hc
    exact ⟨rfl, by simp only [frzOk, hh]; rw [List.length_map]; exact Nat.le_refl _⟩
  refine ⟨⟨⟨okL1, okC4⟩, ⟨l, rfl, hl⟩, ⟨i, u, p, cl⟩, rfl, hc, hcl⟩, fun h1 => ⟨okN1, by unfold cloF; rw [hr, h1]; rfl⟩, fun h1 => ⟨rfl, hflat l, by omega, by simp only [maxLen]; omega, rfl, hflat r, Nat.le_refl _, by omega, by simp only [maxLen]; omega, ?_, ?_⟩⟩
  · have := @okR ((26, ABlk.row 8 ((l ++ r).map psV)) :: []) (l ++ r) rfl
    intro c hc
    rw [List.mem_singleton] at hc; subst hc
    exact ⟨rfl, by simp [frzOk, hget]⟩
  · unfold cloF; rw [hr, h1]; rfl
/-! ### Reopen -/
def planQ : Plan := { keep := fun _ => none, cut := fun _ => false, stop := fun i => i == 9 }
noncomputable def rreoS : PSpec := on_pii (fun a _ _ => isLg a) (fun a en day => .tup [lgV (reoF (lgOf a) en day).1, .int .i64 (reoF (lgOf a) en day).2])
theorem k_rreoS_47 {args : List PV} : BE 47 args = rchkS args := rfl
theorem k_rreoS_48 {args : List PV} : BE 48 args = rentS args := rfl
theorem k_rreoS_53 {args : List PV} : BE 53 args = rtrnS args := rfl
theorem w_rreoS : PSound GG 25 rreoS := by
  refine PSound.of_wpc (C := cxP Tryz.prog BE [] 91) (T := planQ) Tryz.func25 rfl rfl rfl (Fit.pure (G := GG) hBE mixed) (fun args h => ?_)
  unfold rreoS at h
  obtain ⟨a, en, day, rfl, hp⟩ := on_pii_inv h
  refine ⟨by simp [cxP], ?_⟩
  simp only [rreoS, on_pii_eq, Tryz.f25, argL, planQ]
  obtain ⟨l, rfl, hl⟩ := hp
  have q1 : decide ((0 : Int) < 0) = false := by decide
  have q2 : IntKind.i64.wrap (0 - 1) = -1 := by decide
  have nf : decide False = false := by simp
  have hdef : (default : PV) = .bool false := rfl
  refine AWp.join (c := ?c1) (Q := ?Q1) (T := plan0) (C := cxP Tryz.prog BE [] 91) (fun _ : Unit => ([(1, .pv (.int .i64 en)), (2, .pv (.int .i64 day)), (3, .ptr 3 0), (6, .ptr 6 0), (9, .pv (.int .i64 l.length))],
    [(3, .cells [.pv (.sl (l.map psV))]), (6, .cells [.nils])])) (fun _ => (lkF l != 0) = false ∧ (!amg en 1 10) = false ∧ (!amg day 0 35999 || decide (day + 1 < lastD l)) = false) (fun main => ?main) ?rest
  case main =>
    have hcond : (lkF l != 0) = false → (decide (day < 0) || decide (36000 ≤ day) || decide (0 < (l.length : Int)) && decide (IntKind.i64.wrap (day + 1) < lastD l)) = (!amg day 0 35999 || decide (day + 1 < lastD l)) := fun h1 => by
      have h9 := lastD_nn (by simpa using h1)
      have h8 : ¬ 0 < (l.length : Int) → lastD l = 0 := fun h => by unfold lastD; rw [decide_eq_false h]; rfl
      by_cases hd : 0 ≤ day ∧ day ≤ 35999
      · rw [i64_in (day + 1) (by omega)]
        unfold amg
        rw [Bool.eq_iff_iff]
        simp only [Bool.or_eq_true, Bool.and_eq_true, decide_eq_true_eq, Bool.not_eq_true', Bool.and_eq_false_iff, decide_eq_false_iff_not]
        by_cases h7 : 0 < (l.length : Int)
        · constructor <;> intro h <;> omega
        · have := h8 h7
          constructor <;> intro h <;> omega
      · have e1 : (decide (day < 0) || decide (36000 ≤ day)) = true := by simp; omega
        have e2 : (!amg day 0 35999) = true := by unfold amg; simp; omega
        rw [e1, e2]; rfl
    cases hn : l.length with
    | zero =>
      have hnil : l = [] := List.length_eq_zero_iff.1 hn
      have hg : (l.map psV).getD (IntKind.i64.wrap (0 - 1)).toNat (PV.bool false) = .bool false := by rw [hnil]; rfl
      rw [hn] at hcond
      simp (config := {maxSteps := 1000000}) only [lgV, lgOf_agg, map_psOf, hg, hn, q1, nf, hdef, List.getD_nil, List.length_map, loadC_eq, k_rreoS_47, rchkS, on_p_eq, k_rreoS_48, rentS, on_i_eq, k_rreoS_53, rtrnS, on_pii_eq, List.take_succ_cons, List.take_nil, Tryz.underlying1, sz1, by1, ze1, Tryz.underlying2, sz2, by2, ze2, Tryz.underlying3, sz3, by3, ze3, Tryz.underlying4, sz4, by4, ze4, Tryz.underlying6, sz6, by6, ze6, Tryz.underlying7, sz7, by7, ze7, fa7_0, fa7_1, fa7_2, fa7_3, Tryz.underlying23, sz23, by23, ze23, Tryz.underlying25, sz25, by25, ze25, fa25_0, Tryz.underlying41, sz41, by41, ze41, Tryz.underlying63, sz63, by63, ze63, fa63_0, fa63_1, fa63_2, fa63_3, fa63_4, fa63_5, fa63_6, fa63_7, planQ, go_sem, ↓reduceIte, reduceCtorEq, Nat.reduceEqDiff, Nat.reduceLT, ↓all_qV, Int.reduceToNat, Int.reduceLT, Int.reduceLE, Nat.reduceAdd, Nat.reduceLeDiff, Nat.reduceMul, ev_callG, gcallK_b, gcallK_w, callGc_true, callGc_false]
      refine ⟨⟨okL1, l, rfl, hl⟩, fun h1 => ⟨okN1, by unfold reoF; rw [h1]; rfl⟩, fun h1 => ⟨fun h3 => ⟨okN1, by unfold reoF; rw [h1, h3]; rfl⟩, fun h3 => ⟨fun h4 => ⟨okN1, ?_⟩, fun h4 => ?_⟩⟩⟩
      · have h5 := hcond h1
        rw [show decide (0 < ((0 : Nat) : Int)) = false from rfl, Bool.false_and, Bool.or_false] at h5
        rw [h5] at h4
        unfold reoF; rw [h1, h3, h4]; rfl
      · have h5 := hcond h1
        rw [show decide (0 < ((0 : Nat) : Int)) = false from rfl, Bool.false_and, Bool.or_false] at h5
        refine main () _ ⟨h1, h3, ?_⟩ ?_
        · rw [← h5, h4]
        · exact ⟨by simp [fitR, look, upd, hn], by simp [fitH, hget, hset], rfl, rfl, rfl⟩
    | succ k =>
      have w2 : IntKind.i64.wrap (((k + 1 : Nat) : Int) - 1) = (k : Int) := by rw [i64_in _ (by omega)]; omega
      have c1 : decide (0 < ((k + 1 : Nat) : Int)) = true := by simp
      have e1 := getD_ps (l := l) (i := k) (by omega)
      have hlast : lastD l = (l.getD k default).d := by unfold lastD; rw [hn, c1]; rfl
      generalize l.getD k default = y at e1 hlast
      obtain ⟨nu', d', en', db', cr', am', pa', re'⟩ := y
      simp only [psV] at e1
      simp only at hlast
      rw [hn, hlast, c1] at hcond
      simp (config := {maxSteps := 1000000}) only [lgV, lgOf_agg, map_psOf, w2, c1, e1, hn, List.length_map, loadC_eq, k_rreoS_47, rchkS, on_p_eq, k_rreoS_48, rentS, on_i_eq, k_rreoS_53, rtrnS, on_pii_eq, List.take_succ_cons, List.take_nil, Tryz.underlying1, sz1, by1, ze1, Tryz.underlying2, sz2, by2, ze2, Tryz.underlying3, sz3, by3, ze3, Tryz.underlying4, sz4, by4, ze4, Tryz.underlying6, sz6, by6, ze6, Tryz.underlying7, sz7, by7, ze7, fa7_0, fa7_1, fa7_2, fa7_3, Tryz.underlying23, sz23, by23, ze23, Tryz.underlying25, sz25, by25, ze25, fa25_0, Tryz.underlying41, sz41, by41, ze41, Tryz.underlying63, sz63, by63, ze63, fa63_0, fa63_1, fa63_2, fa63_3, fa63_4, fa63_5, fa63_6, fa63_7, planQ, go_sem, ↓reduceIte, reduceCtorEq, Nat.reduceEqDiff, Nat.reduceLT, ↓all_qV, Int.reduceToNat, Int.reduceLT, Int.reduceLE, Nat.reduceAdd, Nat.reduceLeDiff, Nat.reduceMul, ev_callG, gcallK_b, gcallK_w, callGc_true, callGc_false]
      refine ⟨⟨okL1, l, rfl, hl⟩, fun h1 => ⟨okN1, by unfold reoF; rw [h1]; rfl⟩, fun h1 => ⟨fun h3 => ⟨okN1, by unfold reoF; rw [h1, h3]; rfl⟩, fun h3 => ⟨fun _ => by omega, fun h4 => ⟨okN1, ?_⟩, fun h4 => ?_⟩⟩⟩
      · have h5 := hcond h1
        rw [Bool.true_and] at h5
        rw [h5] at h4
        unfold reoF; rw [h1, h3, hlast, h4]; rfl
      · have h5 := hcond h1
        rw [Bool.true_and] at h5
        refine main () _ ⟨h1, h3, ?_⟩ ?_
        · rw [hlast, ← h5, h4]
        · exact ⟨by simp [fitR, look, upd, hn], by simp [fitH, hget, hset], rfl, rfl, rfl⟩
  case rest =>
    rintro _ ⟨h1, h2, h3⟩
    have h0 : lkF l = 0 := by simpa using h1
    have hl4 := (lkF_ok h0).1
    have hday : 0 ≤ day ∧ day ≤ 35999 := by
      have : (!amg day 0 35999) = false := (Bool.or_eq_false_iff.1 h3).1
      simpa [amg] using this
    have w1 : IntKind.i64.wrap (day + 1) = day + 1 := i64_in _ (by omega)
    have hres : reoF l en day = bif decide (400 < ((reT en day l l).length : Int)) then ([], 3) else (reT en day l l, 0) := by
      unfold reoF; rw [h1, h2, h3]; rfl
    have tkl : (l.map psV).take l.length = l.map psV := List.take_of_length_le (by simp)
    have hflat : ∀ e : PV, e ∈ l.map psV → e.cells.length = 8 := fun e he => by obtain ⟨x, _, rfl⟩ := List.mem_map.1 he; rfl
    rw [hres]
    simp (config := {maxSteps := 1000000}) only [lgV, tkl, List.length_map, loadC_eq, k_rreoS_47, rchkS, on_p_eq, k_rreoS_48, rentS, on_i_eq, k_rreoS_53, rtrnS, on_pii_eq, List.take_succ_cons, List.take_nil, Tryz.underlying1, sz1, by1, ze1, Tryz.underlying2, sz2, by2, ze2, Tryz.underlying3, sz3, by3, ze3, Tryz.underlying4, sz4, by4, ze4, Tryz.underlying6, sz6, by6, ze6, Tryz.underlying7, sz7, by7, ze7, fa7_0, fa7_1, fa7_2, fa7_3, Tryz.underlying23, sz23, by23, ze23, Tryz.underlying25, sz25, by25, ze25, fa25_0, Tryz.underlying41, sz41, by41, ze41, Tryz.underlying63, sz63, by63, ze63, fa63_0, fa63_1, fa63_2, fa63_3, fa63_4, fa63_5, fa63_6, fa63_7, plan0, go_sem, ↓reduceIte, reduceCtorEq, Nat.reduceEqDiff, Nat.reduceLT, ↓all_qV, Int.reduceToNat, Int.reduceLT, Int.reduceLE, Nat.reduceAdd, Nat.reduceLeDiff, Nat.reduceMul, ev_callG, gcallK_b, gcallK_w, callGc_true, callGc_false]
    refine ⟨rfl, hflat, by omega, by simp only [maxLen]; omega, ?_⟩
    refine AWp.loop (T := plan0) (α := Nat) (fun i => ([(1, .pv (.int .i64 en)), (2, .pv (.int .i64 day)), (6, .ptr 6 0), (10, .rs 51 (reT en day l (l.take i)).length), (53, .pv (.sl (l.map psV))), (54, .pv (.int .i64 l.length)), (55, .pv (.int .i64 i))], [(6, .cells [.nils]), (51, .row 8 ((reT en day l (l.take i)).map psV))]))
      (fun i => i ≤ l.length) (fun i => l.length - i)
      ⟨0, Nat.zero_le _, ⟨by simp [fitR, look, reT], by simp [fitH, hget, reT], rfl, rfl, rfl⟩⟩ ?_
    intro i hi
    have hi1 : IntKind.i64.wrap ((i : Int) + 1) = ((i + 1 : Nat) : Int) := by rw [i64_in _ (by omega)]; omega
    by_cases hlt : i < l.length
    · have c0 : decide ((i : Int) < (l.length : Int)) = true := by simp; omega
      have e1 := getD_ps hlt
      have hst := reT_snoc en day (l.getD i default) (l.take i) l
      rw [← take_succ' hlt] at hst
      have hrl := reT_len en day (l.take i) l
      rw [List.length_take] at hrl
      generalize l.getD i default = x at e1 hst
      generalize reT en day l (l.take i) = O at hst hrl ⊢
      obtain ⟨nu, d, e, db, cr, am, pa, re⟩ := x
      simp only [psV] at e1
      have wO : IntKind.i64.wrap ((O.length : Int) + 1) = (O.length : Int) + 1 := i64_in _ (by omega)
      have tk : (O.map psV).take O.length = O.map psV := List.take_of_length_le (by rw [List.length_map]; exact Nat.le_refl _)
      simp (config := {maxSteps := 1000000}) only [c0, e1, hi1, w1, wO, tk, psV, psOf_agg, trnF, List.length_map, loadC_eq, k_rreoS_47, rchkS, on_p_eq, k_rreoS_48, rentS, on_i_eq, k_rreoS_53, rtrnS, on_pii_eq, List.take_succ_cons, List.take_nil, Tryz.underlying1, sz1, by1, ze1, Tryz.underlying2, sz2, by2, ze2, Tryz.underlying3, sz3, by3, ze3, Tryz.underlying4, sz4, by4, ze4, Tryz.underlying6, sz6, by6, ze6, Tryz.underlying7, sz7, by7, ze7, fa7_0, fa7_1, fa7_2, fa7_3, Tryz.underlying23, sz23, by23, ze23, Tryz.underlying25, sz25, by25, ze25, fa25_0, Tryz.underlying41, sz41, by41, ze41, Tryz.underlying63, sz63, by63, ze63, fa63_0, fa63_1, fa63_2, fa63_3, fa63_4, fa63_5, fa63_6, fa63_7, plan0, go_sem, ↓reduceIte, reduceCtorEq, Nat.reduceEqDiff, Nat.reduceLT, ↓all_qV, Int.reduceToNat, Int.reduceLT, Int.reduceLE, Nat.reduceAdd, Nat.reduceLeDiff, Nat.reduceMul, ev_callG, gcallK_b, gcallK_w, callGc_true, callGc_false]
      refine ⟨⟨by omega, by omega⟩, fun h9 => ⟨⟨okPs, isPs_agg⟩, rfl, fun e he => by rw [List.mem_singleton] at he; subst he; rfl, Nat.le_refl _, by omega, by simp only [maxLen]; omega, i + 1, by omega, by omega, ?_⟩, fun h9 => ⟨i + 1, by omega, by omega, ?_⟩⟩
      · rw [show isT en day ⟨nu, d, e, db, cr, am, pa, re⟩ = true from h9, cond_true] at hst
        rw [hst]
        exact ⟨by simp [fitR, look], by simp [fitH, hget, psV, trnF], rfl, rfl, rfl⟩
      · rw [show isT en day ⟨nu, d, e, db, cr, am, pa, re⟩ = false from h9, cond_false] at hst
        rw [hst]
        exact ⟨by simp [fitR, look], by simp [fitH, hget], rfl, rfl, rfl⟩
    · have c0 : decide ((i : Int) < (l.length : Int)) = false := by simp; omega
      rw [List.take_of_length_le (by omega)]
      have hrl := reT_len en day l l
      generalize reT en day l l = O at hrl ⊢
      have tk : (O.map psV).take O.length = O.map psV := List.take_of_length_le (by rw [List.length_map]; exact Nat.le_refl _)
      simp (config := {maxSteps := 1000000}) only [c0, tk, loadC_eq, List.length_map, List.take_succ_cons, List.take_nil, Tryz.underlying1, sz1, by1, ze1, Tryz.underlying2, sz2, by2, ze2, Tryz.underlying3, sz3, by3, ze3, Tryz.underlying4, sz4, by4, ze4, Tryz.underlying6, sz6, by6, ze6, Tryz.underlying7, sz7, by7, ze7, fa7_0, fa7_1, fa7_2, fa7_3, Tryz.underlying23, sz23, by23, ze23, Tryz.underlying25, sz25, by25, ze25, fa25_0, Tryz.underlying41, sz41, by41, ze41, Tryz.underlying63, sz63, by63, ze63, fa63_0, fa63_1, fa63_2, fa63_3, fa63_4, fa63_5, fa63_6, fa63_7, plan0, go_sem, ↓reduceIte, reduceCtorEq, Nat.reduceEqDiff, Nat.reduceLT, ↓all_qV, Int.reduceToNat, Int.reduceLT, Int.reduceLE, Nat.reduceAdd, Nat.reduceLeDiff, Nat.reduceMul, ev_callG, gcallK_b, gcallK_w, callGc_true, callGc_false]
      have okR1 : ∀ {H : AHeap}, hget H 51 = some (.row 8 (O.map psV)) → ∀ c, c ∈ [AV.rs 51 O.length] → c.one = true ∧ frzOk H 3 c := fun hh c hc => by
        rw [List.mem_singleton] at hc; subst hc
        exact ⟨rfl, by simp only [frzOk, hh]; rw [List.length_map]; exact Nat.le_refl _⟩
      exact ⟨fun h5 => ⟨okN1, by rw [h5]; rfl⟩, fun h5 => ⟨okR1 (by simp [hget]), by rw [h5]; rfl⟩⟩
noncomputable def BF (g : FuncId) : PSpec := (putΦ (putΦ BE 13 rcloS) 25 rreoS) g
theorem hBF : TabSound GG BF := ((hBE.put w_rcloS).put w_rreoS)
end Go.AM
namespace Go.AM
open Go Go.Proofs Go.IntWalk
set_option maxRecDepth 100000
set_option maxHeartbeats 4000000
set_option linter.unusedSimpArgs false
set_option linter.unusedVariables false
/-- The sum of a class's accounts, the first k of them. -/
def csF (f : Nat → Int) (c : Nat) : Nat → Int
  | 0 => 0
  | k + 1 => csF f c k + (if k / 100 + 1 = c then f k else 0)
theorem csF_add (f g : Nat → Int) (c : Nat) : ∀ k, csF (fun i => f i + g i) c k = csF f c k + csF g c k
  | 0 => rfl
  | k + 1 => by
    rw [csF, csF, csF, csF_add f g c k]
    split <;> omega
theorem csF_congr {f g : Nat → Int} (c : Nat) : ∀ k, (∀ i, i < k → f i = g i) → csF f c k = csF g c k
  | 0, _ => rfl
  | k + 1, h => by rw [csF, csF, csF_congr c k (fun i hi => h i (by omega)), h k (by omega)]
theorem csF_zero (c : Nat) : ∀ k, csF (fun _ => 0) c k = 0
  | 0 => rfl
  | k + 1 => by rw [csF, csF_zero c k]; simp
theorem csF_one (a v : Int) (c : Nat) (ha : 100 ≤ a ∧ a ≤ 599) : ∀ k, csF (fun i => if ((i : Int) + 100 == a) = true then v else 0) c k = if a - 100 < k ∧ (a - 100) / 100 + 1 = c then v else 0
  | 0 => by rw [csF, if_neg (by omega)]
  | k + 1 => by
    rw [csF, csF_one a v c ha k]
    by_cases h : (k : Int) + 100 = a
    · rw [if_neg (show ¬ (a - 100 < (k : Int) ∧ (a - 100) / 100 + 1 = (c : Int)) by omega)]
      rw [if_pos (show ((k : Int) + 100 == a) = true by simpa using h)]
      by_cases h2 : k / 100 + 1 = c
      · rw [if_pos h2, if_pos (by omega)]; omega
      · rw [if_neg h2, if_neg (by omega)]; omega
    · rw [if_neg (show ¬ ((k : Int) + 100 == a) = true by simpa using h)]
      by_cases h2 : a - 100 < (k : Int) ∧ (a - 100) / 100 + 1 = (c : Int)
      · rw [if_pos h2, if_pos (show a - 100 < ((k + 1 : Nat) : Int) ∧ (a - 100) / 100 + 1 = (c : Int) from ⟨by omega, h2.2⟩)]; simp
      · rw [if_neg h2, if_neg (show ¬ (a - 100 < ((k + 1 : Nat) : Int) ∧ (a - 100) / 100 + 1 = (c : Int)) from fun e => h2 ⟨by omega, e.2⟩)]; simp
theorem clsI_div {a : Int} (ha : 100 ≤ a ∧ a ≤ 599) : clsI a = (a - 100) / 100 + 1 := by
  unfold clsI
  rw [show amg a 100 599 = true by unfold amg; simp; omega, cond_true, Int.tdiv_eq_ediv_of_nonneg (by omega)]; omega
theorem csF_bal (en fr to : Int) (c : Nat) : ∀ l : List Pst, (∀ x, x ∈ l → pB x = true) → csF (fun i => balF en fr to ((i : Int) + 100) l) c 500 = cbal en fr to (c : Int) l
  | [], _ => by simp only [balF, cbal]; exact csF_zero c 500
  | x :: r, h => by
    have ih := csF_bal en fr to c r (fun y hy => h y (List.mem_cons_of_mem _ hy))
    have hx := pB_parts (h x List.mem_cons_self)
    have hd := clsI_pos hx.2.2.2.1
    have hc := clsI_pos hx.2.2.2.2.1
    simp only [balF, cbal]
    rw [csF_add, ih]
    congr 1
    cases hcnt : cntB en fr to x with
    | false => simp only [cond_false]; exact csF_zero c 500
    | true =>
      simp only [cond_true]
      have e1 : csF (fun i => (if ((i : Int) + 100 == x.db) = true then x.am else 0) - (if ((i : Int) + 100 == x.cr) = true then x.am else 0)) c 500 = csF (fun i => (if ((i : Int) + 100 == x.db) = true then x.am else 0) + (if ((i : Int) + 100 == x.cr) = true then -x.am else 0)) c 500 :=
        csF_congr c 500 (fun i _ => by split <;> split <;> omega)
      rw [e1, csF_add, csF_one _ _ _ hd, csF_one _ _ _ hc, clsI_div hd, clsI_div hc]
      have key : ∀ (a v : Int), 100 ≤ a ∧ a ≤ 599 → (if a - 100 < ((500 : Nat) : Int) ∧ (a - 100) / 100 + 1 = (c : Int) then v else 0) = bif (a - 100) / 100 + 1 == (c : Int) then v else 0 := fun a v ha => by
        by_cases h2 : (a - 100) / 100 + 1 = (c : Int)
        · rw [if_pos ⟨by omega, h2⟩, show ((a - 100) / 100 + 1 == (c : Int)) = true by simpa using h2]; rfl
        · rw [if_neg (by omega), show ((a - 100) / 100 + 1 == (c : Int)) = false by simpa using h2]; rfl
      rw [key _ _ hd, key _ _ hc]
      cases ((x.cr - 100) / 100 + 1 == (c : Int)) <;> simp <;> omega
theorem csF_le {f : Nat → Int} {B : Int} (hB : 0 ≤ B) (h : ∀ i, -B ≤ f i ∧ f i ≤ B) (c : Nat) : ∀ k : Nat, -(k * B) ≤ csF f c k ∧ csF f c k ≤ k * B
  | 0 => by simp [csF]
  | k + 1 => by
    have ih := csF_le hB h c k
    have := h k
    rw [csF, Int.natCast_add, Int.add_mul]
    split <;> omega
theorem csT_step {f : Nat → Int} {k : Nat} : (tab 6 fun c => csF f c k).set (k / 100 + 1) (csF f (k / 100 + 1) k + f k) = tab 6 fun c => csF f c (k + 1) := by
  rw [tab_set]
  refine tab_congr (fun i _ => ?_)
  rw [csF]
  by_cases h : i = k / 100 + 1
  · rw [if_pos h, if_pos h.symm, h]
  · rw [if_neg h, if_neg (fun e => h e.symm)]; omega
noncomputable def rclassS : PSpec := on_liii (fun es _ _ _ => ∃ l : List Pst, es = l.map psV ∧ (∀ x, x ∈ l → pB x = true) ∧ l.length ≤ 400) (fun es en fr to => .agg (arrP (tab 6 fun c => cbal en fr to (c : Int) (es.map psOf))))
theorem k_rclassS_70 {args : List PV} : BF 70 args = rsumS args := rfl
theorem w_rclassS : PSound GG 86 rclassS := by
  refine PSound.of_wpc (C := cxP Tryz.prog BF [] 31) (T := plan0) Tryz.func86 rfl rfl rfl (Fit.pure (G := GG) hBF mixed) (fun args h => ?_)
  unfold rclassS at h
  obtain ⟨es, en, fr, to, rfl, hp⟩ := on_liii_inv h
  refine ⟨by simp [cxP], ?_⟩
  simp only [rclassS, on_liii_eq, Tryz.f86, argL, plan0]
  obtain ⟨l, rfl, hpb, hl⟩ := hp
  have hv : (tab 6 fun c => cbal en fr to (c : Int) l) = tab 6 fun c => csF (fun i => balF en fr to ((i : Int) + 100) l) c 500 := tab_congr (fun c _ => (csF_bal en fr to c l hpb).symm)
  rw [map_psOf, hv]
  have hbl : ∀ i : Nat, -400000000000000 ≤ (fun i : Nat => balF en fr to ((i : Int) + 100) l) i ∧ (fun i : Nat => balF en fr to ((i : Int) + 100) l) i ≤ 400000000000000 := fun i => by
    have := bal_le en fr to ((i : Int) + 100) l (fun x hx => by have := pB_parts (hpb x hx); omega)
    simp only
    omega
  have hsl : (sumsT en fr to l).length = 500 := tab_len
  have hsg : ∀ k : Nat, k < 500 → (arrP (sumsT en fr to l)).getD k default = .int .i64 ((fun i : Nat => balF en fr to ((i : Int) + 100) l) k) := fun k hk => by
    rw [arrP_get (by omega)]; unfold sumsT; rw [tab_get hk]
  simp only [map_psOf, zeA6, arrV_rep, arrV_one, List.length_map, k_rclassS_70, rsumS, on_liii_eq, Tryz.underlying3, sz3, by3, ze3, Tryz.underlying23, sz23, by23, ze23, Tryz.underlying63, sz63, by63, ze63, fa63_0, fa63_1, fa63_2, fa63_3, fa63_4, fa63_5, fa63_6, fa63_7, Tryz.underlying98, sz98, by98, Tryz.underlying108, sz108, by108, ze108, go_sem, ↓reduceIte, reduceCtorEq, Nat.reduceEqDiff, Nat.reduceLT, ↓all_qV, Int.reduceToNat, Int.reduceLT, Int.reduceLE, Nat.reduceAdd, Nat.reduceLeDiff, Nat.reduceMul]
  refine ⟨⟨l, rfl, hpb, by omega⟩, ?_⟩
  generalize sumsT en fr to l = S at hsl hsg
  generalize (fun i : Nat => balF en fr to ((i : Int) + 100) l) = f at *
  refine AWp.loop (T := plan0) (α := Nat) (fun k => ([(8, .ptr 8 0), (9, .ptr 9 0), (16, .pv (.agg (arrP S))), (17, .pv (.int .i64 k))], [(8, .cells (arrV (List.replicate 6 0))), (9, .cells (arrV (tab 6 fun c => csF f c k)))])) (fun k => k ≤ 500) (fun k => 500 - k)
    ⟨0, Nat.zero_le _, ⟨by simp [fitR, look], by simp [fitH, hget, csF, tab_rep], rfl, rfl, rfl⟩⟩ ?_
  intro k hk
  have hi1 : IntKind.i64.wrap ((k : Int) + 1) = ((k + 1 : Nat) : Int) := by rw [i64_in _ (by omega)]; omega
  by_cases hlt : k < 500
  · have c0 : decide ((k : Int) < 500) = true := by simp; omega
    have e1 := hsg k hlt
    have wq : IntKind.i64.wrap ((k : Int).tdiv 100) = ((k / 100 : Nat) : Int) := by rw [Int.tdiv_eq_ediv_of_nonneg (by omega), i64_in _ (by omega)]; omega
    have wq1 : IntKind.i64.wrap (((k / 100 : Nat) : Int) + 1) = ((k / 100 + 1 : Nat) : Int) := by rw [i64_in _ (by omega)]; omega
    have hT : (tab 6 fun c => csF f c k).length = 6 := tab_len
    have g1 := arrV_get (s := tab 6 fun c => csF f c k) (i := k / 100 + 1) (by omega)
    rw [tab_get (by omega)] at g1
    have hle := csF_le (f := f) (B := 400000000000000) (by omega) hbl (k / 100 + 1) k
    have hst := csT_step (f := f) (k := k)
    have hf := hbl k
    generalize csF f (k / 100 + 1) k = B at g1 hle hst
    generalize f k = v at e1 hst hf
    have w3 : IntKind.i64.wrap (B + v) = B + v := i64_in _ (by omega)
    generalize (tab 6 fun c => csF f c k) = T at hT g1 hst ⊢
    simp (config := {maxSteps := 1000000}) only [c0, e1, hi1, wq, wq1, w3, g1, hst, indexA, Int.toNat_natCast, Nat.mul_one, arrP_len, arrV_len, hsl, hT, arrV_set, arrV_kill, List.take_succ_cons, List.take_nil, Tryz.underlying3, sz3, by3, ze3, Tryz.underlying23, sz23, by23, ze23, Tryz.underlying63, sz63, by63, ze63, fa63_0, fa63_1, fa63_2, fa63_3, fa63_4, fa63_5, fa63_6, fa63_7, Tryz.underlying98, sz98, by98, Tryz.underlying108, sz108, by108, ze108, plan0, go_sem, ↓reduceIte, reduceCtorEq, Nat.reduceEqDiff, Nat.reduceLT, ↓all_qV, Int.reduceToNat, Int.reduceLT, Int.reduceLE, Nat.reduceAdd, Nat.reduceLeDiff, Nat.reduceMul]
    exact ⟨⟨by omega, by omega, by omega⟩, by decide, by omega, by omega, by omega, by omega, k + 1, by omega, by omega, ⟨by simp [fitR, look], by simp [fitH, hget], rfl, rfl, rfl⟩⟩
  · have c0 : decide ((k : Int) < 500) = false := by simp; omega
    have hk5 : k = 500 := by omega
    subst hk5
    have hT : (tab 6 fun c => csF f c 500).length = 6 := tab_len
    have hput := arrV_put (s := tab 6 fun c => csF f c 500) (t := List.replicate 6 0) (by rw [hT, List.length_replicate])
    have nf : decide False = false := by simp
    simp only [c0, nf, hput, hT, loadC_eq, arrV_len, arrV_one, arrV_take hT, arrV_frz, List.length_replicate, Tryz.underlying3, sz3, by3, ze3, Tryz.underlying23, sz23, by23, ze23, Tryz.underlying63, sz63, by63, ze63, fa63_0, fa63_1, fa63_2, fa63_3, fa63_4, fa63_5, fa63_6, fa63_7, Tryz.underlying98, sz98, by98, Tryz.underlying108, sz108, by108, ze108, plan0, go_sem, ↓reduceIte, reduceCtorEq, Nat.reduceEqDiff, Nat.reduceLT, ↓all_qV, Int.reduceToNat, Int.reduceLT, Int.reduceLE, Nat.reduceAdd, Nat.reduceLeDiff, Nat.reduceMul]
    exact arrV_frzOk
noncomputable def BG (g : FuncId) : PSpec := (putΦ BF 86 rclassS) g
theorem hBG : TabSound GG BG := (hBF.put w_rclassS)
/-! ### State, Statement -/
noncomputable def rstateS : PSpec := on_liii (fun es _ fr to => (∃ l : List Pst, es = l.map psV ∧ (∀ x, x ∈ l → pB x = true) ∧ l.length ≤ 400) ∧ (0 ≤ fr ∧ fr ≤ 36000)) (fun es en fr to => .agg (arrP (stmL (es.map psOf) en fr to)))
theorem cget {en fr to : Int} {l : List Pst} {c : Nat} (h : c < 6) : (arrV (tab 6 fun c => cbal en fr to (c : Int) l)).getD c .top = .pv (.int .i64 (cbal en fr to (c : Int) l)) := by
  rw [arrV_get (by rw [tab_len]; exact h), tab_get h]
theorem k_rstateS_86 {args : List PV} : BG 86 args = rclassS args := rfl
theorem w_rstateS : PSound GG 75 rstateS := by
  refine PSound.of_wpc (C := cxP Tryz.prog BG [] 46) (T := plan0) Tryz.func75 rfl rfl rfl (Fit.pure (G := GG) hBG mixed) (fun args h => ?_)
  unfold rstateS at h
  obtain ⟨es, en, fr, to, rfl, hp⟩ := on_liii_inv h
  refine ⟨by simp [cxP], ?_⟩
  simp only [rstateS, on_liii_eq, Tryz.f75, argL, plan0]
  obtain ⟨⟨l, rfl, hpb, hl⟩, hfr⟩ := hp
  have w1 : IntKind.i64.wrap (fr - 1) = fr - 1 := i64_in _ (by omega)
  have hc : ∀ fr to c, -(1000000000000 * 400 : Int) ≤ cbal en fr to c l ∧ cbal en fr to c l ≤ 1000000000000 * 400 := fun fr to c => by have := cbal_le en fr to c l hpb; omega
  have hT : ∀ fr to, (tab 6 fun c => cbal en fr to (c : Int) l).length = 6 := fun _ _ => tab_len
  have hA : ∀ fr to, arrV (tab 6 fun c => cbal en fr to (c : Int) l) = [.pv (.int .i64 (cbal en fr to 0 l)), .pv (.int .i64 (cbal en fr to 1 l)), .pv (.int .i64 (cbal en fr to 2 l)), .pv (.int .i64 (cbal en fr to 3 l)), .pv (.int .i64 (cbal en fr to 4 l)), .pv (.int .i64 (cbal en fr to 5 l))] := fun _ _ => rfl
  have hB : ∀ fr to, arrP (tab 6 fun c => cbal en fr to (c : Int) l) = [.int .i64 (cbal en fr to 0 l), .int .i64 (cbal en fr to 1 l), .int .i64 (cbal en fr to 2 l), .int .i64 (cbal en fr to 3 l), .int .i64 (cbal en fr to 4 l), .int .i64 (cbal en fr to 5 l)] := fun _ _ => rfl
  have h2 := hc 0 to 2
  have h3 := hc 0 (fr - 1) 3
  have h4 := hc 0 (fr - 1) 4
  have h5 := hc 0 (fr - 1) 5
  have h6 := hc fr to 4
  simp (config := {maxSteps := 1000000}) only [hA, hB, w1, map_psOf, stmL, arrP5, loadC_eq, k_rstateS_86, rclassS, on_liii_eq, List.take_succ_cons, List.take_nil, Tryz.underlying3, sz3, by3, ze3, Tryz.underlying23, sz23, by23, ze23, Tryz.underlying63, sz63, by63, ze63, fa63_0, fa63_1, fa63_2, fa63_3, fa63_4, fa63_5, fa63_6, fa63_7, Tryz.underlying90, sz90, by90, ze90, fa90_0, fa90_1, fa90_2, fa90_3, fa90_4, Tryz.underlying108, sz108, by108, ze108, go_sem, ↓reduceIte, reduceCtorEq, Nat.reduceEqDiff, Nat.reduceLT, ↓all_qV, Int.reduceToNat, Int.reduceLT, Int.reduceLE, Nat.reduceAdd, Nat.reduceLeDiff, Nat.reduceMul, ev_callG, gcallK_b, gcallK_w, callGc_true, callGc_false]
  generalize cbal en 0 to 2 l = c2 at h2 ⊢
  generalize cbal en 0 (fr - 1) 3 l = c3 at h3 ⊢
  generalize cbal en 0 (fr - 1) 4 l = c4 at h4 ⊢
  generalize cbal en 0 (fr - 1) 5 l = c5 at h5 ⊢
  generalize cbal en fr to 4 l = c6 at h6 ⊢
  refine ⟨⟨l, rfl, hpb, hl⟩, ⟨l, rfl, hpb, hl⟩, ⟨l, rfl, hpb, hl⟩, okP5, ?_⟩
  rw [i64_in (0 - c3) (by omega), i64_in (0 - c3 - c4) (by omega), i64_in (0 - c3 - c4 - c5) (by omega), i64_in (0 - c2) (by omega), i64_in (0 - c6) (by omega), show 0 - c2 = -c2 by omega, show 0 - c6 = -c6 by omega, show 0 - c3 - c4 - c5 = -c3 - c4 - c5 by omega]
noncomputable def BH (g : FuncId) : PSpec := (putΦ BG 75 rstateS) g
theorem hBH : TabSound GG BH := (hBG.put w_rstateS)
noncomputable def rstmS : PSpec := on_piii (fun e _ _ _ => isLg e) (fun e en fr to => .tup [.agg (arrP (stmF (lgOf e) en fr to).1), .int .i64 (stmF (lgOf e) en fr to).2])
theorem arrP5z : arrP z5 = [.int .i64 0, .int .i64 0, .int .i64 0, .int .i64 0, .int .i64 0] := rfl
theorem k_rstmS_47 {args : List PV} : BH 47 args = rchkS args := rfl
theorem k_rstmS_74 {args : List PV} : BH 74 args = rdayS args := rfl
theorem k_rstmS_75 {args : List PV} : BH 75 args = rstateS args := rfl
theorem w_rstmS : PSound GG 55 rstmS := by
  refine PSound.of_wpc (C := cxP Tryz.prog BH [] 44) (T := plan0) Tryz.func55 rfl rfl rfl (Fit.pure (G := GG) hBH mixed) (fun args h => ?_)
  unfold rstmS at h
  obtain ⟨e, en, fr, to, rfl, hp⟩ := on_piii_inv h
  refine ⟨by simp [cxP], ?_⟩
  simp only [rstmS, on_piii_eq, Tryz.f55, argL, plan0]
  obtain ⟨l, rfl, hl⟩ := hp
  have hcond : (!amg fr 0 36000 || !amg to 0 36000 || decide (to < fr)) = (!amg fr 0 to || decide (36000 < to)) := by
    unfold amg
    rw [Bool.eq_iff_iff]
    simp only [Bool.or_eq_true, Bool.and_eq_true, decide_eq_true_eq, Bool.not_eq_true', Bool.and_eq_false_iff, decide_eq_false_iff_not]
    constructor <;> intro h <;> omega
  have hcen : (decide (en < 0) || decide (10 < en)) = !amg en 0 10 := by
    unfold amg
    rw [Bool.eq_iff_iff]
    simp only [Bool.or_eq_true, Bool.and_eq_true, decide_eq_true_eq, Bool.not_eq_true', Bool.and_eq_false_iff, decide_eq_false_iff_not]
    constructor <;> intro h <;> omega
  simp (config := {maxSteps := 1000000}) only [hcond, hcen, lgV, lgOf_agg, map_psOf, List.length_map, loadC_eq, arrP_len, arrP_av, arrV_len, k_rstmS_47, rchkS, on_p_eq, k_rstmS_74, rdayS, on_i_eq, k_rstmS_75, rstateS, on_liii_eq, List.take_succ_cons, List.take_nil, Tryz.underlying3, sz3, by3, ze3, Tryz.underlying4, sz4, by4, ze4, Tryz.underlying23, sz23, by23, ze23, Tryz.underlying25, sz25, by25, ze25, fa25_0, Tryz.underlying41, sz41, by41, ze41, Tryz.underlying63, sz63, by63, ze63, fa63_0, fa63_1, fa63_2, fa63_3, fa63_4, fa63_5, fa63_6, fa63_7, Tryz.underlying90, sz90, by90, ze90, fa90_0, fa90_1, fa90_2, fa90_3, fa90_4, go_sem, ↓reduceIte, reduceCtorEq, Nat.reduceEqDiff, Nat.reduceLT, ↓all_qV, Int.reduceToNat, Int.reduceLT, Int.reduceLE, Nat.reduceAdd, Nat.reduceLeDiff, Nat.reduceMul, ev_callG, gcallK_b, gcallK_w, callGc_true, callGc_false]
  refine ⟨⟨okL1, l, rfl, hl⟩, fun h1 => ⟨okP5, by unfold stmF; rw [h1]; rfl⟩, fun h1 => ⟨fun h2 => ⟨okP5, by unfold stmF; rw [h1, h2]; rfl⟩, fun h2 => ⟨fun h => by simpa using h, fun h3 => ⟨okP5, by unfold stmF; rw [h1, h2, h3]; rfl⟩, fun h3 => ?_⟩⟩⟩
  have h0 : lkF l = 0 := by simpa using h1
  obtain ⟨g1, g2, _⟩ := lkF_ok h0
  have hr : amg fr 0 to = true ∧ to ≤ 36000 := by simpa using h3
  have hr1 : 0 ≤ fr ∧ fr ≤ to := by simpa [amg] using hr.1
  have hs : stmF l en fr to = (stmL l en fr to, 0) := by unfold stmF; rw [h1, h2, h3]; rfl
  rw [hs]
  exact ⟨⟨⟨l, rfl, g2, g1⟩, by omega, by omega⟩, rfl, arrV_one, ⟨Nat.le_refl 5, okP5⟩, rfl⟩
noncomputable def BI (g : FuncId) : PSpec := (putΦ BH 55 rstmS) g
theorem hBI : TabSound GG BI := (hBH.put w_rstmS)
noncomputable def rresS : PSpec := on_pii (fun e _ _ => isLg e) (fun e en y => .tup [.int .i64 (resF (lgOf e) en y).1, .int .i64 (resF (lgOf e) en y).2])
theorem k_rresS_47 {args : List PV} : BI 47 args = rchkS args := rfl
theorem k_rresS_55 {args : List PV} : BI 55 args = rstmS args := rfl
theorem w_rresS : PSound GG 27 rresS := by
  refine PSound.of_wpc (C := cxP Tryz.prog BI [] 44) (T := plan0) Tryz.func27 rfl rfl rfl (Fit.pure (G := GG) hBI mixed) (fun args h => ?_)
  unfold rresS at h
  obtain ⟨e, en, y, rfl, hp⟩ := on_pii_inv h
  refine ⟨by simp [cxP], ?_⟩
  simp only [rresS, on_pii_eq, Tryz.f27, argL, plan0]
  obtain ⟨l, rfl, hl⟩ := hp
  have hcen : (decide (en < 0) || decide (10 < en)) = !amg en 0 10 := by
    unfold amg
    rw [Bool.eq_iff_iff]
    simp only [Bool.or_eq_true, Bool.and_eq_true, decide_eq_true_eq, Bool.not_eq_true', Bool.and_eq_false_iff, decide_eq_false_iff_not]
    constructor <;> intro h <;> omega
  have hcy : (decide (y < 0) || decide (99 < y)) = !amg y 0 99 := by
    unfold amg
    rw [Bool.eq_iff_iff]
    simp only [Bool.or_eq_true, Bool.and_eq_true, decide_eq_true_eq, Bool.not_eq_true', Bool.and_eq_false_iff, decide_eq_false_iff_not]
    constructor <;> intro h <;> omega
  by_cases hy : 0 ≤ y ∧ y ≤ 99
  · have hya : amg y 0 99 = true := by unfold amg; simp; omega
    have w1 : IntKind.i64.wrap (360 * y) = 360 * y := i64_in _ (by omega)
    have w2 : IntKind.i64.wrap (360 * y + 359) = 360 * y + 359 := i64_in _ (by omega)
    obtain ⟨a, b, c, d, e, er, hst, hv, her⟩ := stm_cases (l := l) (en := en) (fr := 360 * y) (to := 360 * y + 359) (by unfold amg; simp; omega) (by omega)
    simp (config := {maxSteps := 1000000}) only [hcen, hcy, hya, w1, w2, hst, lgV, lgOf_agg, map_psOf, List.length_map, arrP5, List.map_cons, List.map_nil, loadC_eq, k_rresS_47, rchkS, on_p_eq, k_rresS_55, rstmS, on_piii_eq, List.take_succ_cons, List.take_nil, Tryz.underlying1, sz1, by1, ze1, Tryz.underlying3, sz3, by3, ze3, Tryz.underlying4, sz4, by4, ze4, Tryz.underlying23, sz23, by23, ze23, Tryz.underlying25, sz25, by25, ze25, fa25_0, Tryz.underlying41, sz41, by41, ze41, Tryz.underlying63, sz63, by63, ze63, fa63_0, fa63_1, fa63_2, fa63_3, fa63_4, fa63_5, fa63_6, fa63_7, Tryz.underlying90, sz90, by90, ze90, fa90_0, fa90_1, fa90_2, fa90_3, fa90_4, Tryz.underlying91, sz91, by91, ze91, go_sem, ↓reduceIte, reduceCtorEq, Nat.reduceEqDiff, Nat.reduceLT, ↓all_qV, Int.reduceToNat, Int.reduceLT, Int.reduceLE, Nat.reduceAdd, Nat.reduceLeDiff, Nat.reduceMul, ev_callG, gcallK_b, gcallK_w, callGc_true, callGc_false]
    refine ⟨⟨okL1, l, rfl, hl⟩, fun h1 => (by unfold resF; rw [h1]; rfl), fun h1 => ⟨fun h2 => (by unfold resF; rw [h1, h2]; rfl), fun h2 => ?_⟩⟩
    have e0 : er = 0 := by rw [her, h1, h2]; rfl
    obtain ⟨v1, v2⟩ := hv e0
    refine ⟨⟨okL1, l, rfl, hl⟩, ?_⟩
    unfold resF
    rw [h1, h2, hya, i64_in _ (by omega), v1]; rfl
  · have hya : amg y 0 99 = false := by unfold amg; simp; omega
    simp (config := {maxSteps := 1000000}) only [hcen, hcy, hya, lgV, lgOf_agg, map_psOf, List.length_map, loadC_eq, k_rresS_47, rchkS, on_p_eq, k_rresS_55, rstmS, on_piii_eq, List.take_succ_cons, List.take_nil, Tryz.underlying1, sz1, by1, ze1, Tryz.underlying3, sz3, by3, ze3, Tryz.underlying4, sz4, by4, ze4, Tryz.underlying23, sz23, by23, ze23, Tryz.underlying25, sz25, by25, ze25, fa25_0, Tryz.underlying41, sz41, by41, ze41, Tryz.underlying63, sz63, by63, ze63, fa63_0, fa63_1, fa63_2, fa63_3, fa63_4, fa63_5, fa63_6, fa63_7, Tryz.underlying90, sz90, by90, ze90, fa90_0, fa90_1, fa90_2, fa90_3, fa90_4, Tryz.underlying91, sz91, by91, ze91, go_sem, ↓reduceIte, reduceCtorEq, Nat.reduceEqDiff, Nat.reduceLT, ↓all_qV, Int.reduceToNat, Int.reduceLT, Int.reduceLE, Nat.reduceAdd, Nat.reduceLeDiff, Nat.reduceMul, ev_callG, gcallK_b, gcallK_w, callGc_true, callGc_false]
    exact ⟨⟨okL1, l, rfl, hl⟩, fun h1 => (by unfold resF; rw [h1]; rfl), fun h1 => ⟨fun h2 => (by unfold resF; rw [h1, h2]; rfl), fun h2 => (by unfold resF; rw [h1, h2, hya]; rfl)⟩⟩
noncomputable def BJ (g : FuncId) : PSpec := (putΦ BI 27 rresS) g
theorem hBJ : TabSound GG BJ := (hBI.put w_rresS)
end Go.AM
