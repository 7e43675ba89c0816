/-
  A part of a proof: see the last text of this claim for what is proved.
-/
import Derived.Test.YthfmoamiaofamaaGreatDoorU2h
import Derived.Test.YthfmoamiaofamaaGreatDoorZMa
namespace Go.AM
open Go Go.Proofs Go.IntWalk
set_option maxRecDepth 100000
set_option maxHeartbeats 4000000
set_option linter.unusedSimpArgs false
set_option linter.unusedVariables false
def on_pii (p : PV → Int → Int → Prop) (f : PV → Int → Int → PV) : PSpec
  | [a0, .int .i64 a1, .int .i64 a2] => (p a0 a1 a2, f a0 a1 a2)
  | _ => (False, default)
theorem on_pii_eq {p : PV → Int → Int → Prop} {f : PV → Int → Int → PV} {a0 : PV} {a1 : Int} {a2 : Int} : on_pii p f [a0, .int .i64 a1, .int .i64 a2] = (p a0 a1 a2, f a0 a1 a2) := rfl
theorem on_pii_inv {p : PV → Int → Int → Prop} {f : PV → Int → Int → PV} {args : List PV} (h : (on_pii p f args).1) : ∃ a0 : PV, ∃ a1 : Int, ∃ a2 : Int, args = [a0, .int .i64 a1, .int .i64 a2] ∧ p a0 a1 a2 := by
  unfold on_pii at h
  split at h
  · exact ⟨_, _, _, rfl, h⟩
  · exact h.elim
abbrev Bal := Int × Int
def balV (x : Bal) : PV := .agg [.int .i64 x.1, .int .i64 x.2]
def balOf : PV → Bal
  | .agg [.int _ a, .int _ n] => (a, n)
  | _ => (0, 0)
theorem map_balOf (l : List Bal) : (l.map balV).map balOf = l := by rw [List.map_map]; exact List.map_id' l
theorem getD_bal {l : List Bal} {i : Nat} (h : i < l.length) : (l.map balV).getD i default = balV (l.getD i default) := by
  simp [List.getD_eq_getElem?_getD, h]
def listF : Nat → List Int → List Bal
  | _, [] => []
  | i, n :: r => bif n != 0 then ((i : Int) + 100, n) :: listF (i + 1) r else listF (i + 1) r
theorem listF_app : ∀ (i : Nat) (a b : List Int), listF i (a ++ b) = listF i a ++ listF (i + a.length) b
  | i, [], b => by simp [listF]
  | i, n :: r, b => by
    rw [List.cons_append, listF, listF, listF_app (i + 1) r b, List.length_cons, show i + 1 + r.length = i + (r.length + 1) by omega]
    cases n != 0 <;> rfl
theorem listF_len : ∀ (i : Nat) (a : List Int), (listF i a).length ≤ a.length
  | i, [] => by simp [listF]
  | i, n :: r => by
    rw [listF]
    have := listF_len (i + 1) r
    cases n != 0 with
    | true => simp only [cond_true, List.length_cons]; omega
    | false => simp only [cond_false, List.length_cons]; omega
theorem listF_step {s : List Int} {i : Nat} (h : i < s.length) : listF 0 (s.take (i + 1)) = listF 0 (s.take i) ++ (bif s.getD i 0 != 0 then [((i : Int) + 100, s.getD i 0)] else []) := by
  have e : s.take (i + 1) = s.take i ++ [s.getD i 0] := by
    rw [List.take_add_one, List.getD_eq_getElem?_getD, List.getElem?_eq_getElem h]; rfl
  rw [e, listF_app]
  congr 1
  rw [List.length_take, Nat.min_eq_left (by omega), Nat.zero_add]
  simp only [listF]
def arrOf : PV → List Int
  | .agg cs => cs.map nOfI
  | _ => []
theorem arrOf_arr {s : List Int} : arrOf (.agg (arrP s)) = s := by
  show (arrP s).map nOfI = s
  unfold arrP; rw [List.map_map]; exact List.map_id' s
theorem arrV_refs {H : AHeap} : ∀ {s : List Int}, AV.refsInL H (arrV s) = true
  | [] => rfl
  | x :: r => by show (true && AV.refsInL H (arrV r)) = true; rw [arrV_refs]; rfl
theorem keyBal {a b : Bal} : keyEqL [.int .i64 a.1, .int .i64 a.2] [.int .i64 b.1, .int .i64 b.2] = decide (a = b) := by
  rw [Bool.eq_iff_iff]
  cases a; cases b
  simp [keyEqL, keyEq1]
noncomputable def AI (g : FuncId) : PSpec := AH g
theorem hAI : TabSound GG AI := hAH
def balsF (l : List Pst) (en d : Int) : List Bal := bif lkF l != 0 then [] else listF 0 (sumsT en 0 d l)
noncomputable def AJ (g : FuncId) : PSpec := AI g
theorem hAJ : TabSound GG AJ := hAI
end Go.AM
namespace Go.AM
open Go Go.Proofs Go.IntWalk
set_option maxRecDepth 100000
set_option maxHeartbeats 4000000
set_option linter.unusedSimpArgs false
set_option linter.unusedVariables false
def trnF (x : Pst) (n d : Int) : Pst := ⟨n, d, x.en, x.cr, x.db, x.am, x.pa, x.re⟩
noncomputable def ltrnS : PSpec := on_pii (fun e _ _ => isPs e) (fun e n d => psV (trnF (psOf e) n d))
theorem w_ltrnS : PSound GG 52 ltrnS := by
  refine PSound.of_wpc (C := cxP Tryz.prog AJ [] 18) (T := plan0) Tryz.func52 rfl rfl rfl (Fit.pure (G := GG) hAJ mixed) (fun args h => ?_)
  unfold ltrnS at h
  obtain ⟨e, n, d, rfl, hp⟩ := on_pii_inv h
  refine ⟨by simp [cxP], ?_⟩
  simp only [ltrnS, on_pii_eq, Tryz.f52, argL, plan0]
  obtain ⟨⟨nu, day, en, db, cr, am, pa, re⟩, rfl⟩ := hp
  simp only [psV, psOf_agg, trnF, loadC_eq, List.take_succ_cons, List.take_nil, Tryz.underlying1, sz1, by1, ze1, Tryz.underlying3, sz3, by3, ze3, Tryz.underlying4, sz4, by4, ze4, Tryz.underlying63, sz63, by63, ze63, fa63_0, fa63_1, fa63_2, fa63_3, fa63_4, fa63_5, fa63_6, fa63_7, go_sem, ↓reduceIte, reduceCtorEq, Nat.reduceEqDiff, Nat.reduceLT, ↓all_qV, Int.reduceToNat, Int.reduceLT, Int.reduceLE, Nat.reduceAdd, Nat.reduceLeDiff, Nat.reduceMul]
  and_intros
  all_goals try first | exact okPs | rfl
noncomputable def AK (g : FuncId) : PSpec := (putΦ AJ 52 ltrnS) g
theorem hAK : TabSound GG AK := (hAJ.put w_ltrnS)
/-! ### slices.Clone -/
def planC : Plan := { keep := fun _ => none, cut := fun _ => false, stop := fun i => i == 1 }
noncomputable def cloneQ : PSpec := on_l (fun es => (∀ e, e ∈ es → e.width = 8 ∧ e.cells.all PV.one = true) ∧ es.length ≤ 1000000) (fun es => .sl es)
theorem w_cloneS : ESound GG 51 (psiRow 8 cloneQ) := by
  refine ESound.of_row (C := cxQ Tryz.prog AK noΘ noΨ [5] [] 8) (T := planC) (t := 2) (k := 8) (by decide) Tryz.func51 rfl rfl rfl rfl (Fit.all (G := GG) hAK hnoΘ hnoΨ mixed) (fun args h => ?_)
  unfold cloneQ at h
  obtain ⟨es, rfl, he, hl⟩ := on_l_inv h
  refine ⟨by simp [cxQ], ?_⟩
  simp only [cloneQ, on_l_eq, Tryz.f51, argL, Tryz.underlying3, sz3, by3, ze3, Tryz.underlying4, sz4, by4, ze4, Tryz.underlying23, sz23, by23, ze23, Tryz.underlying63, sz63, by63, ze63, fa63_0, fa63_1, fa63_2, fa63_3, fa63_4, fa63_5, fa63_6, fa63_7, planC, FinRow, go_sem, ↓reduceIte, reduceCtorEq, Nat.reduceEqDiff, Nat.reduceLT, ↓all_qV, Int.reduceToNat, Int.reduceLT, Int.reduceLE, Nat.reduceAdd, Nat.reduceLeDiff, Nat.reduceMul, ev_callG, gcallK_b, gcallK_w, callGc_true, callGc_false]
  refine AWp.nilq (e := 63) rfl Tryz.underlying23 (by decide) (by decide) (fun b hb => ?_)
  refine wpc_sound (T := plan0) _ _ _ ?_
  simp only [upd_look, ev_rowlit0, Nat.reduceBEq, Tryz.underlying3, sz3, by3, ze3, Tryz.underlying4, sz4, by4, ze4, Tryz.underlying23, sz23, by23, ze23, Tryz.underlying63, sz63, by63, ze63, fa63_0, fa63_1, fa63_2, fa63_3, fa63_4, fa63_5, fa63_6, fa63_7, FinRow, rowIs, plan0, planC, go_sem, ↓reduceIte, reduceCtorEq, Nat.reduceEqDiff, Nat.reduceLT, ↓all_qV, Int.reduceToNat, Int.reduceLT, Int.reduceLE, Nat.reduceAdd, Nat.reduceLeDiff, Nat.reduceMul, ev_callG, gcallK_b, gcallK_w, callGc_true, callGc_false]
  exact ⟨fun h9 => by rw [hb h9], fun _ => ⟨rfl, fun e he' => (he e he').1, by omega, by simp only [maxLen]; omega, Nat.le_refl _, by rw [List.take_length]⟩⟩
noncomputable def Ψc (g : FuncId) : Option ESpec := putΨ noΨ 51 (psiRow 8 cloneQ) g
theorem hΨc : ETab GG Ψc := hnoΨ.put w_cloneS psiRow_mono
/-! ### Reopen -/
def isT (en day : Int) (x : Pst) : Bool := x.en == en && x.d == day && x.re == 1000000
def reT (en day : Int) : List Pst → List Pst → List Pst
  | o, [] => o
  | o, x :: r => reT en day (bif isT en day x then o ++ [trnF x ((o.length : Int) + 1) (day + 1)] else o) r
theorem reT_snoc (en day : Int) (x : Pst) : ∀ (l o : List Pst), reT en day o (l ++ [x]) = bif isT en day x then reT en day o l ++ [trnF x (((reT en day o l).length : Int) + 1) (day + 1)] else reT en day o l
  | [], o => rfl
  | y :: r, o => by rw [List.cons_append, reT, reT_snoc en day x r, reT]
theorem reT_len (en day : Int) : ∀ (l o : List Pst), o.length ≤ (reT en day o l).length ∧ (reT en day o l).length ≤ o.length + l.length
  | [], o => by simp [reT]
  | y :: r, o => by
    rw [reT, List.length_cons]
    cases isT en day y with
    | true =>
      have := reT_len en day r (o ++ [trnF y ((o.length : Int) + 1) (day + 1)])
      simp only [cond_true, List.length_append, List.length_singleton] at this ⊢
      omega
    | false =>
      have := reT_len en day r o
      simp only [cond_false]; omega
def reoF (l : List Pst) (en day : Int) : List Pst × Int :=
  bif lkF l != 0 then ([], lkF l) else bif !amg en 1 10 then ([], 89) else bif !amg day 0 35999 || decide (day + 1 < lastD l) then ([], 8) else
  bif decide (400 < ((reT en day l l).length : Int)) then ([], 3) else (reT en day l l, 0)
theorem AK_among {args : List PV} : AK 35 args = amongS args := rfl
def planR : Plan := { keep := fun _ => none, cut := fun _ => false, stop := fun i => i == 12 }
noncomputable def reoS : PSpec := on_pii (fun a _ _ => isLg a) (fun a en day => .tup [lgV (reoF (lgOf a) en day).1, .int .i64 (reoF (lgOf a) en day).2])
theorem k_reoS_41 {args : List PV} : AK 41 args = lchkS args := rfl
theorem k_reoS_42 {args : List PV} : AK 42 args = llastS args := rfl
theorem k_reoS_52 {args : List PV} : AK 52 args = ltrnS args := rfl
theorem w_reoS : PSound GG 24 reoS := by
  refine PSound.of_wpc (C := cxQ Tryz.prog AK noΘ Ψc [] [] 81) (T := planR) Tryz.func24 rfl rfl rfl (Fit.all (G := GG) hAK hnoΘ hΨc mixed) (fun args h => ?_)
  unfold reoS at h
  obtain ⟨a, en, day, rfl, l, rfl, hl⟩ := on_pii_inv h
  refine ⟨by simp [cxQ], ?_⟩
  have hwl : ∀ e, e ∈ l.map psV → e.width = 8 ∧ e.cells.all PV.one = true := fun e he => by obtain ⟨x, _, rfl⟩ := List.mem_map.1 he; exact ⟨rfl, rfl⟩
  by_cases hd : 0 ≤ day ∧ day ≤ 35999
  · have hda : amg day 0 35999 = true := by unfold amg; simp; omega
    have w1 : IntKind.i64.wrap (day + 1) = day + 1 := i64_in _ (by omega)
    simp (config := {maxSteps := 1000000}) only [reoS, on_pii_eq, lgV, lgOf_agg, map_psOf, hda, w1, Ψc, psiRow_eq, cloneQ, on_l_eq, AK_among, amongS, on_iii_eq, List.length_map, loadC_eq, k_reoS_41, lchkS, on_p_eq, k_reoS_42, llastS, k_reoS_52, ltrnS, on_pii_eq, Tryz.f24, argL, List.take_succ_cons, List.take_nil, Tryz.underlying1, sz1, by1, ze1, Tryz.underlying2, sz2, by2, ze2, Tryz.underlying3, sz3, by3, ze3, Tryz.underlying4, sz4, by4, ze4, Tryz.underlying6, sz6, by6, ze6, Tryz.underlying7, sz7, by7, ze7, fa7_0, fa7_1, fa7_2, fa7_3, Tryz.underlying23, sz23, by23, ze23, Tryz.underlying25, sz25, by25, ze25, fa25_0, Tryz.underlying41, sz41, by41, ze41, Tryz.underlying63, sz63, by63, ze63, fa63_0, fa63_1, fa63_2, fa63_3, fa63_4, fa63_5, fa63_6, fa63_7, planR, go_sem, ↓reduceIte, reduceCtorEq, Nat.reduceEqDiff, Nat.reduceLT, ↓all_qV, Int.reduceToNat, Int.reduceLT, Int.reduceLE, Nat.reduceAdd, Nat.reduceLeDiff, Nat.reduceMul, ev_callG, gcallK_b, gcallK_w, callGc_true, callGc_false]
    refine ⟨⟨okL1, l, rfl, hl⟩, fun h1 => ⟨okN1, by unfold reoF; rw [h1]; rfl⟩, fun h1 => ⟨fun h2 => ⟨okN1, by unfold reoF; rw [h1, h2]; rfl⟩, fun h2 => ⟨⟨okL1, l, rfl, hl⟩, fun h3 => ⟨okN1, by unfold reoF; rw [h1, h2, hda, h3]; rfl⟩, fun h3 => ?_⟩⟩⟩
    have h0 : lkF l = 0 := by simpa using h1
    have hl4 := (lkF_ok h0).1
    have hres : reoF l en day = bif decide (400 < ((reT en day l l).length : Int)) then ([], 3) else (reT en day l l, 0) := by
      unfold reoF; rw [h1, h2, hda, h3]; rfl
    refine ⟨⟨hwl, by omega⟩, fun es he => ?_⟩
    simp only [PV.sl.injEq] at he
    subst he
    have tk0 : (l.map psV).take l.length = l.map psV := List.take_of_length_le (by rw [List.length_map]; exact Nat.le_refl _)
    rw [hres]
    simp (config := {maxSteps := 1000000}) only [List.length_map, loadC_eq, List.take_succ_cons, List.take_nil, Tryz.underlying1, sz1, by1, ze1, Tryz.underlying2, sz2, by2, ze2, Tryz.underlying3, sz3, by3, ze3, Tryz.underlying4, sz4, by4, ze4, Tryz.underlying6, sz6, by6, ze6, Tryz.underlying7, sz7, by7, ze7, fa7_0, fa7_1, fa7_2, fa7_3, Tryz.underlying23, sz23, by23, ze23, Tryz.underlying25, sz25, by25, ze25, fa25_0, Tryz.underlying41, sz41, by41, ze41, Tryz.underlying63, sz63, by63, ze63, fa63_0, fa63_1, fa63_2, fa63_3, fa63_4, fa63_5, fa63_6, fa63_7, planR, go_sem, ↓reduceIte, reduceCtorEq, Nat.reduceEqDiff, Nat.reduceLT, ↓all_qV, Int.reduceToNat, Int.reduceLT, Int.reduceLE, Nat.reduceAdd, Nat.reduceLeDiff, Nat.reduceMul, ev_callG, gcallK_b, gcallK_w, callGc_true, callGc_false]
    refine AWp.loop (T := planR) (α := Nat) (fun i => ([(1, .pv (.int .i64 en)), (2, .pv (.int .i64 day)), (6, .ptr 6 0), (9, .ptr 9 0), (40, .pv (.sl (l.map psV))), (41, .pv (.int .i64 l.length)), (42, .pv (.int .i64 i))], [(6, .cells [.nils]), (9, .cells [.rs 37 (reT en day l (l.take i)).length]), (37, .row 8 ((reT en day l (l.take i)).map psV))]))
      (fun i => i ≤ l.length) (fun i => l.length - i)
      ⟨0, Nat.zero_le _, ⟨by simp [fitR, look], by simp [fitH, hget, reT], rfl, rfl, rfl⟩⟩ ?_
    intro i hi
    have hi1 : IntKind.i64.wrap ((i : Int) + 1) = ((i + 1 : Nat) : Int) := by rw [i64_in _ (by omega)]; omega
    by_cases hlt : i < l.length
    · have c0 : decide ((i : Int) < (l.length : Int)) = true := by simp; omega
      have e1 := getD_ps hlt
      have hst := reT_snoc en day (l.getD i default) (l.take i) l
      rw [← take_succ' hlt] at hst
      have hrl := reT_len en day (l.take i) l
      rw [List.length_take] at hrl
      generalize l.getD i default = x at e1 hst
      generalize reT en day l (l.take i) = O at hst hrl ⊢
      obtain ⟨nu, d, e, db, cr, am, pa, re⟩ := x
      simp only [psV] at e1
      have wO : IntKind.i64.wrap ((O.length : Int) + 1) = (O.length : Int) + 1 := i64_in _ (by omega)
      have tk : (O.map psV).take O.length = O.map psV := List.take_of_length_le (by rw [List.length_map]; exact Nat.le_refl _)
      simp (config := {maxSteps := 1000000}) only [c0, e1, hi1, List.length_map, List.take_succ_cons, List.take_nil, Tryz.underlying1, sz1, by1, ze1, Tryz.underlying2, sz2, by2, ze2, Tryz.underlying3, sz3, by3, ze3, Tryz.underlying4, sz4, by4, ze4, Tryz.underlying6, sz6, by6, ze6, Tryz.underlying7, sz7, by7, ze7, fa7_0, fa7_1, fa7_2, fa7_3, Tryz.underlying23, sz23, by23, ze23, Tryz.underlying25, sz25, by25, ze25, fa25_0, Tryz.underlying41, sz41, by41, ze41, Tryz.underlying63, sz63, by63, ze63, fa63_0, fa63_1, fa63_2, fa63_3, fa63_4, fa63_5, fa63_6, fa63_7, planR, go_sem, ↓reduceIte, reduceCtorEq, Nat.reduceEqDiff, Nat.reduceLT, ↓all_qV, Int.reduceToNat, Int.reduceLT, Int.reduceLE, Nat.reduceAdd, Nat.reduceLeDiff, Nat.reduceMul, ev_callG, gcallK_b, gcallK_w, callGc_true, callGc_false]
      refine ⟨⟨by omega, by omega⟩, ?_⟩
      refine AWp.seqc (T := plan0) ?_
      simp (config := {maxSteps := 1000000}) only [List.take_succ_cons, List.take_nil, Tryz.underlying1, sz1, by1, ze1, Tryz.underlying2, sz2, by2, ze2, Tryz.underlying3, sz3, by3, ze3, Tryz.underlying4, sz4, by4, ze4, Tryz.underlying6, sz6, by6, ze6, Tryz.underlying7, sz7, by7, ze7, fa7_0, fa7_1, fa7_2, fa7_3, Tryz.underlying23, sz23, by23, ze23, Tryz.underlying25, sz25, by25, ze25, fa25_0, Tryz.underlying41, sz41, by41, ze41, Tryz.underlying63, sz63, by63, ze63, fa63_0, fa63_1, fa63_2, fa63_3, fa63_4, fa63_5, fa63_6, fa63_7, plan0, go_sem, ↓reduceIte, reduceCtorEq, Nat.reduceEqDiff, Nat.reduceLT, ↓all_qV, Int.reduceToNat, Int.reduceLT, Int.reduceLE, Nat.reduceAdd, Nat.reduceLeDiff, Nat.reduceMul, ev_callG, gcallK_b, gcallK_w, callGc_true, callGc_false]
      refine AWp.condc (t := isT en day ⟨nu, d, e, db, cr, am, pa, re⟩) rfl (fun h9 => ?_) (fun h9 => ?_)
      · rw [h9] at hst
        refine AWp.perm0 [0, 1, 2, 3, 4, 5, 6, 7, 8, 9, 10, 11, 12, 13] (by kernel_rfl) rfl ?_
        simp (config := {maxSteps := 1000000}) only [Ψc, opsOf, List.filterMap_cons, List.filterMap_nil, List.getElem?_toArray, List.getElem?_cons_succ, List.getElem?_cons_zero, hi1, w1, wO, tk, psV, psOf_agg, trnF, List.length_map, k_reoS_41, lchkS, on_p_eq, k_reoS_42, llastS, k_reoS_52, ltrnS, on_pii_eq, List.take_succ_cons, List.take_nil, Tryz.underlying1, sz1, by1, ze1, Tryz.underlying2, sz2, by2, ze2, Tryz.underlying3, sz3, by3, ze3, Tryz.underlying4, sz4, by4, ze4, Tryz.underlying6, sz6, by6, ze6, Tryz.underlying7, sz7, by7, ze7, fa7_0, fa7_1, fa7_2, fa7_3, Tryz.underlying23, sz23, by23, ze23, Tryz.underlying25, sz25, by25, ze25, fa25_0, Tryz.underlying41, sz41, by41, ze41, Tryz.underlying63, sz63, by63, ze63, fa63_0, fa63_1, fa63_2, fa63_3, fa63_4, fa63_5, fa63_6, fa63_7, plan0, planR, go_sem, ↓reduceIte, reduceCtorEq, Nat.reduceEqDiff, Nat.reduceLT, ↓all_qV, Int.reduceToNat, Int.reduceLT, Int.reduceLE, Nat.reduceAdd, Nat.reduceLeDiff, Nat.reduceMul, ev_callG, gcallK_b, gcallK_w, callGc_true, callGc_false]
        refine ⟨⟨okPs, isPs_agg⟩, rfl, fun e he => by rw [List.mem_singleton] at he; subst he; rfl, Nat.le_refl _, by omega, by simp only [maxLen]; omega, i + 1, by omega, by omega, ⟨by simp [fitR, look], ?_, rfl, rfl, rfl⟩⟩
        rw [hst]; simp [fitH, hget, psV, trnF]
      · refine AWp.skipc ?_
        rw [h9] at hst
        simp (config := {maxSteps := 1000000}) only [List.take_succ_cons, List.take_nil, hi1, Tryz.underlying1, sz1, by1, ze1, Tryz.underlying2, sz2, by2, ze2, Tryz.underlying3, sz3, by3, ze3, Tryz.underlying4, sz4, by4, ze4, Tryz.underlying6, sz6, by6, ze6, Tryz.underlying7, sz7, by7, ze7, fa7_0, fa7_1, fa7_2, fa7_3, Tryz.underlying23, sz23, by23, ze23, Tryz.underlying25, sz25, by25, ze25, fa25_0, Tryz.underlying41, sz41, by41, ze41, Tryz.underlying63, sz63, by63, ze63, fa63_0, fa63_1, fa63_2, fa63_3, fa63_4, fa63_5, fa63_6, fa63_7, plan0, planR, go_sem, ↓reduceIte, reduceCtorEq, Nat.reduceEqDiff, Nat.reduceLT, ↓all_qV, Int.reduceToNat, Int.reduceLT, Int.reduceLE, Nat.reduceAdd, Nat.reduceLeDiff, Nat.reduceMul, ev_callG, gcallK_b, gcallK_w, callGc_true, callGc_false]
        rw [cond_false] at hst
        exact ⟨i + 1, by omega, by omega, ⟨by simp [fitR, look], by rw [hst]; simp [fitH, hget], rfl, rfl, rfl⟩⟩
    · have c0 : decide ((i : Int) < (l.length : Int)) = false := by simp; omega
      rw [List.take_of_length_le (by omega)]
      have hrl := reT_len en day l l
      generalize reT en day l l = O at hrl ⊢
      have tk : (O.map psV).take O.length = O.map psV := List.take_of_length_le (by rw [List.length_map]; exact Nat.le_refl _)
      simp (config := {maxSteps := 1000000}) only [c0, tk, loadC_eq, List.length_map, List.take_succ_cons, List.take_nil, Tryz.underlying1, sz1, by1, ze1, Tryz.underlying2, sz2, by2, ze2, Tryz.underlying3, sz3, by3, ze3, Tryz.underlying4, sz4, by4, ze4, Tryz.underlying6, sz6, by6, ze6, Tryz.underlying7, sz7, by7, ze7, fa7_0, fa7_1, fa7_2, fa7_3, Tryz.underlying23, sz23, by23, ze23, Tryz.underlying25, sz25, by25, ze25, fa25_0, Tryz.underlying41, sz41, by41, ze41, Tryz.underlying63, sz63, by63, ze63, fa63_0, fa63_1, fa63_2, fa63_3, fa63_4, fa63_5, fa63_6, fa63_7, planR, go_sem, ↓reduceIte, reduceCtorEq, Nat.reduceEqDiff, Nat.reduceLT, ↓all_qV, Int.reduceToNat, Int.reduceLT, Int.reduceLE, Nat.reduceAdd, Nat.reduceLeDiff, Nat.reduceMul, ev_callG, gcallK_b, gcallK_w, callGc_true, callGc_false]
      have okR1 : ∀ {H : AHeap}, hget H 37 = some (.row 8 (O.map psV)) → ∀ c, c ∈ [AV.rs 37 O.length] → c.one = true ∧ frzOk H 3 c := fun hh c hc => by
        rw [List.mem_singleton] at hc; subst hc
        exact ⟨rfl, by simp only [frzOk, hh]; rw [List.length_map]; exact Nat.le_refl _⟩
      exact ⟨fun h5 => ⟨okN1, by rw [h5]; rfl⟩, fun h5 => ⟨okR1 (by simp [hget]), by rw [h5]; rfl⟩⟩
  · have hda : amg day 0 35999 = false := by unfold amg; simp; omega
    simp (config := {maxSteps := 1000000}) only [reoS, on_pii_eq, lgV, lgOf_agg, map_psOf, hda, Ψc, psiRow_eq, cloneQ, on_l_eq, AK_among, amongS, on_iii_eq, List.length_map, loadC_eq, k_reoS_41, lchkS, on_p_eq, k_reoS_42, llastS, k_reoS_52, ltrnS, on_pii_eq, Tryz.f24, argL, List.take_succ_cons, List.take_nil, Tryz.underlying1, sz1, by1, ze1, Tryz.underlying2, sz2, by2, ze2, Tryz.underlying3, sz3, by3, ze3, Tryz.underlying4, sz4, by4, ze4, Tryz.underlying6, sz6, by6, ze6, Tryz.underlying7, sz7, by7, ze7, fa7_0, fa7_1, fa7_2, fa7_3, Tryz.underlying23, sz23, by23, ze23, Tryz.underlying25, sz25, by25, ze25, fa25_0, Tryz.underlying41, sz41, by41, ze41, Tryz.underlying63, sz63, by63, ze63, fa63_0, fa63_1, fa63_2, fa63_3, fa63_4, fa63_5, fa63_6, fa63_7, planR, go_sem, ↓reduceIte, reduceCtorEq, Nat.reduceEqDiff, Nat.reduceLT, ↓all_qV, Int.reduceToNat, Int.reduceLT, Int.reduceLE, Nat.reduceAdd, Nat.reduceLeDiff, Nat.reduceMul, ev_callG, gcallK_b, gcallK_w, callGc_true, callGc_false]
    exact ⟨⟨okL1, l, rfl, hl⟩, fun h1 => ⟨okN1, by unfold reoF; rw [h1]; rfl⟩, fun h1 => ⟨fun h2 => ⟨okN1, by unfold reoF; rw [h1, h2]; rfl⟩, fun h2 => ⟨okN1, by unfold reoF; rw [h1, h2, hda]; rfl⟩⟩⟩
noncomputable def AL (g : FuncId) : PSpec := (putΦ AK 24 reoS) g
theorem hAL : TabSound GG AL := (hAK.put w_reoS)
end Go.AM
