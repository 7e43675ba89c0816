/-
  A part of a proof: see the last text of this claim for what is proved.
-/
import Derived.Test.YthfmoamiaofamaaGreatDoorU1c
import Derived.Test.YthfmoamiaofamaaGreatDoorZMa
namespace Go.AM
open Go Go.Proofs Go.IntWalk
set_option maxRecDepth 100000
set_option maxHeartbeats 1000000
set_option linter.unusedSimpArgs false
set_option linter.unusedVariables false
/-- What a posting of an amount adds, turned if the amount is below 0. -/
def postL (n en day db cr am re : Int) : List Pst :=
  bif decide (am < 0) then [⟨n, day, en, cr, db, -am, 0, re⟩] else bif decide (0 < am) then [⟨n, day, en, db, cr, am, 0, re⟩] else []
def postOk (fs es args : List PV) : Prop := ∃ (l o : List Pst) (en day db cr am re : Int), fs = [.sl (l.map psV), .int .i64 en, .int .i64 day] ∧ es = o.map psV ∧ args = [.int .i64 db, .int .i64 cr, .int .i64 am, .int .i64 re] ∧ l.length ≤ 100000 ∧ o.length ≤ 100000 ∧ -1000000000000000000 ≤ am ∧ am ≤ 1000000000000000000
def postR : List PV → List PV → List PV → List PV
  | [.sl ls, .int _ en, .int _ day], es, [.int _ db, .int _ cr, .int _ am, .int _ re] => es ++ (postL ((ls.length : Int) + es.length + 1) en day db cr am re).map psV
  | _, es, _ => es
def postP (fs es args : List PV) : Prop × List PV := (postOk fs es args, postR fs es args)
def planK : Plan := { keep := fun _ => none, cut := fun _ => false, stop := fun i => i == 2 }
theorem w_postS : ESound GG 43 (psiObj 8 postP) := by
  refine ESound.of_obj (C := cxQ Tryz.prog A9 noΘ noΨ [] [9000] 53) (T := planK) Tryz.func43 rfl rfl rfl rfl rfl (Fit.all (G := GG) hA9 hnoΘ hnoΨ mixed) (fun fs es args h hw => ?_)
  obtain ⟨l, o, en, day, db, cr, am, re, rfl, rfl, rfl, hl, ho, ha1, ha2⟩ := h
  refine ⟨by simp [cxQ], ?_⟩
  have hr : (postP [.sl (l.map psV), .int .i64 en, .int .i64 day] (o.map psV) [.int .i64 db, .int .i64 cr, .int .i64 am, .int .i64 re]).2 = (o ++ postL ((l.length : Int) + o.length + 1) en day db cr am re).map psV := by
    show o.map psV ++ (postL (((l.map psV).length : Int) + (o.map psV).length + 1) en day db cr am re).map psV = _
    rw [List.length_map, List.length_map, List.map_append]
  rw [hr]
  have wn : IntKind.i64.wrap (0 - am) = -am := by rw [i64_in _ (by omega)]; omega
  have w1 : IntKind.i64.wrap ((l.length : Int) + o.length) = (l.length : Int) + o.length := i64_in _ (by omega)
  have w2 : IntKind.i64.wrap ((l.length : Int) + o.length + 1) = (l.length : Int) + o.length + 1 := i64_in _ (by omega)
  simp only [objC, wn, w1, w2, List.map_cons, List.map_nil, List.cons_append, List.nil_append, List.length_map, Tryz.f43, argL, Tryz.underlying1, sz1, by1, ze1, Tryz.underlying2, sz2, by2, ze2, Tryz.underlying3, sz3, by3, ze3, Tryz.underlying4, sz4, by4, ze4, Tryz.underlying23, sz23, by23, ze23, Tryz.underlying25, sz25, by25, ze25, fa25_0, Tryz.underlying63, sz63, by63, ze63, fa63_0, fa63_1, fa63_2, fa63_3, fa63_4, fa63_5, fa63_6, fa63_7, Tryz.underlying76, sz76, by76, ze76, Tryz.underlying78, sz78, by78, ze78, fa78_0, fa78_1, fa78_2, fa78_3, planK, go_sem, ↓reduceIte, reduceCtorEq, Nat.reduceEqDiff, Nat.reduceLT, ↓all_qV, Int.reduceToNat, Int.reduceLT, Int.reduceLE, Nat.reduceAdd, Nat.reduceLeDiff, Nat.reduceMul, ev_callG, gcallK_b, gcallK_w, callGc_true, callGc_false]
  have tk : (o.map psV).take o.length = o.map psV := List.take_of_length_le (by simp)
  refine ⟨fun h1 => ?_, fun h1 => ?_⟩
  · have h1 : am < 0 := by simpa using h1
    refine AWp.seqc (T := plan0) ?_
    simp only [Tryz.underlying1, sz1, by1, ze1, Tryz.underlying2, sz2, by2, ze2, Tryz.underlying3, sz3, by3, ze3, Tryz.underlying4, sz4, by4, ze4, Tryz.underlying23, sz23, by23, ze23, Tryz.underlying25, sz25, by25, ze25, fa25_0, Tryz.underlying63, sz63, by63, ze63, fa63_0, fa63_1, fa63_2, fa63_3, fa63_4, fa63_5, fa63_6, fa63_7, Tryz.underlying76, sz76, by76, ze76, Tryz.underlying78, sz78, by78, ze78, fa78_0, fa78_1, fa78_2, fa78_3, plan0, go_sem, ↓reduceIte, reduceCtorEq, Nat.reduceEqDiff, Nat.reduceLT, ↓all_qV, Int.reduceToNat, Int.reduceLT, Int.reduceLE, Nat.reduceAdd, Nat.reduceLeDiff, Nat.reduceMul, ev_callG, gcallK_b, gcallK_w, callGc_true, callGc_false]
    refine AWp.condc (t := decide (0 < -am)) rfl (fun h2 => ?_) (fun h2 => ?_)
    · refine AWp.perm0 [1, 2, 3, 4, 5, 6, 7, 8, 9, 10, 11, 12, 13, 14, 15, 16, 17, 18, 19, 20, 21, 22, 23, 24, 25, 26, 27, 28, 29, 30, 31, 32, 0, 33, 34, 35] (by kernel_rfl) rfl ?_
      simp (config := {maxSteps := 1000000}) only [opsOf, List.filterMap_cons, List.filterMap_nil, List.getElem?_toArray, List.getElem?_cons_succ, List.getElem?_cons_zero, w1, w2, tk, List.length_map, List.take_succ_cons, List.take_nil, FinObj_n, objC, List.map_cons, List.map_nil, List.cons_append, List.nil_append, Tryz.underlying1, sz1, by1, ze1, Tryz.underlying2, sz2, by2, ze2, Tryz.underlying3, sz3, by3, ze3, Tryz.underlying4, sz4, by4, ze4, Tryz.underlying23, sz23, by23, ze23, Tryz.underlying25, sz25, by25, ze25, fa25_0, Tryz.underlying63, sz63, by63, ze63, fa63_0, fa63_1, fa63_2, fa63_3, fa63_4, fa63_5, fa63_6, fa63_7, Tryz.underlying76, sz76, by76, ze76, Tryz.underlying78, sz78, by78, ze78, fa78_0, fa78_1, fa78_2, fa78_3, plan0, go_sem, ↓reduceIte, reduceCtorEq, Nat.reduceEqDiff, Nat.reduceLT, ↓all_qV, Int.reduceToNat, Int.reduceLT, Int.reduceLE, Nat.reduceAdd, Nat.reduceLeDiff, Nat.reduceMul, ev_callG, gcallK_b, gcallK_w, callGc_true, callGc_false]
      have hp : postL ((l.length : Int) + o.length + 1) en day db cr am re = [⟨(l.length : Int) + o.length + 1, day, en, cr, db, -am, 0, re⟩] := by unfold postL; rw [show decide (am < 0) = true from decide_eq_true h1]; rfl
      rw [hp]
      have hwx : ∀ e, e ∈ [psV ⟨(l.length : Int) + o.length + 1, day, en, cr, db, -am, 0, re⟩] → e.cells.length = 8 := fun e he => by rw [List.mem_singleton] at he; subst he; rfl
      refine ⟨rfl, hwx, Nat.le_refl _, by omega, by simp only [maxLen]; omega, by simp, by simp [psV]⟩
    · exfalso
      have h2 : ¬ 0 < -am := by simpa using h2
      omega
  · have h1 : ¬ am < 0 := by simpa using h1
    refine AWp.seqc (T := plan0) ?_
    simp only [Tryz.underlying1, sz1, by1, ze1, Tryz.underlying2, sz2, by2, ze2, Tryz.underlying3, sz3, by3, ze3, Tryz.underlying4, sz4, by4, ze4, Tryz.underlying23, sz23, by23, ze23, Tryz.underlying25, sz25, by25, ze25, fa25_0, Tryz.underlying63, sz63, by63, ze63, fa63_0, fa63_1, fa63_2, fa63_3, fa63_4, fa63_5, fa63_6, fa63_7, Tryz.underlying76, sz76, by76, ze76, Tryz.underlying78, sz78, by78, ze78, fa78_0, fa78_1, fa78_2, fa78_3, plan0, go_sem, ↓reduceIte, reduceCtorEq, Nat.reduceEqDiff, Nat.reduceLT, ↓all_qV, Int.reduceToNat, Int.reduceLT, Int.reduceLE, Nat.reduceAdd, Nat.reduceLeDiff, Nat.reduceMul, ev_callG, gcallK_b, gcallK_w, callGc_true, callGc_false]
    refine AWp.condc (t := decide (0 < am)) rfl (fun h2 => ?_) (fun h2 => ?_)
    · refine AWp.perm0 [1, 2, 3, 4, 5, 6, 7, 8, 9, 10, 11, 12, 13, 14, 15, 16, 17, 18, 19, 20, 21, 22, 23, 24, 25, 26, 27, 28, 29, 30, 31, 32, 0, 33, 34, 35] (by kernel_rfl) rfl ?_
      simp (config := {maxSteps := 1000000}) only [opsOf, List.filterMap_cons, List.filterMap_nil, List.getElem?_toArray, List.getElem?_cons_succ, List.getElem?_cons_zero, w1, w2, tk, List.length_map, List.take_succ_cons, List.take_nil, FinObj_n, objC, List.map_cons, List.map_nil, List.cons_append, List.nil_append, Tryz.underlying1, sz1, by1, ze1, Tryz.underlying2, sz2, by2, ze2, Tryz.underlying3, sz3, by3, ze3, Tryz.underlying4, sz4, by4, ze4, Tryz.underlying23, sz23, by23, ze23, Tryz.underlying25, sz25, by25, ze25, fa25_0, Tryz.underlying63, sz63, by63, ze63, fa63_0, fa63_1, fa63_2, fa63_3, fa63_4, fa63_5, fa63_6, fa63_7, Tryz.underlying76, sz76, by76, ze76, Tryz.underlying78, sz78, by78, ze78, fa78_0, fa78_1, fa78_2, fa78_3, plan0, go_sem, ↓reduceIte, reduceCtorEq, Nat.reduceEqDiff, Nat.reduceLT, ↓all_qV, Int.reduceToNat, Int.reduceLT, Int.reduceLE, Nat.reduceAdd, Nat.reduceLeDiff, Nat.reduceMul, ev_callG, gcallK_b, gcallK_w, callGc_true, callGc_false]
      have hp : postL ((l.length : Int) + o.length + 1) en day db cr am re = [⟨(l.length : Int) + o.length + 1, day, en, db, cr, am, 0, re⟩] := by unfold postL; rw [show decide (am < 0) = false from decide_eq_false h1, show decide (0 < am) = true from h2]; rfl
      rw [hp]
      have hwx : ∀ e, e ∈ [psV ⟨(l.length : Int) + o.length + 1, day, en, db, cr, am, 0, re⟩] → e.cells.length = 8 := fun e he => by rw [List.mem_singleton] at he; subst he; rfl
      refine ⟨rfl, hwx, Nat.le_refl _, by omega, by simp only [maxLen]; omega, by simp, by simp [psV]⟩
    · refine AWp.skipc ?_
      have hp : postL ((l.length : Int) + o.length + 1) en day db cr am re = [] := by unfold postL; rw [show decide (am < 0) = false from decide_eq_false h1, show decide (0 < am) = false from h2]; rfl
      rw [hp, List.append_nil]
      exact ⟨by simp [hget, objC], by simp [hget]⟩
end Go.AM
namespace Go.AM
open Go Go.Proofs Go.IntWalk
set_option maxRecDepth 100000
set_option maxHeartbeats 1000000
set_option linter.unusedSimpArgs false
set_option linter.unusedVariables false
def accOf (l : List Pst) (en ac d : Int) : Int := bif lkF l != 0 then 0 else balF en 0 d ac l
def bringOk (fs es args : List PV) : Prop := ∃ (l o : List Pst) (en day ac bl ag : Int), fs = [.sl (l.map psV), .int .i64 en, .int .i64 day] ∧ es = o.map psV ∧ args = [.int .i64 ac, .int .i64 bl, .int .i64 ag] ∧ l.length ≤ 100000 ∧ o.length ≤ 100000 ∧ -100000000000000000 ≤ bl ∧ bl ≤ 100000000000000000
def bringR : List PV → List PV → List PV → List PV
  | [.sl ls, .int _ en, .int _ day], es, [.int _ ac, .int _ bl, .int _ ag] => es ++ (postL ((ls.length : Int) + es.length + 1) en day ac ag (bl - accOf (ls.map psOf) en ac day) 0).map psV
  | _, es, _ => es
def bringP (fs es args : List PV) : Prop × List PV := (bringOk fs es args, bringR fs es args)
noncomputable def Ψk (g : FuncId) : Option ESpec := putΨ noΨ 43 (psiObj 8 postP) g
theorem hΨk : ETab GG Ψk := hnoΨ.put w_postS psiObj_mono
theorem accOf_le {l : List Pst} {en ac d : Int} : -1000000000000000 ≤ accOf l en ac d ∧ accOf l en ac d ≤ 1000000000000000 := by
  unfold accOf
  cases h : (lkF l != 0) with
  | true => simp
  | false =>
    have h0 : lkF l = 0 := by simpa using h
    have hb := lk_bk h0
    have h1 := bal_le en 0 d ac l (fun x hx => (hb.1 x hx).1)
    have h2 := hb.2
    simp only [cond_false]
    omega
theorem k_bringS_67 {args : List PV} : A9 67 args = OfS args := rfl
theorem w_bringS : ESound GG 44 (psiObj 8 bringP) := by
  refine ESound.of_obj (C := cxQ Tryz.prog A9 noΘ Ψk [] [9000] 28) (T := plan0) Tryz.func44 rfl rfl rfl rfl rfl (Fit.all (G := GG) hA9 hnoΘ hΨk mixed) (fun fs es args h hw => ?_)
  obtain ⟨l, o, en, day, ac, bl, ag, rfl, rfl, rfl, hl, ho, ha1, ha2⟩ := h
  refine ⟨by simp [cxQ], ?_⟩
  have hov := accOf_le (l := l) (en := en) (ac := ac) (d := day)
  have hr : (bringP [.sl (l.map psV), .int .i64 en, .int .i64 day] (o.map psV) [.int .i64 ac, .int .i64 bl, .int .i64 ag]).2 = (o ++ postL ((l.length : Int) + o.length + 1) en day ac ag (bl - accOf l en ac day) 0).map psV := by
    show o.map psV ++ (postL (((l.map psV).length : Int) + (o.map psV).length + 1) en day ac ag (bl - accOf ((l.map psV).map psOf) en ac day) 0).map psV = _
    rw [List.length_map, List.length_map, List.map_append, map_psOf]
  rw [hr]
  have ho1 : (bif lkF l != 0 then 0 else balF en 0 day ac l) = accOf l en ac day := rfl
  have w1 : IntKind.i64.wrap (bl - accOf l en ac day) = bl - accOf l en ac day := i64_in _ (by omega)
  simp (config := {maxSteps := 1000000}) only [objC, ho1, w1, Ψk, lgOf_agg, List.map_cons, List.map_nil, List.cons_append, List.nil_append, List.length_map, List.take_succ_cons, List.take_nil, k_bringS_67, OfS, on_piii_eq, Tryz.f44, argL, Tryz.underlying1, sz1, by1, ze1, Tryz.underlying2, sz2, by2, ze2, Tryz.underlying3, sz3, by3, ze3, Tryz.underlying23, sz23, by23, ze23, Tryz.underlying25, sz25, by25, ze25, fa25_0, Tryz.underlying63, sz63, by63, ze63, fa63_0, fa63_1, fa63_2, fa63_3, fa63_4, fa63_5, fa63_6, fa63_7, Tryz.underlying76, sz76, by76, ze76, Tryz.underlying78, sz78, by78, ze78, fa78_0, fa78_1, fa78_2, fa78_3, plan0, go_sem, ↓reduceIte, reduceCtorEq, Nat.reduceEqDiff, Nat.reduceLT, ↓all_qV, Int.reduceToNat, Int.reduceLT, Int.reduceLE, Nat.reduceAdd, Nat.reduceLeDiff, Nat.reduceMul, ev_callG, gcallK_b, gcallK_w, callGc_true, callGc_false]
  have hp2 : (postP [.sl (l.map psV), .int .i64 en, .int .i64 day] (o.map psV) [.int .i64 ac, .int .i64 ag, .int .i64 (bl - accOf l en ac day), .int .i64 0]).2 = (o ++ postL ((l.length : Int) + o.length + 1) en day ac ag (bl - accOf l en ac day) 0).map psV := by
    show o.map psV ++ (postL (((l.map psV).length : Int) + (o.map psV).length + 1) en day ac ag (bl - accOf l en ac day) 0).map psV = _
    rw [List.length_map, List.length_map, List.map_append]
  refine ⟨by kernel_rfl, ⟨okL1, l, rfl, by omega⟩, ?_⟩
  refine ⟨9000, [.pv (.int .i64 ac), .pv (.int .i64 ag), .pv (.int .i64 (bl - accOf l en ac day)), .pv (.int .i64 0)], [.sl (l.map psV), .int .i64 en, .int .i64 day], 1009001, o.map psV, rfl, by simp [hget, objC], by simp [hget], by decide, rfl, ?_, ?_, ?_, ?_⟩
  · intro a ha
    simp only [List.mem_cons, List.not_mem_nil, or_false] at ha
    rcases ha with rfl | rfl | rfl | rfl <;> trivial
  · exact ⟨l, o, en, day, ac, ag, bl - accOf l en ac day, 0, rfl, rfl, rfl, hl, ho, by omega, by omega⟩
  · show ∀ e, e ∈ (postP [.sl (l.map psV), .int .i64 en, .int .i64 day] (o.map psV) [.int .i64 ac, .int .i64 ag, .int .i64 (bl - accOf l en ac day), .int .i64 0]).2 → _
    rw [hp2]
    intro e he
    obtain ⟨x, _, rfl⟩ := List.mem_map.1 he
    rfl
  · show FinObj _ _ _ _ ⟨_, hset (hset _ _ (.row 8 (postP [.sl (l.map psV), .int .i64 en, .int .i64 day] (o.map psV) [.int .i64 ac, .int .i64 ag, .int .i64 (bl - accOf l en ac day), .int .i64 0]).2)) _ (.cells (objC _ _ (postP [.sl (l.map psV), .int .i64 en, .int .i64 day] (o.map psV) [.int .i64 ac, .int .i64 ag, .int .i64 (bl - accOf l en ac day), .int .i64 0]).2.length))⟩
    rw [hp2]
    rw [FinObj_n]
    refine ⟨?_, ?_⟩
    · rw [hget_hset_same]
    · rw [hget_hset_ne _ _ (by decide), hget_hset_same]
end Go.AM
namespace Go.AM
open Go Go.Proofs Go.IntWalk
set_option maxRecDepth 100000
set_option maxHeartbeats 1000000
set_option linter.unusedSimpArgs false
set_option linter.unusedVariables false
/-- A closing. -/
structure Clo where
  i : Int
  u : Int
  p : Int
  cl : List PV
def cloV (c : Clo) : PV := .agg [.int .i64 c.i, .int .i64 c.u, .int .i64 c.p, .sl c.cl]
def cloOf : PV → Clo
  | .agg [.int _ i, .int _ u, .int _ p, .sl cl] => ⟨i, u, p, cl⟩
  | _ => ⟨0, 0, 0, []⟩
theorem cloOf_agg {i u p : Int} {cl : List PV} : cloOf (.agg [.int .i64 i, .int .i64 u, .int .i64 p, .sl cl]) = ⟨i, u, p, cl⟩ := rfl
def isClo (e : PV) : Prop := ∃ c : Clo, e = cloV c ∧ (∀ x, x ∈ c.cl → isCl x) ∧ c.cl.length ≤ 1000000
def ackF (c : Clo) : Int := bif clsF c.cl == 0 && !(vldM c.i && vldM c.u && vldM c.p) then 87 else clsF c.cl
theorem A9_claims {args : List PV} : A9 31 args = claimsS args := rfl
noncomputable def ackS : PSpec := on_p isClo (fun e => .int .i64 (ackF (cloOf e)))
theorem k_ackS_32 {args : List PV} : A9 32 args = amtS args := rfl
theorem w_ackS : PSound GG 15 ackS := by
  refine PSound.of_wpc (C := cxP Tryz.prog A9 [] 21) (T := plan0) Tryz.func15 rfl rfl rfl (Fit.pure (G := GG) hA9 mixed) (fun args h => ?_)
  unfold ackS at h
  obtain ⟨e, rfl, hp⟩ := on_p_inv h
  refine ⟨by simp [cxP], ?_⟩
  simp only [ackS, on_p_eq, Tryz.f15, argL, plan0]
  obtain ⟨⟨i, u, p, cl⟩, rfl, hc, hl⟩ := hp
  simp only at hc hl
  simp only [cloV, cloOf_agg, A9_claims, claimsS, on_l_eq, k_ackS_32, amtS, on_l_eq, List.take_succ_cons, List.take_nil, Tryz.underlying1, sz1, by1, ze1, Tryz.underlying2, sz2, by2, ze2, Tryz.underlying3, sz3, by3, ze3, Tryz.underlying4, sz4, by4, ze4, Tryz.underlying9, sz9, by9, ze9, Tryz.underlying22, sz22, by22, ze22, Tryz.underlying26, sz26, by26, ze26, Tryz.underlying28, sz28, by28, ze28, fa28_0, fa28_1, fa28_2, fa28_3, Tryz.underlying40, sz40, by40, ze40, fa40_0, fa40_1, fa40_2, fa40_3, fa40_4, fa40_5, Tryz.underlying41, sz41, by41, ze41, go_sem, ↓reduceIte, reduceCtorEq, Nat.reduceEqDiff, Nat.reduceLT, ↓all_qV, Int.reduceToNat, Int.reduceLT, Int.reduceLE, Nat.reduceAdd, Nat.reduceLeDiff, Nat.reduceMul]
  have hany : ([nOfI (PV.int IntKind.i64 i), nOfI (PV.int IntKind.i64 u), nOfI (PV.int IntKind.i64 p)].any fun x => !vldM x) = !(vldM i && vldM u && vldM p) := by
    simp [nOfI, Bool.or_assoc]
  refine ⟨⟨hc, by omega⟩, fun _ => ⟨[i, u, p], rfl⟩, fun h9 => ?_, fun h9 => ?_⟩
  · rw [hany] at h9
    unfold ackF; rw [h9]; rfl
  · rw [hany] at h9
    unfold ackF; rw [h9]; rfl
noncomputable def AA (g : FuncId) : PSpec := (putΦ (putΦ A9 15 ackS) 42 llastS) g
theorem hAA : TabSound GG AA := ((hA9.put w_ackS).put w_llastS)
end Go.AM
