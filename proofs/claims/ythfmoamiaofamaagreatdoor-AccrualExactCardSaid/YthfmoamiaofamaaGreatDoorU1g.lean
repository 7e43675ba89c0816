/-
  A part of a proof: see the last text of this claim for what is proved.
-/
import Derived.Test.YthfmoamiaofamaaGreatDoorUD
import Derived.Test.YthfmoamiaofamaaGreatDoorDM
import Derived.Test.YthfmoamiaofamaaGreatDoorZMa
/-! accrual: Adjust -/
namespace Go.AM
open Go Go.Proofs Go.IntWalk
set_option maxRecDepth 100000
set_option maxHeartbeats 4000000
set_option linter.unusedSimpArgs false
set_option linter.unusedVariables false
def on_piip (p : PV → Int → Int → PV → Prop) (f : PV → Int → Int → PV → PV) : PSpec
  | [a0, .int .i64 a1, .int .i64 a2, a3] => (p a0 a1 a2 a3, f a0 a1 a2 a3)
  | _ => (False, default)
theorem on_piip_eq {p : PV → Int → Int → PV → Prop} {f : PV → Int → Int → PV → PV} {a0 : PV} {a1 : Int} {a2 : Int} {a3 : PV} : on_piip p f [a0, .int .i64 a1, .int .i64 a2, a3] = (p a0 a1 a2 a3, f a0 a1 a2 a3) := rfl
theorem on_piip_inv {p : PV → Int → Int → PV → Prop} {f : PV → Int → Int → PV → PV} {args : List PV} (h : (on_piip p f args).1) : ∃ a0 : PV, ∃ a1 : Int, ∃ a2 : Int, ∃ a3 : PV, args = [a0, .int .i64 a1, .int .i64 a2, a3] ∧ p a0 a1 a2 a3 := by
  unfold on_piip at h
  split at h
  · exact ⟨_, _, _, _, rfl, h⟩
  · exact h.elim
def openF : PV → Int
  | .agg [_, _, _, .int _ op, _, _] => op
  | _ => 0
/-- What closes the books, posting by posting. -/
def addP (n en day db cr am re : Int) (o : List Pst) : List Pst := o ++ postL (n + o.length + 1) en day db cr am re
def outA (l : List Pst) (en day : Int) (c : Clo) : List Pst :=
  addP l.length en day 119 530 (-(provF c.cl day).1 - accOf l en 119 day) 0
    (addP l.length en day 120 420 (sumI (c.cl.map openF) - accOf l en 120 day) 0
      (addP l.length en day 130 510 c.p 1000000 (addP l.length en day 510 210 c.u 1000000 (addP l.length en day 520 220 c.i 1000000 []))))
def adjF (l : List Pst) (en day : Int) (c : Clo) : List Pst × Int :=
  bif lkF l != 0 then ([], lkF l) else bif ackF c != 0 then ([], ackF c) else bif !amg en 1 10 then ([], 89) else bif !amg day (lastD l) 36000 then ([], 8) else
  bif (provF c.cl day).2 != 0 then ([], (provF c.cl day).2) else bif (outA l en day c).any (fun x => !vldM x.am) then ([], 2) else bif decide (400 < (l.length : Int) + (outA l en day c).length) then ([], 3) else (outA l en day c, 0)
noncomputable def Ψa (g : FuncId) : Option ESpec := putΨ (putΨ noΨ 43 (psiObj 8 postP)) 44 (psiObj 8 bringP) g
theorem hΨa : ETab GG Ψa := (hnoΨ.put w_postS psiObj_mono).put w_bringS psiObj_mono
theorem AA_prov {args : List PV} : AA 18 args = provS args := rfl
theorem AA_among {args : List PV} : AA 35 args = amongS args := rfl
theorem psiObj_run {k d κ key : Nat} {φ : List PV → List PV → List PV → Prop × List PV} {rest : List AV} {fs es es' args : List PV} {ρ : Nat → AV} {H : AHeap} {K : AV → ASt → Prop}
    (h1 : hget H κ = some (.cells (objC fs key es.length))) (h2 : hget H key = some (.row k es)) (hk : 1000000 ≤ key) (hfree : AV.freeL rest = true) (hfr : ∀ a, a ∈ rest → frzOk H 4 a) (ha : rest.map (frz H 4) = args)
    (hφ : (φ fs es args).1) (he : (φ fs es args).2 = es') (hfl : ∀ e, e ∈ es' → e.cells.all flatC = true)
    (hK : K (.pv (.tup [])) ⟨killR key ρ, hset (hset (killH key H) key (.row k es')) κ (.cells (objC fs key es'.length))⟩) : psiObj k φ d (.ptr κ 0 :: rest) ⟨ρ, H⟩ K := by
  subst ha; subst he
  exact ⟨κ, rest, fs, key, es, rfl, h1, h2, hk, hfree, hfr, hφ, hfl, hK⟩
theorem postP_eq {l o : List Pst} {en day db cr am re : Int} : (postP [.sl (l.map psV), .int .i64 en, .int .i64 day] (o.map psV) [.int .i64 db, .int .i64 cr, .int .i64 am, .int .i64 re]).2 = (addP l.length en day db cr am re o).map psV := by
  show o.map psV ++ (postL (((l.map psV).length : Int) + (o.map psV).length + 1) en day db cr am re).map psV = _
  unfold addP
  rw [List.length_map, List.length_map, List.map_append]
theorem bringP_eq {l o : List Pst} {en day ac bl ag : Int} : (bringP [.sl (l.map psV), .int .i64 en, .int .i64 day] (o.map psV) [.int .i64 ac, .int .i64 bl, .int .i64 ag]).2 = (addP l.length en day ac ag (bl - accOf l en ac day) 0 o).map psV := by
  show o.map psV ++ (postL (((l.map psV).length : Int) + (o.map psV).length + 1) en day ac ag (bl - accOf ((l.map psV).map psOf) en ac day) 0).map psV = _
  unfold addP
  rw [List.length_map, List.length_map, List.map_append, map_psOf]
theorem flat_ps {o : List Pst} : ∀ e, e ∈ o.map psV → e.cells.all flatC = true := by
  intro e he
  obtain ⟨x, _, rfl⟩ := List.mem_map.1 he
  rfl
theorem addP_len {n en day db cr am re : Int} {o : List Pst} : (addP n en day db cr am re o).length ≤ o.length + 1 := by
  unfold addP postL
  rw [List.length_append]
  cases decide (am < 0) <;> cases decide (0 < am) <;> simp
theorem open_le : ∀ l : List PV, (∀ e, e ∈ l → 0 ≤ openF e ∧ openF e ≤ 1000000000000) → 0 ≤ sumI (l.map openF) ∧ sumI (l.map openF) ≤ l.length * 1000000000000
  | [], _ => by simp [sumI]
  | x :: r, h => by
    have ih := open_le r (fun e he => h e (List.mem_cons_of_mem _ he))
    have hx := h x List.mem_cons_self
    simp only [List.map_cons, sumI, List.length_cons, Int.natCast_add, Int.add_mul]
    omega
theorem okC4 {H : AHeap} {i u p : Int} {cl : List PV} : ∀ c, c ∈ [AV.pv (.int .i64 i), .pv (.int .i64 u), .pv (.int .i64 p), .pv (.sl cl)] → c.one = true ∧ frzOk H 3 c := by
  intro c hc
  simp only [List.mem_cons, List.not_mem_nil, or_false] at hc
  rcases hc with rfl | rfl | rfl | rfl <;> exact ⟨rfl, trivial⟩
def planAt (n : Nat) : Plan := { keep := fun _ => none, cut := fun _ => false, stop := fun i => i == n }
def plan22 : Plan := { keep := fun _ => none, cut := fun _ => false, stop := fun i => i == 22 }
def planJ : Plan := { keep := fun _ => none, cut := fun _ => false, stop := fun i => i == 21 }
noncomputable def adjS : PSpec := on_piip (fun a _ _ b => isLg a ∧ isClo b) (fun a en day b => .tup [.sl ((adjF (lgOf a) en day (cloOf b)).1.map psV), .int .i64 (adjF (lgOf a) en day (cloOf b)).2])
theorem k_adjS_15 {args : List PV} : AA 15 args = ackS args := rfl
theorem k_adjS_41 {args : List PV} : AA 41 args = lchkS args := rfl
theorem k_adjS_42 {args : List PV} : AA 42 args = llastS args := rfl
theorem k_adjS_45 {args : List PV} : AA 45 args = ctS args := rfl
theorem k_adjS_46 {args : List PV} : AA 46 args = adj1S args := rfl
theorem w_adjS : PSound GG 20 adjS := by
  refine PSound.of_wpc (C := cxQ Tryz.prog AA noΘ Ψa [] [] 105) (T := planJ) Tryz.func20 rfl rfl rfl (Fit.all (G := GG) hAA hnoΘ hΨa mixed) (fun args h => ?_)
  unfold adjS at h
  obtain ⟨a, en, day, b, rfl, ⟨l, rfl, hl⟩, ⟨i, u, p, cl⟩, rfl, hc, hcl⟩ := on_piip_inv h
  simp only at hc hcl
  refine ⟨by simp [cxQ], ?_⟩
  simp (config := {maxSteps := 1000000}) only [adjS, on_piip_eq, lgV, lgOf_agg, cloV, cloOf_agg, Ψa, AA_prov, AA_among, provS, amongS, on_li_eq, on_iii_eq, Nat.reduceBEq, k_adjS_15, ackS, on_p_eq, k_adjS_41, lchkS, k_adjS_42, llastS, k_adjS_45, ctS, on_lp_eq, k_adjS_46, adj1S, Tryz.f20, argL, List.take_succ_cons, List.take_nil, Tryz.underlying1, sz1, by1, ze1, Tryz.underlying2, sz2, by2, ze2, Tryz.underlying3, sz3, by3, ze3, Tryz.underlying4, sz4, by4, ze4, Tryz.underlying9, sz9, by9, ze9, Tryz.underlying23, sz23, by23, ze23, Tryz.underlying25, sz25, by25, ze25, fa25_0, Tryz.underlying26, sz26, by26, ze26, Tryz.underlying28, sz28, by28, ze28, fa28_0, fa28_1, fa28_2, fa28_3, Tryz.underlying40, sz40, by40, ze40, fa40_0, fa40_1, fa40_2, fa40_3, fa40_4, fa40_5, Tryz.underlying41, sz41, by41, ze41, Tryz.underlying51, sz51, by51, ze51, Tryz.underlying63, sz63, by63, ze63, fa63_0, fa63_1, fa63_2, fa63_3, fa63_4, fa63_5, fa63_6, fa63_7, Tryz.underlying76, sz76, by76, ze76, Tryz.underlying78, sz78, by78, ze78, fa78_0, fa78_1, fa78_2, fa78_3, Tryz.underlying82, sz82, by82, ze82, planJ, go_sem, ↓reduceIte, reduceCtorEq, Nat.reduceEqDiff, Nat.reduceLT, ↓all_qV, Int.reduceToNat, Int.reduceLT, Int.reduceLE, Nat.reduceAdd, Nat.reduceLeDiff, Nat.reduceMul, ev_callG, gcallK_b, gcallK_w, callGc_true, callGc_false]
  refine ⟨⟨okL1, l, rfl, hl⟩, fun h1 => by unfold adjF; rw [h1]; rfl, fun h1 => ⟨⟨okC4, ⟨i, u, p, cl⟩, rfl, hc, hcl⟩, fun h2 => by unfold adjF; rw [h1, h2]; rfl, fun h2 => ⟨fun h3 => by unfold adjF; rw [h1, h2, h3]; rfl, fun h3 => ⟨⟨okL1, l, rfl, hl⟩, fun h4 => by unfold adjF; rw [h1, h2, h3, h4]; rfl, fun h4 => ⟨⟨hc, by omega⟩, fun h5 => by unfold adjF; rw [h1, h2, h3, h4, h5]; rfl, fun h5 => ?_⟩⟩⟩⟩⟩
  have hc0 : clsF cl = 0 := by
    have h2' : ackF ⟨i, u, p, cl⟩ = 0 := by simpa using h2
    unfold ackF at h2'
    simp only at h2'
    cases h9 : (clsF cl == 0) with
    | true => simpa using h9
    | false => rw [h9] at h2'; simp only [Bool.false_and, cond_false] at h2'; exact h2'
  obtain ⟨hl6, hok⟩ := cls_ok hc0
  have hop : ∀ e, e ∈ cl → 0 ≤ openF e ∧ openF e ≤ 1000000000000 := fun e he => by
    obtain ⟨id, pa, am, op, d, c, rfl, _⟩ := hc e he
    exact (set_le day (hok _ he)).1
  refine AWp.loop (T := planJ) (α := Nat) (fun k => ([(1, .pv (.int .i64 en)), (2, .pv (.int .i64 day)), (4, .ptr 4 0), (7, .ptr 7 0), (12, .pv (.int .i64 (provF cl day).1)), (14, .pv (.int .i64 (sumI ((cl.take k).map openF)))), (49, .pv (.sl cl)), (50, .pv (.int .i64 cl.length)), (51, .pv (.int .i64 k))],
      [(4, .cells [.pv (.sl (l.map psV))]), (7, .cells [.pv (.int .i64 i), .pv (.int .i64 u), .pv (.int .i64 p), .pv (.sl cl)])])) (fun k => k ≤ cl.length) (fun k => cl.length - k)
    ⟨0, Nat.zero_le _, ⟨by simp [fitR, look, sumI], by simp [fitH, hget], rfl, rfl, rfl⟩⟩ ?_
  intro k hk
  have hi1 : IntKind.i64.wrap ((k : Int) + 1) = ((k + 1 : Nat) : Int) := by rw [i64_in _ (by omega)]; omega
  by_cases hlt : k < cl.length
  · have c0 : decide ((k : Int) < (cl.length : Int)) = true := by simp; omega
    have hm : cl.getD k default ∈ cl := by rw [List.getD_eq_getElem?_getD, List.getElem?_eq_getElem hlt]; exact List.getElem_mem _
    have hnext : sumI ((cl.take (k + 1)).map openF) = sumI ((cl.take k).map openF) + openF (cl.getD k default) := by
      rw [List.take_add_one, List.map_append, sumI_append]
      simp [List.getElem?_eq_getElem hlt, List.getD_eq_getElem?_getD, sumI]
    have hsm := open_le (cl.take k) (fun e he => hop e (List.mem_of_mem_take he))
    have htl : (cl.take k).length ≤ 60 := by rw [List.length_take]; omega
    have hox := hop _ hm
    obtain ⟨id, pa, am, op, d, c, hg, _⟩ := hc _ hm
    rw [hg] at hnext hox
    have hnext : sumI ((cl.take (k + 1)).map openF) = sumI ((cl.take k).map openF) + op := hnext
    have hox : 0 ≤ op ∧ op ≤ 1000000000000 := hox
    unfold claimV at hg
    generalize sumI ((cl.take k).map openF) = S at hnext hsm ⊢
    have w2 : IntKind.i64.wrap (S + op) = S + op := i64_in _ (by omega)
    simp (config := {maxSteps := 1000000}) only [c0, hg, hi1, w2, Nat.reduceBEq, List.take_succ_cons, List.take_nil, Tryz.underlying1, sz1, by1, ze1, Tryz.underlying2, sz2, by2, ze2, Tryz.underlying3, sz3, by3, ze3, Tryz.underlying4, sz4, by4, ze4, Tryz.underlying9, sz9, by9, ze9, Tryz.underlying23, sz23, by23, ze23, Tryz.underlying25, sz25, by25, ze25, fa25_0, Tryz.underlying26, sz26, by26, ze26, Tryz.underlying28, sz28, by28, ze28, fa28_0, fa28_1, fa28_2, fa28_3, Tryz.underlying40, sz40, by40, ze40, fa40_0, fa40_1, fa40_2, fa40_3, fa40_4, fa40_5, Tryz.underlying41, sz41, by41, ze41, Tryz.underlying51, sz51, by51, ze51, Tryz.underlying63, sz63, by63, ze63, fa63_0, fa63_1, fa63_2, fa63_3, fa63_4, fa63_5, fa63_6, fa63_7, Tryz.underlying76, sz76, by76, ze76, Tryz.underlying78, sz78, by78, ze78, fa78_0, fa78_1, fa78_2, fa78_3, Tryz.underlying82, sz82, by82, ze82, planJ, go_sem, ↓reduceIte, reduceCtorEq, Nat.reduceEqDiff, Nat.reduceLT, ↓all_qV, Int.reduceToNat, Int.reduceLT, Int.reduceLE, Nat.reduceAdd, Nat.reduceLeDiff, Nat.reduceMul, ev_callG, gcallK_b, gcallK_w, callGc_true, callGc_false]
    refine ⟨⟨by omega, by omega⟩, k + 1, by omega, by omega, ⟨by simp [fitR, look, hnext, -List.map_take], by simp [fitH, hget], rfl, rfl, rfl⟩⟩
  · have c0 : decide ((k : Int) < (cl.length : Int)) = false := by simp; omega
    rw [List.take_of_length_le (show cl.length ≤ k by omega)]
    simp (config := {maxSteps := 1000000}) only [c0, Nat.reduceBEq, List.take_succ_cons, List.take_nil, Tryz.underlying1, sz1, by1, ze1, Tryz.underlying2, sz2, by2, ze2, Tryz.underlying3, sz3, by3, ze3, Tryz.underlying4, sz4, by4, ze4, Tryz.underlying9, sz9, by9, ze9, Tryz.underlying23, sz23, by23, ze23, Tryz.underlying25, sz25, by25, ze25, fa25_0, Tryz.underlying26, sz26, by26, ze26, Tryz.underlying28, sz28, by28, ze28, fa28_0, fa28_1, fa28_2, fa28_3, Tryz.underlying40, sz40, by40, ze40, fa40_0, fa40_1, fa40_2, fa40_3, fa40_4, fa40_5, Tryz.underlying41, sz41, by41, ze41, Tryz.underlying51, sz51, by51, ze51, Tryz.underlying63, sz63, by63, ze63, fa63_0, fa63_1, fa63_2, fa63_3, fa63_4, fa63_5, fa63_6, fa63_7, Tryz.underlying76, sz76, by76, ze76, Tryz.underlying78, sz78, by78, ze78, fa78_0, fa78_1, fa78_2, fa78_3, Tryz.underlying82, sz82, by82, ze82, planJ, go_sem, ↓reduceIte, reduceCtorEq, Nat.reduceEqDiff, Nat.reduceLT, ↓all_qV, Int.reduceToNat, Int.reduceLT, Int.reduceLE, Nat.reduceAdd, Nat.reduceLeDiff, Nat.reduceMul, ev_callG, gcallK_b, gcallK_w, callGc_true, callGc_false]
    refine AWp.adoptC (b := 64) (i := 3) (κ := 1000064) (k := 8) (cs := [.pv (.sl (l.map psV)), .pv (.int .i64 en), .pv (.int .i64 day), .nils]) ?_ rfl (by simp [hget]) (by decide) ?_
    · rfl
    simp (config := {maxSteps := 1000000}) only [hset, List.set_cons_succ, List.set_cons_zero, Nat.reduceBEq, Tryz.underlying1, sz1, by1, ze1, Tryz.underlying2, sz2, by2, ze2, Tryz.underlying3, sz3, by3, ze3, Tryz.underlying4, sz4, by4, ze4, Tryz.underlying9, sz9, by9, ze9, Tryz.underlying23, sz23, by23, ze23, Tryz.underlying25, sz25, by25, ze25, fa25_0, Tryz.underlying26, sz26, by26, ze26, Tryz.underlying28, sz28, by28, ze28, fa28_0, fa28_1, fa28_2, fa28_3, Tryz.underlying40, sz40, by40, ze40, fa40_0, fa40_1, fa40_2, fa40_3, fa40_4, fa40_5, Tryz.underlying41, sz41, by41, ze41, Tryz.underlying51, sz51, by51, ze51, Tryz.underlying63, sz63, by63, ze63, fa63_0, fa63_1, fa63_2, fa63_3, fa63_4, fa63_5, fa63_6, fa63_7, Tryz.underlying76, sz76, by76, ze76, Tryz.underlying78, sz78, by78, ze78, fa78_0, fa78_1, fa78_2, fa78_3, Tryz.underlying82, sz82, by82, ze82, plan0, go_sem, ↓reduceIte, reduceCtorEq, Nat.reduceEqDiff, Nat.reduceLT, ↓all_qV, Int.reduceToNat, Int.reduceLT, Int.reduceLE, Nat.reduceAdd, Nat.reduceLeDiff, Nat.reduceMul, ev_callG, gcallK_b, gcallK_w, callGc_true, callGc_false]
    refine AWp.seqc (T := plan0) ?_
    simp (config := {maxSteps := 1000000}) only [Ψa, Nat.reduceBEq, List.take_succ_cons, List.take_nil, Tryz.underlying1, sz1, by1, ze1, Tryz.underlying2, sz2, by2, ze2, Tryz.underlying3, sz3, by3, ze3, Tryz.underlying4, sz4, by4, ze4, Tryz.underlying9, sz9, by9, ze9, Tryz.underlying23, sz23, by23, ze23, Tryz.underlying25, sz25, by25, ze25, fa25_0, Tryz.underlying26, sz26, by26, ze26, Tryz.underlying28, sz28, by28, ze28, fa28_0, fa28_1, fa28_2, fa28_3, Tryz.underlying40, sz40, by40, ze40, fa40_0, fa40_1, fa40_2, fa40_3, fa40_4, fa40_5, Tryz.underlying41, sz41, by41, ze41, Tryz.underlying51, sz51, by51, ze51, Tryz.underlying63, sz63, by63, ze63, fa63_0, fa63_1, fa63_2, fa63_3, fa63_4, fa63_5, fa63_6, fa63_7, Tryz.underlying76, sz76, by76, ze76, Tryz.underlying78, sz78, by78, ze78, fa78_0, fa78_1, fa78_2, fa78_3, Tryz.underlying82, sz82, by82, ze82, plan0, go_sem, ↓reduceIte, reduceCtorEq, Nat.reduceEqDiff, Nat.reduceLT, ↓all_qV, Int.reduceToNat, Int.reduceLT, Int.reduceLE, Nat.reduceAdd, Nat.reduceLeDiff, Nat.reduceMul, ev_callG, gcallK_b, gcallK_w, callGc_true, callGc_false]
    have hv : (0 ≤ i ∧ i ≤ 1000000000000) ∧ (0 ≤ u ∧ u ≤ 1000000000000) ∧ (0 ≤ p ∧ p ≤ 1000000000000) := by
      have h2' : ackF ⟨i, u, p, cl⟩ = 0 := by simpa using h2
      unfold ackF at h2'
      simp only [hc0] at h2'
      cases h9 : (vldM i && vldM u && vldM p) with
      | true =>
        simp only [Bool.and_eq_true, vldM, decide_eq_true_eq] at h9
        exact ⟨h9.1.1, h9.1.2, h9.2⟩
      | false => rw [h9] at h2'; simp at h2'
    have hl4 := (lkF_ok (show lkF l = 0 by simpa using h1)).1
    refine psiObj_run (key := 1000064) (fs := [.sl (l.map psV), .int .i64 en, .int .i64 day]) (es := ([] : List Pst).map psV) (args := [.int .i64 520, .int .i64 220, .int .i64 i, .int .i64 1000000]) (es' := (addP l.length en day 520 220 i 1000000 []).map psV)
      (by simp [hget, objC]) (by simp [hget]) (by decide) rfl (fun a ha => ?_) rfl ⟨l, [], en, day, 520, 220, i, 1000000, rfl, rfl, rfl, by omega, by simp, by omega, by omega⟩ postP_eq flat_ps ?_
    · simp only [List.mem_cons, List.not_mem_nil, or_false] at ha
      rcases ha with rfl | rfl | rfl | rfl <;> trivial
    have hn1 := addP_len (n := l.length) (en := en) (day := day) (db := 520) (cr := 220) (am := i) (re := 1000000) (o := [])
    obtain ⟨o1, ho1⟩ : ∃ o, addP l.length en day 520 220 i 1000000 [] = o := ⟨_, rfl⟩
    rw [ho1] at hn1 ⊢
    simp only [List.length_nil] at hn1
    have hopn := open_le cl hop
    have hpl : 0 ≤ (provF cl day).1 ∧ (provF cl day).1 ≤ 1000000000000 * cl.length := by
      unfold provF
      rw [hc0]
      simp only [bne_self_eq_false, cond_false]
      cases h9 : (!amg day 0 36000) with
      | true => simp; omega
      | false => exact sumI_le (fun e he => ⟨hc e he, hok e he⟩)
    have wneg : IntKind.i64.wrap (0 - (provF cl day).1) = -(provF cl day).1 := by rw [i64_in _ (by omega)]; omega
    refine AWp.here (T := planAt 22) (α := Unit) (fun _ => ([(1, .pv (.int .i64 en)), (2, .pv (.int .i64 day)), (4, .ptr 4 0), (7, .ptr 7 0), (12, .pv (.int .i64 (provF cl day).1)), (14, .pv (.int .i64 (sumI (cl.map openF)))), (17, .ptr 64 0)],
      [(4, .cells [.pv (.sl (l.map psV))]), (7, .cells [.pv (.int .i64 i), .pv (.int .i64 u), .pv (.int .i64 p), .pv (.sl cl)]), (64, .cells (objC [.sl (l.map psV), .int .i64 en, .int .i64 day] 1000064 o1.length)), (1000064, .row 8 (o1.map psV))])) (fun _ => True)
      ⟨(), trivial, ⟨by simp [fitR, look, upd, killR, AV.kill], by simp [fitH, hget, hset, killH, objC, ABlk.kill, AV.killL, AV.kill], rfl, rfl, rfl⟩⟩ ?_
    intro _ _
    simp (config := {maxSteps := 1000000}) only [Nat.reduceBEq, List.take_succ_cons, List.take_nil, Tryz.underlying1, sz1, by1, ze1, Tryz.underlying2, sz2, by2, ze2, Tryz.underlying3, sz3, by3, ze3, Tryz.underlying4, sz4, by4, ze4, Tryz.underlying9, sz9, by9, ze9, Tryz.underlying23, sz23, by23, ze23, Tryz.underlying25, sz25, by25, ze25, fa25_0, Tryz.underlying26, sz26, by26, ze26, Tryz.underlying28, sz28, by28, ze28, fa28_0, fa28_1, fa28_2, fa28_3, Tryz.underlying40, sz40, by40, ze40, fa40_0, fa40_1, fa40_2, fa40_3, fa40_4, fa40_5, Tryz.underlying41, sz41, by41, ze41, Tryz.underlying51, sz51, by51, ze51, Tryz.underlying63, sz63, by63, ze63, fa63_0, fa63_1, fa63_2, fa63_3, fa63_4, fa63_5, fa63_6, fa63_7, Tryz.underlying76, sz76, by76, ze76, Tryz.underlying78, sz78, by78, ze78, fa78_0, fa78_1, fa78_2, fa78_3, Tryz.underlying82, sz82, by82, ze82, planAt, go_sem, ↓reduceIte, reduceCtorEq, Nat.reduceEqDiff, Nat.reduceLT, ↓all_qV, Int.reduceToNat, Int.reduceLT, Int.reduceLE, Nat.reduceAdd, Nat.reduceLeDiff, Nat.reduceMul, ev_callG, gcallK_b, gcallK_w, callGc_true, callGc_false]
    refine AWp.seqc (T := plan0) ?_
    simp (config := {maxSteps := 1000000}) only [Ψa, Nat.reduceBEq, List.take_succ_cons, List.take_nil, Tryz.underlying1, sz1, by1, ze1, Tryz.underlying2, sz2, by2, ze2, Tryz.underlying3, sz3, by3, ze3, Tryz.underlying4, sz4, by4, ze4, Tryz.underlying9, sz9, by9, ze9, Tryz.underlying23, sz23, by23, ze23, Tryz.underlying25, sz25, by25, ze25, fa25_0, Tryz.underlying26, sz26, by26, ze26, Tryz.underlying28, sz28, by28, ze28, fa28_0, fa28_1, fa28_2, fa28_3, Tryz.underlying40, sz40, by40, ze40, fa40_0, fa40_1, fa40_2, fa40_3, fa40_4, fa40_5, Tryz.underlying41, sz41, by41, ze41, Tryz.underlying51, sz51, by51, ze51, Tryz.underlying63, sz63, by63, ze63, fa63_0, fa63_1, fa63_2, fa63_3, fa63_4, fa63_5, fa63_6, fa63_7, Tryz.underlying76, sz76, by76, ze76, Tryz.underlying78, sz78, by78, ze78, fa78_0, fa78_1, fa78_2, fa78_3, Tryz.underlying82, sz82, by82, ze82, plan0, go_sem, ↓reduceIte, reduceCtorEq, Nat.reduceEqDiff, Nat.reduceLT, ↓all_qV, Int.reduceToNat, Int.reduceLT, Int.reduceLE, Nat.reduceAdd, Nat.reduceLeDiff, Nat.reduceMul, ev_callG, gcallK_b, gcallK_w, callGc_true, callGc_false]
    refine psiObj_run (key := 1000064) (fs := [.sl (l.map psV), .int .i64 en, .int .i64 day]) (es := o1.map psV) (args := [.int .i64 510, .int .i64 210, .int .i64 u, .int .i64 1000000]) (es' := (addP l.length en day 510 210 u 1000000 o1).map psV)
      (by simp [hget, objC]) (by simp [hget]) (by decide) rfl (fun a ha => ?_) rfl ⟨l, o1, en, day, 510, 210, u, 1000000, rfl, rfl, rfl, by omega, by omega, by omega, by omega⟩ postP_eq flat_ps ?_
    · simp only [List.mem_cons, List.not_mem_nil, or_false] at ha
      rcases ha with rfl | rfl | rfl | rfl <;> trivial
    have hn2 := addP_len (n := l.length) (en := en) (day := day) (db := 510) (cr := 210) (am := u) (re := 1000000) (o := o1)
    obtain ⟨o2, ho2⟩ : ∃ o, addP l.length en day 510 210 u 1000000 o1 = o := ⟨_, rfl⟩
    rw [ho2] at hn2 ⊢
    refine AWp.here (T := planAt 23) (α := Unit) (fun _ => ([(1, .pv (.int .i64 en)), (2, .pv (.int .i64 day)), (4, .ptr 4 0), (7, .ptr 7 0), (12, .pv (.int .i64 (provF cl day).1)), (14, .pv (.int .i64 (sumI (cl.map openF)))), (17, .ptr 64 0)],
      [(4, .cells [.pv (.sl (l.map psV))]), (7, .cells [.pv (.int .i64 i), .pv (.int .i64 u), .pv (.int .i64 p), .pv (.sl cl)]), (64, .cells (objC [.sl (l.map psV), .int .i64 en, .int .i64 day] 1000064 o2.length)), (1000064, .row 8 (o2.map psV))])) (fun _ => True)
      ⟨(), trivial, ⟨by simp [fitR, look, upd, killR, AV.kill], by simp [fitH, hget, hset, killH, objC, ABlk.kill, AV.killL, AV.kill], rfl, rfl, rfl⟩⟩ ?_
    intro _ _
    simp (config := {maxSteps := 1000000}) only [Nat.reduceBEq, List.take_succ_cons, List.take_nil, Tryz.underlying1, sz1, by1, ze1, Tryz.underlying2, sz2, by2, ze2, Tryz.underlying3, sz3, by3, ze3, Tryz.underlying4, sz4, by4, ze4, Tryz.underlying9, sz9, by9, ze9, Tryz.underlying23, sz23, by23, ze23, Tryz.underlying25, sz25, by25, ze25, fa25_0, Tryz.underlying26, sz26, by26, ze26, Tryz.underlying28, sz28, by28, ze28, fa28_0, fa28_1, fa28_2, fa28_3, Tryz.underlying40, sz40, by40, ze40, fa40_0, fa40_1, fa40_2, fa40_3, fa40_4, fa40_5, Tryz.underlying41, sz41, by41, ze41, Tryz.underlying51, sz51, by51, ze51, Tryz.underlying63, sz63, by63, ze63, fa63_0, fa63_1, fa63_2, fa63_3, fa63_4, fa63_5, fa63_6, fa63_7, Tryz.underlying76, sz76, by76, ze76, Tryz.underlying78, sz78, by78, ze78, fa78_0, fa78_1, fa78_2, fa78_3, Tryz.underlying82, sz82, by82, ze82, planAt, go_sem, ↓reduceIte, reduceCtorEq, Nat.reduceEqDiff, Nat.reduceLT, ↓all_qV, Int.reduceToNat, Int.reduceLT, Int.reduceLE, Nat.reduceAdd, Nat.reduceLeDiff, Nat.reduceMul, ev_callG, gcallK_b, gcallK_w, callGc_true, callGc_false]
    refine AWp.seqc (T := plan0) ?_
    simp (config := {maxSteps := 1000000}) only [Ψa, Nat.reduceBEq, List.take_succ_cons, List.take_nil, Tryz.underlying1, sz1, by1, ze1, Tryz.underlying2, sz2, by2, ze2, Tryz.underlying3, sz3, by3, ze3, Tryz.underlying4, sz4, by4, ze4, Tryz.underlying9, sz9, by9, ze9, Tryz.underlying23, sz23, by23, ze23, Tryz.underlying25, sz25, by25, ze25, fa25_0, Tryz.underlying26, sz26, by26, ze26, Tryz.underlying28, sz28, by28, ze28, fa28_0, fa28_1, fa28_2, fa28_3, Tryz.underlying40, sz40, by40, ze40, fa40_0, fa40_1, fa40_2, fa40_3, fa40_4, fa40_5, Tryz.underlying41, sz41, by41, ze41, Tryz.underlying51, sz51, by51, ze51, Tryz.underlying63, sz63, by63, ze63, fa63_0, fa63_1, fa63_2, fa63_3, fa63_4, fa63_5, fa63_6, fa63_7, Tryz.underlying76, sz76, by76, ze76, Tryz.underlying78, sz78, by78, ze78, fa78_0, fa78_1, fa78_2, fa78_3, Tryz.underlying82, sz82, by82, ze82, plan0, go_sem, ↓reduceIte, reduceCtorEq, Nat.reduceEqDiff, Nat.reduceLT, ↓all_qV, Int.reduceToNat, Int.reduceLT, Int.reduceLE, Nat.reduceAdd, Nat.reduceLeDiff, Nat.reduceMul, ev_callG, gcallK_b, gcallK_w, callGc_true, callGc_false]
    refine psiObj_run (key := 1000064) (fs := [.sl (l.map psV), .int .i64 en, .int .i64 day]) (es := o2.map psV) (args := [.int .i64 130, .int .i64 510, .int .i64 p, .int .i64 1000000]) (es' := (addP l.length en day 130 510 p 1000000 o2).map psV)
      (by simp [hget, objC]) (by simp [hget]) (by decide) rfl (fun a ha => ?_) rfl ⟨l, o2, en, day, 130, 510, p, 1000000, rfl, rfl, rfl, by omega, by omega, by omega, by omega⟩ postP_eq flat_ps ?_
    · simp only [List.mem_cons, List.not_mem_nil, or_false] at ha
      rcases ha with rfl | rfl | rfl | rfl <;> trivial
    have hn3 := addP_len (n := l.length) (en := en) (day := day) (db := 130) (cr := 510) (am := p) (re := 1000000) (o := o2)
    obtain ⟨o3, ho3⟩ : ∃ o, addP l.length en day 130 510 p 1000000 o2 = o := ⟨_, rfl⟩
    rw [ho3] at hn3 ⊢
    refine AWp.here (T := planAt 24) (α := Unit) (fun _ => ([(1, .pv (.int .i64 en)), (2, .pv (.int .i64 day)), (4, .ptr 4 0), (7, .ptr 7 0), (12, .pv (.int .i64 (provF cl day).1)), (14, .pv (.int .i64 (sumI (cl.map openF)))), (17, .ptr 64 0)],
      [(4, .cells [.pv (.sl (l.map psV))]), (7, .cells [.pv (.int .i64 i), .pv (.int .i64 u), .pv (.int .i64 p), .pv (.sl cl)]), (64, .cells (objC [.sl (l.map psV), .int .i64 en, .int .i64 day] 1000064 o3.length)), (1000064, .row 8 (o3.map psV))])) (fun _ => True)
      ⟨(), trivial, ⟨by simp [fitR, look, upd, killR, AV.kill], by simp [fitH, hget, hset, killH, objC, ABlk.kill, AV.killL, AV.kill], rfl, rfl, rfl⟩⟩ ?_
    intro _ _
    simp (config := {maxSteps := 1000000}) only [Nat.reduceBEq, List.take_succ_cons, List.take_nil, Tryz.underlying1, sz1, by1, ze1, Tryz.underlying2, sz2, by2, ze2, Tryz.underlying3, sz3, by3, ze3, Tryz.underlying4, sz4, by4, ze4, Tryz.underlying9, sz9, by9, ze9, Tryz.underlying23, sz23, by23, ze23, Tryz.underlying25, sz25, by25, ze25, fa25_0, Tryz.underlying26, sz26, by26, ze26, Tryz.underlying28, sz28, by28, ze28, fa28_0, fa28_1, fa28_2, fa28_3, Tryz.underlying40, sz40, by40, ze40, fa40_0, fa40_1, fa40_2, fa40_3, fa40_4, fa40_5, Tryz.underlying41, sz41, by41, ze41, Tryz.underlying51, sz51, by51, ze51, Tryz.underlying63, sz63, by63, ze63, fa63_0, fa63_1, fa63_2, fa63_3, fa63_4, fa63_5, fa63_6, fa63_7, Tryz.underlying76, sz76, by76, ze76, Tryz.underlying78, sz78, by78, ze78, fa78_0, fa78_1, fa78_2, fa78_3, Tryz.underlying82, sz82, by82, ze82, planAt, go_sem, ↓reduceIte, reduceCtorEq, Nat.reduceEqDiff, Nat.reduceLT, ↓all_qV, Int.reduceToNat, Int.reduceLT, Int.reduceLE, Nat.reduceAdd, Nat.reduceLeDiff, Nat.reduceMul, ev_callG, gcallK_b, gcallK_w, callGc_true, callGc_false]
    refine AWp.seqc (T := plan0) ?_
    simp (config := {maxSteps := 1000000}) only [Ψa, wneg, Nat.reduceBEq, List.take_succ_cons, List.take_nil, Tryz.underlying1, sz1, by1, ze1, Tryz.underlying2, sz2, by2, ze2, Tryz.underlying3, sz3, by3, ze3, Tryz.underlying4, sz4, by4, ze4, Tryz.underlying9, sz9, by9, ze9, Tryz.underlying23, sz23, by23, ze23, Tryz.underlying25, sz25, by25, ze25, fa25_0, Tryz.underlying26, sz26, by26, ze26, Tryz.underlying28, sz28, by28, ze28, fa28_0, fa28_1, fa28_2, fa28_3, Tryz.underlying40, sz40, by40, ze40, fa40_0, fa40_1, fa40_2, fa40_3, fa40_4, fa40_5, Tryz.underlying41, sz41, by41, ze41, Tryz.underlying51, sz51, by51, ze51, Tryz.underlying63, sz63, by63, ze63, fa63_0, fa63_1, fa63_2, fa63_3, fa63_4, fa63_5, fa63_6, fa63_7, Tryz.underlying76, sz76, by76, ze76, Tryz.underlying78, sz78, by78, ze78, fa78_0, fa78_1, fa78_2, fa78_3, Tryz.underlying82, sz82, by82, ze82, plan0, go_sem, ↓reduceIte, reduceCtorEq, Nat.reduceEqDiff, Nat.reduceLT, ↓all_qV, Int.reduceToNat, Int.reduceLT, Int.reduceLE, Nat.reduceAdd, Nat.reduceLeDiff, Nat.reduceMul, ev_callG, gcallK_b, gcallK_w, callGc_true, callGc_false]
    refine psiObj_run (key := 1000064) (fs := [.sl (l.map psV), .int .i64 en, .int .i64 day]) (es := o3.map psV) (args := [.int .i64 120, .int .i64 (sumI (cl.map openF)), .int .i64 420]) (es' := (addP l.length en day 120 420 (sumI (cl.map openF) - accOf l en 120 day) 0 o3).map psV)
      (by simp [hget, objC]) (by simp [hget]) (by decide) rfl (fun a ha => ?_) rfl ⟨l, o3, en, day, 120, sumI (cl.map openF), 420, rfl, rfl, rfl, by omega, by omega, by omega, by omega⟩ bringP_eq flat_ps ?_
    · simp only [List.mem_cons, List.not_mem_nil, or_false] at ha
      rcases ha with rfl | rfl | rfl <;> trivial
    have hn4 := addP_len (n := l.length) (en := en) (day := day) (db := 120) (cr := 420) (am := sumI (cl.map openF) - accOf l en 120 day) (re := 0) (o := o3)
    obtain ⟨o4, ho4⟩ : ∃ o, addP l.length en day 120 420 (sumI (cl.map openF) - accOf l en 120 day) 0 o3 = o := ⟨_, rfl⟩
    rw [ho4] at hn4 ⊢
    refine AWp.here (T := planAt 25) (α := Unit) (fun _ => ([(1, .pv (.int .i64 en)), (2, .pv (.int .i64 day)), (4, .ptr 4 0), (7, .ptr 7 0), (12, .pv (.int .i64 (provF cl day).1)), (14, .pv (.int .i64 (sumI (cl.map openF)))), (17, .ptr 64 0)],
      [(4, .cells [.pv (.sl (l.map psV))]), (7, .cells [.pv (.int .i64 i), .pv (.int .i64 u), .pv (.int .i64 p), .pv (.sl cl)]), (64, .cells (objC [.sl (l.map psV), .int .i64 en, .int .i64 day] 1000064 o4.length)), (1000064, .row 8 (o4.map psV))])) (fun _ => True)
      ⟨(), trivial, ⟨by simp [fitR, look, upd, killR, AV.kill], by simp [fitH, hget, hset, killH, objC, ABlk.kill, AV.killL, AV.kill], rfl, rfl, rfl⟩⟩ ?_
    intro _ _
    simp (config := {maxSteps := 1000000}) only [Nat.reduceBEq, List.take_succ_cons, List.take_nil, Tryz.underlying1, sz1, by1, ze1, Tryz.underlying2, sz2, by2, ze2, Tryz.underlying3, sz3, by3, ze3, Tryz.underlying4, sz4, by4, ze4, Tryz.underlying9, sz9, by9, ze9, Tryz.underlying23, sz23, by23, ze23, Tryz.underlying25, sz25, by25, ze25, fa25_0, Tryz.underlying26, sz26, by26, ze26, Tryz.underlying28, sz28, by28, ze28, fa28_0, fa28_1, fa28_2, fa28_3, Tryz.underlying40, sz40, by40, ze40, fa40_0, fa40_1, fa40_2, fa40_3, fa40_4, fa40_5, Tryz.underlying41, sz41, by41, ze41, Tryz.underlying51, sz51, by51, ze51, Tryz.underlying63, sz63, by63, ze63, fa63_0, fa63_1, fa63_2, fa63_3, fa63_4, fa63_5, fa63_6, fa63_7, Tryz.underlying76, sz76, by76, ze76, Tryz.underlying78, sz78, by78, ze78, fa78_0, fa78_1, fa78_2, fa78_3, Tryz.underlying82, sz82, by82, ze82, planAt, go_sem, ↓reduceIte, reduceCtorEq, Nat.reduceEqDiff, Nat.reduceLT, ↓all_qV, Int.reduceToNat, Int.reduceLT, Int.reduceLE, Nat.reduceAdd, Nat.reduceLeDiff, Nat.reduceMul, ev_callG, gcallK_b, gcallK_w, callGc_true, callGc_false]
    refine AWp.seqc (T := plan0) ?_
    simp (config := {maxSteps := 1000000}) only [Ψa, wneg, Nat.reduceBEq, List.take_succ_cons, List.take_nil, Tryz.underlying1, sz1, by1, ze1, Tryz.underlying2, sz2, by2, ze2, Tryz.underlying3, sz3, by3, ze3, Tryz.underlying4, sz4, by4, ze4, Tryz.underlying9, sz9, by9, ze9, Tryz.underlying23, sz23, by23, ze23, Tryz.underlying25, sz25, by25, ze25, fa25_0, Tryz.underlying26, sz26, by26, ze26, Tryz.underlying28, sz28, by28, ze28, fa28_0, fa28_1, fa28_2, fa28_3, Tryz.underlying40, sz40, by40, ze40, fa40_0, fa40_1, fa40_2, fa40_3, fa40_4, fa40_5, Tryz.underlying41, sz41, by41, ze41, Tryz.underlying51, sz51, by51, ze51, Tryz.underlying63, sz63, by63, ze63, fa63_0, fa63_1, fa63_2, fa63_3, fa63_4, fa63_5, fa63_6, fa63_7, Tryz.underlying76, sz76, by76, ze76, Tryz.underlying78, sz78, by78, ze78, fa78_0, fa78_1, fa78_2, fa78_3, Tryz.underlying82, sz82, by82, ze82, plan0, go_sem, ↓reduceIte, reduceCtorEq, Nat.reduceEqDiff, Nat.reduceLT, ↓all_qV, Int.reduceToNat, Int.reduceLT, Int.reduceLE, Nat.reduceAdd, Nat.reduceLeDiff, Nat.reduceMul, ev_callG, gcallK_b, gcallK_w, callGc_true, callGc_false]
    refine psiObj_run (key := 1000064) (fs := [.sl (l.map psV), .int .i64 en, .int .i64 day]) (es := o4.map psV) (args := [.int .i64 119, .int .i64 (-(provF cl day).1), .int .i64 530]) (es' := (addP l.length en day 119 530 (-(provF cl day).1 - accOf l en 119 day) 0 o4).map psV)
      (by simp [hget, objC]) (by simp [hget]) (by decide) rfl (fun a ha => ?_) rfl ⟨l, o4, en, day, 119, -(provF cl day).1, 530, rfl, rfl, rfl, by omega, by omega, by omega, by omega⟩ bringP_eq flat_ps ?_
    · simp only [List.mem_cons, List.not_mem_nil, or_false] at ha
      rcases ha with rfl | rfl | rfl <;> trivial
    have hn5 := addP_len (n := l.length) (en := en) (day := day) (db := 119) (cr := 530) (am := -(provF cl day).1 - accOf l en 119 day) (re := 0) (o := o4)
    obtain ⟨o5, ho5⟩ : ∃ o, addP l.length en day 119 530 (-(provF cl day).1 - accOf l en 119 day) 0 o4 = o := ⟨_, rfl⟩
    rw [ho5] at hn5 ⊢
    refine AWp.here (T := planAt 999) (α := Unit) (fun _ => ([(1, .pv (.int .i64 en)), (2, .pv (.int .i64 day)), (4, .ptr 4 0), (7, .ptr 7 0), (12, .pv (.int .i64 (provF cl day).1)), (14, .pv (.int .i64 (sumI (cl.map openF)))), (17, .ptr 64 0)],
      [(4, .cells [.pv (.sl (l.map psV))]), (7, .cells [.pv (.int .i64 i), .pv (.int .i64 u), .pv (.int .i64 p), .pv (.sl cl)]), (64, .cells (objC [.sl (l.map psV), .int .i64 en, .int .i64 day] 1000064 o5.length)), (1000064, .row 8 (o5.map psV))])) (fun _ => True)
      ⟨(), trivial, ⟨by simp [fitR, look, upd, killR, AV.kill], by simp [fitH, hget, hset, killH, objC, ABlk.kill, AV.killL, AV.kill], rfl, rfl, rfl⟩⟩ ?_
    intro _ _
    have ho : outA l en day ⟨i, u, p, cl⟩ = o5 := by unfold outA; simp only; rw [ho1, ho2, ho3, ho4, ho5]
    have tk : (o5.map psV).take o5.length = o5.map psV := List.take_of_length_le (by simp)
    have hgoal : adjF l en day ⟨i, u, p, cl⟩ = bif o5.any (fun x => !vldM x.am) then ([], 2) else bif decide (400 < (l.length : Int) + o5.length) then ([], 3) else (o5, 0) := by
      unfold adjF
      rw [h1, h2, h3, h4, h5, ho]; rfl
    rw [hgoal]
    have w3 : IntKind.i64.wrap ((l.length : Int) + o5.length) = (l.length : Int) + o5.length := i64_in _ (by omega)
    simp (config := {maxSteps := 1000000}) only [Ψa, objC, tk, w3, map_psOf, qF2, List.map_cons, List.map_nil, List.cons_append, List.nil_append, List.length_map, k_adjS_15, ackS, on_p_eq, k_adjS_41, lchkS, k_adjS_42, llastS, k_adjS_45, ctS, on_lp_eq, k_adjS_46, adj1S, Nat.reduceBEq, List.take_succ_cons, List.take_nil, Tryz.underlying1, sz1, by1, ze1, Tryz.underlying2, sz2, by2, ze2, Tryz.underlying3, sz3, by3, ze3, Tryz.underlying4, sz4, by4, ze4, Tryz.underlying9, sz9, by9, ze9, Tryz.underlying23, sz23, by23, ze23, Tryz.underlying25, sz25, by25, ze25, fa25_0, Tryz.underlying26, sz26, by26, ze26, Tryz.underlying28, sz28, by28, ze28, fa28_0, fa28_1, fa28_2, fa28_3, Tryz.underlying40, sz40, by40, ze40, fa40_0, fa40_1, fa40_2, fa40_3, fa40_4, fa40_5, Tryz.underlying41, sz41, by41, ze41, Tryz.underlying51, sz51, by51, ze51, Tryz.underlying63, sz63, by63, ze63, fa63_0, fa63_1, fa63_2, fa63_3, fa63_4, fa63_5, fa63_6, fa63_7, Tryz.underlying76, sz76, by76, ze76, Tryz.underlying78, sz78, by78, ze78, fa78_0, fa78_1, fa78_2, fa78_3, Tryz.underlying82, sz82, by82, ze82, planAt, go_sem, ↓reduceIte, reduceCtorEq, Nat.reduceEqDiff, Nat.reduceLT, ↓all_qV, Int.reduceToNat, Int.reduceLT, Int.reduceLE, Nat.reduceAdd, Nat.reduceLeDiff, Nat.reduceMul, ev_callG, gcallK_b, gcallK_w, callGc_true, callGc_false]
    refine ⟨⟨Nat.le_refl _, ⟨o5, rfl⟩, by omega⟩, fun h6 => by rw [h6]; rfl, fun h6 => ?_⟩
    refine ⟨by kernel_rfl, fun h7 => by rw [h6, h7]; rfl, fun h7 => ⟨Nat.le_refl _, by rw [h6, h7]; rfl⟩⟩
noncomputable def AB (g : FuncId) : PSpec := (putΦ AA 20 adjS) g
theorem hAB : TabSound GG AB := (hAA.put w_adjS)
end Go.AM
