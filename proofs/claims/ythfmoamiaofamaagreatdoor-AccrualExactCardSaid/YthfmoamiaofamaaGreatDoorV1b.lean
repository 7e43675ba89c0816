/-
  A part of a proof: see the last text of this claim for what is proved.
-/
import Derived.Test.YthfmoamiaofamaaGreatDoorVA
import Derived.Test.YthfmoamiaofamaaGreatDoorNE
import Derived.Test.YthfmoamiaofamaaGreatDoorZMa
/-! the reference of accrual: Adjust, Close -/
namespace Go.AM
open Go Go.Proofs Go.IntWalk
set_option maxRecDepth 100000
set_option maxHeartbeats 4000000
set_option linter.unusedSimpArgs false
set_option linter.unusedVariables false
theorem AWp.join {C : Ctx} {T : Plan} {c : Code} {Q : AX → ASt → Prop} {G : Prop} {α : Type} (I : α → List (Nat × AV) × AHeap) (P : α → Prop)
    (main : (∀ z st, P z → Fits C.pins (I z).1 (I z).2 st → AWp C c Q st) → G) (rest : ∀ z, P z → wpc C T c Q ⟨look (I z).1, (I z).2⟩) : G := main (fun z _ hz h => AWp.here I P ⟨z, hz, h⟩ rest)
theorem lastD_nn {l : List Pst} (h : lkF l = 0) : 0 ≤ lastD l ∧ lastD l ≤ 36000 := by
  obtain ⟨g1, g2, _⟩ := lkF_ok h
  unfold lastD
  by_cases hn : 0 < (l.length : Int)
  · rw [show decide (0 < (l.length : Int)) = true from decide_eq_true hn, cond_true]
    have := pB_parts (g2 _ (mem_getD' (show l.length - 1 < l.length by omega)))
    omega
  · rw [show decide (0 < (l.length : Int)) = false from decide_eq_false hn, cond_false]; omega
/-- One line of what is to be posted. -/
structure Row4 where
  db : Int
  cr : Int
  am : Int
  re : Int
def rowsA (l : List Pst) (en day : Int) (c : Clo) : List Row4 :=
  [⟨520, 220, c.i, 1000000⟩, ⟨510, 210, c.u, 1000000⟩, ⟨130, 510, c.p, 1000000⟩, ⟨120, 420, sumI (c.cl.map openF) - accOf l en 120 day, 0⟩, ⟨119, 530, -(provF c.cl day).1 - accOf l en 119 day, 0⟩]
def posF (n en day : Int) : List Row4 → List Pst → List Pst
  | [], o => o
  | r :: rs, o => posF n en day rs (addP n en day r.db r.cr r.am r.re o)
theorem posF_app (n en day : Int) : ∀ (a b : List Row4) (o : List Pst), posF n en day (a ++ b) o = posF n en day b (posF n en day a o)
  | [], b, o => rfl
  | r :: a, b, o => by rw [List.cons_append, posF, posF_app n en day a b, posF]
theorem outA_pos {l : List Pst} {en day : Int} {c : Clo} : outA l en day c = posF l.length en day (rowsA l en day c) [] := rfl
def bigA (r : Row4) : Bool := decide (1000000000000 < r.am) || decide (r.am < -1000000000000)
theorem addP_any {n en day db cr am re : Int} {o : List Pst} : (addP n en day db cr am re o).any (fun x => !vldM x.am) = (o.any (fun x => !vldM x.am) || bigA ⟨db, cr, am, re⟩) := by
  unfold addP postL bigA
  rw [List.any_append]
  congr 1
  by_cases h1 : am < 0
  · rw [decide_eq_true h1, cond_true, List.any_cons, List.any_nil, Bool.or_false]
    unfold vldM
    rw [Bool.eq_iff_iff]
    simp
    omega
  · rw [decide_eq_false h1, cond_false]
    by_cases h2 : 0 < am
    · rw [decide_eq_true h2, cond_true, List.any_cons, List.any_nil, Bool.or_false]
      unfold vldM
      rw [Bool.eq_iff_iff]
      simp
      omega
    · rw [decide_eq_false h2, cond_false, List.any_nil]
      rw [Bool.eq_iff_iff]
      simp
      omega
theorem posF_any (n en day : Int) : ∀ (rs : List Row4) (o : List Pst), (posF n en day rs o).any (fun x => !vldM x.am) = (o.any (fun x => !vldM x.am) || rs.any bigA)
  | [], o => by simp [posF]
  | r :: rs, o => by rw [posF, posF_any n en day rs, addP_any, List.any_cons, Bool.or_assoc]
theorem rofF_acc {l : List Pst} {en ac day : Int} (h : clsI ac ≠ 0) : rofF l en ac day = accOf l en ac day := by
  unfold rofF accOf
  have : (clsI ac == 0) = false := by simpa using h
  rw [this, Bool.or_false]
def rowC (l : List Pst) (en day : Int) (c : Clo) : List PV :=
  [.int .i64 520, .int .i64 220, .int .i64 c.i, .int .i64 1000000, .int .i64 510, .int .i64 210, .int .i64 c.u, .int .i64 1000000, .int .i64 130, .int .i64 510, .int .i64 c.p, .int .i64 1000000,
   .int .i64 120, .int .i64 420, .int .i64 (sumI (c.cl.map openF) - accOf l en 120 day), .int .i64 0, .int .i64 119, .int .i64 530, .int .i64 (-(provF c.cl day).1 - accOf l en 119 day), .int .i64 0]
theorem rowC_at {l : List Pst} {en day : Int} {c : Clo} {k : Nat} (h : k < 5) : ∃ r : Row4, rowsA l en day c = (rowsA l en day c).take k ++ r :: (rowsA l en day c).drop (k + 1) ∧ (rowsA l en day c).take (k + 1) = (rowsA l en day c).take k ++ [r] ∧ ((rowC l en day c).drop (k * 4)).take 4 = [.int .i64 r.db, .int .i64 r.cr, .int .i64 r.am, .int .i64 r.re] ∧ (r.am = c.i ∨ r.am = c.u ∨ r.am = c.p ∨ r.am = sumI (c.cl.map openF) - accOf l en 120 day ∨ r.am = -(provF c.cl day).1 - accOf l en 119 day) := by
  have : k = 0 ∨ k = 1 ∨ k = 2 ∨ k = 3 ∨ k = 4 := by omega
  rcases this with rfl | rfl | rfl | rfl | rfl
  · exact ⟨⟨520, 220, c.i, 1000000⟩, rfl, rfl, rfl, .inl rfl⟩
  · exact ⟨⟨510, 210, c.u, 1000000⟩, rfl, rfl, rfl, .inr (.inl rfl)⟩
  · exact ⟨⟨130, 510, c.p, 1000000⟩, rfl, rfl, rfl, .inr (.inr (.inl rfl))⟩
  · exact ⟨⟨120, 420, sumI (c.cl.map openF) - accOf l en 120 day, 0⟩, rfl, rfl, rfl, .inr (.inr (.inr (.inl rfl)))⟩
  · exact ⟨⟨119, 530, -(provF c.cl day).1 - accOf l en 119 day, 0⟩, rfl, rfl, rfl, .inr (.inr (.inr (.inr rfl)))⟩
def planA : Plan := { keep := fun _ => none, cut := fun _ => false, stop := fun i => i == 12 }
noncomputable def radjS : PSpec := on_piip (fun a _ _ b => isLg a ∧ isClo b) (fun a en day b => .tup [.sl ((adjF (lgOf a) en day (cloOf b)).1.map psV), .int .i64 (adjF (lgOf a) en day (cloOf b)).2])
theorem k_radjS_16 {args : List PV} : BD 16 args = rackS args := rfl
theorem k_radjS_19 {args : List PV} : BD 19 args = rprovS args := rfl
theorem k_radjS_47 {args : List PV} : BD 47 args = rchkS args := rfl
theorem k_radjS_48 {args : List PV} : BD 48 args = rentS args := rfl
theorem k_radjS_49 {args : List PV} : BD 49 args = rofS args := rfl
theorem w_radjS : PSound GG 21 radjS := by
  refine PSound.of_wpc (C := cxP Tryz.prog BD [] 157) (T := planA) Tryz.func21 rfl rfl rfl (Fit.pure (G := GG) hBD mixed) (fun args h => ?_)
  unfold radjS at h
  obtain ⟨a, en, day, b, rfl, hp⟩ := on_piip_inv h
  refine ⟨by simp [cxP], ?_⟩
  simp only [radjS, on_piip_eq, Tryz.f21, argL, planA]
  obtain ⟨⟨l, rfl, hl⟩, ⟨⟨i, u, p, cl⟩, rfl, hc, hcl⟩⟩ := hp
  simp only at hc hcl
  have q1 : decide ((0 : Int) < 0) = false := by decide
  have q2 : IntKind.i64.wrap (0 - 1) = -1 := by decide
  have nf : decide False = false := by simp
  have hdef : (default : PV) = .bool false := rfl
  refine AWp.join (c := ?c1) (Q := ?Q1) (T := planAt 24) (C := cxP Tryz.prog BD [] 157) (fun _ : Unit => ([(1, .pv (.int .i64 en)), (2, .pv (.int .i64 day)), (4, .ptr 4 0), (7, .ptr 7 0), (12, .pv (.int .i64 l.length))],
    [(4, .cells [.pv (.sl (l.map psV))]), (7, .cells [.pv (.int .i64 i), .pv (.int .i64 u), .pv (.int .i64 p), .pv (.sl cl)])])) (fun _ => (lkF l != 0) = false ∧ (ackF ⟨i, u, p, cl⟩ != 0) = false ∧ (!amg en 1 10) = false ∧ (!amg day (lastD l) 36000) = false) (fun main => ?main) ?rest
  case main =>
    have hcond : (lkF l != 0) = false → (decide (day < 0) || decide (36000 < day) || decide (0 < (l.length : Int)) && decide (day < lastD l)) = !amg day (lastD l) 36000 := fun h1 => by
      have h9 := lastD_nn (by simpa using h1)
      have h8 : ¬ 0 < (l.length : Int) → lastD l = 0 := fun h => by unfold lastD; rw [decide_eq_false h]; rfl
      unfold amg
      rw [Bool.eq_iff_iff]
      simp only [Bool.or_eq_true, Bool.and_eq_true, decide_eq_true_eq, Bool.not_eq_true', Bool.and_eq_false_iff, decide_eq_false_iff_not]
      by_cases h7 : 0 < (l.length : Int)
      · constructor <;> intro h <;> omega
      · have := h8 h7
        constructor <;> intro h <;> omega
    cases hn : l.length with
    | zero =>
      have hnil : l = [] := List.length_eq_zero_iff.1 hn
      have hg : (l.map psV).getD (IntKind.i64.wrap (0 - 1)).toNat (PV.bool false) = .bool false := by rw [hnil]; rfl
      rw [hn] at hcond
      simp (config := {maxSteps := 1000000}) only [lgV, lgOf_agg, cloV, cloOf_agg, map_psOf, hg, hn, q1, nf, hdef, List.getD_nil, List.length_map, k_radjS_16, rackS, on_p_eq, k_radjS_19, rprovS, on_li_eq, k_radjS_47, rchkS, k_radjS_48, rentS, on_i_eq, k_radjS_49, rofS, on_piii_eq, List.take_succ_cons, List.take_nil, Tryz.underlying1, sz1, by1, ze1, Tryz.underlying2, sz2, by2, ze2, Tryz.underlying3, sz3, by3, ze3, Tryz.underlying4, sz4, by4, ze4, Tryz.underlying9, sz9, by9, ze9, Tryz.underlying23, sz23, by23, ze23, Tryz.underlying25, sz25, by25, ze25, fa25_0, Tryz.underlying26, sz26, by26, ze26, Tryz.underlying28, sz28, by28, ze28, fa28_0, fa28_1, fa28_2, fa28_3, Tryz.underlying40, sz40, by40, ze40, fa40_0, fa40_1, fa40_2, fa40_3, fa40_4, fa40_5, Tryz.underlying41, sz41, by41, ze41, Tryz.underlying51, sz51, by51, ze51, Tryz.underlying63, sz63, by63, ze63, fa63_0, fa63_1, fa63_2, fa63_3, fa63_4, fa63_5, fa63_6, fa63_7, Tryz.underlying84, sz84, by84, ze84, Tryz.underlying85, sz85, by85, ze85, planA, go_sem, ↓reduceIte, reduceCtorEq, Nat.reduceEqDiff, Nat.reduceLT, ↓all_qV, Int.reduceToNat, Int.reduceLT, Int.reduceLE, Nat.reduceAdd, Nat.reduceLeDiff, Nat.reduceMul, ev_callG, gcallK_b, gcallK_w, callGc_true, callGc_false]
      refine ⟨⟨okL1, l, rfl, hl⟩, fun h1 => (by unfold adjF; rw [h1]; rfl), fun h1 => ⟨⟨okC4, ⟨i, u, p, cl⟩, rfl, hc, hcl⟩, fun h2 => (by unfold adjF; rw [h1, h2]; rfl), fun h2 => ⟨fun h3 => (by unfold adjF; rw [h1, h2, h3]; rfl), fun h3 => ⟨fun h4 => ?_, fun h4 => ?_⟩⟩⟩⟩
      · have h5 := hcond h1
        rw [show decide (0 < ((0 : Nat) : Int)) = false from rfl, Bool.false_and, Bool.or_false] at h5
        rw [h5] at h4
        unfold adjF; rw [h1, h2, h3, h4]; rfl
      · have h5 := hcond h1
        rw [show decide (0 < ((0 : Nat) : Int)) = false from rfl, Bool.false_and, Bool.or_false] at h5
        refine main () _ ⟨h1, h2, h3, ?_⟩ ?_
        · rw [← h5, h4]
        · exact ⟨by simp [fitR, look, upd, hn], by simp [fitH, hget, hset], rfl, rfl, rfl⟩
    | succ k =>
      have w2 : IntKind.i64.wrap (((k + 1 : Nat) : Int) - 1) = (k : Int) := by rw [i64_in _ (by omega)]; omega
      have c1 : decide (0 < ((k + 1 : Nat) : Int)) = true := by simp
      have e1 := getD_ps (l := l) (i := k) (by omega)
      have hlast : lastD l = (l.getD k default).d := by unfold lastD; rw [hn, c1]; rfl
      generalize l.getD k default = y at e1 hlast
      obtain ⟨nu', d', en', db', cr', am', pa', re'⟩ := y
      simp only [psV] at e1
      simp only at hlast
      rw [hn, hlast, c1] at hcond
      simp (config := {maxSteps := 1000000}) only [lgV, lgOf_agg, cloV, cloOf_agg, map_psOf, w2, c1, e1, hn, List.length_map, k_radjS_16, rackS, on_p_eq, k_radjS_19, rprovS, on_li_eq, k_radjS_47, rchkS, k_radjS_48, rentS, on_i_eq, k_radjS_49, rofS, on_piii_eq, List.take_succ_cons, List.take_nil, Tryz.underlying1, sz1, by1, ze1, Tryz.underlying2, sz2, by2, ze2, Tryz.underlying3, sz3, by3, ze3, Tryz.underlying4, sz4, by4, ze4, Tryz.underlying9, sz9, by9, ze9, Tryz.underlying23, sz23, by23, ze23, Tryz.underlying25, sz25, by25, ze25, fa25_0, Tryz.underlying26, sz26, by26, ze26, Tryz.underlying28, sz28, by28, ze28, fa28_0, fa28_1, fa28_2, fa28_3, Tryz.underlying40, sz40, by40, ze40, fa40_0, fa40_1, fa40_2, fa40_3, fa40_4, fa40_5, Tryz.underlying41, sz41, by41, ze41, Tryz.underlying51, sz51, by51, ze51, Tryz.underlying63, sz63, by63, ze63, fa63_0, fa63_1, fa63_2, fa63_3, fa63_4, fa63_5, fa63_6, fa63_7, Tryz.underlying84, sz84, by84, ze84, Tryz.underlying85, sz85, by85, ze85, planA, go_sem, ↓reduceIte, reduceCtorEq, Nat.reduceEqDiff, Nat.reduceLT, ↓all_qV, Int.reduceToNat, Int.reduceLT, Int.reduceLE, Nat.reduceAdd, Nat.reduceLeDiff, Nat.reduceMul, ev_callG, gcallK_b, gcallK_w, callGc_true, callGc_false]
      refine ⟨⟨okL1, l, rfl, hl⟩, fun h1 => (by unfold adjF; rw [h1]; rfl), fun h1 => ⟨⟨okC4, ⟨i, u, p, cl⟩, rfl, hc, hcl⟩, fun h2 => (by unfold adjF; rw [h1, h2]; rfl), fun h2 => ⟨fun h3 => (by unfold adjF; rw [h1, h2, h3]; rfl), fun h3 => ⟨fun _ => by omega, fun h4 => ?_, fun h4 => ?_⟩⟩⟩⟩
      · have h5 := hcond h1
        rw [Bool.true_and] at h5
        rw [h5] at h4
        unfold adjF; rw [h1, h2, h3, hlast, h4]; rfl
      · have h5 := hcond h1
        rw [Bool.true_and] at h5
        refine main () _ ⟨h1, h2, h3, ?_⟩ ?_
        · rw [hlast, ← h5, h4]
        · exact ⟨by simp [fitR, look, upd, hn], by simp [fitH, hget, hset], rfl, rfl, rfl⟩
  case rest =>
    rintro _ ⟨h1, h2, h3, h4⟩
    simp (config := {maxSteps := 1000000}) only [lgV, lgOf_agg, cloV, cloOf_agg, map_psOf, List.length_map, k_radjS_16, rackS, on_p_eq, k_radjS_19, rprovS, on_li_eq, k_radjS_47, rchkS, k_radjS_48, rentS, on_i_eq, k_radjS_49, rofS, on_piii_eq, List.take_succ_cons, List.take_nil, Tryz.underlying1, sz1, by1, ze1, Tryz.underlying2, sz2, by2, ze2, Tryz.underlying3, sz3, by3, ze3, Tryz.underlying4, sz4, by4, ze4, Tryz.underlying9, sz9, by9, ze9, Tryz.underlying23, sz23, by23, ze23, Tryz.underlying25, sz25, by25, ze25, fa25_0, Tryz.underlying26, sz26, by26, ze26, Tryz.underlying28, sz28, by28, ze28, fa28_0, fa28_1, fa28_2, fa28_3, Tryz.underlying40, sz40, by40, ze40, fa40_0, fa40_1, fa40_2, fa40_3, fa40_4, fa40_5, Tryz.underlying41, sz41, by41, ze41, Tryz.underlying51, sz51, by51, ze51, Tryz.underlying63, sz63, by63, ze63, fa63_0, fa63_1, fa63_2, fa63_3, fa63_4, fa63_5, fa63_6, fa63_7, Tryz.underlying84, sz84, by84, ze84, Tryz.underlying85, sz85, by85, ze85, planAt, go_sem, ↓reduceIte, reduceCtorEq, Nat.reduceEqDiff, Nat.reduceLT, ↓all_qV, Int.reduceToNat, Int.reduceLT, Int.reduceLE, Nat.reduceAdd, Nat.reduceLeDiff, Nat.reduceMul, ev_callG, gcallK_b, gcallK_w, callGc_true, callGc_false]
    have g0 : lkF l = 0 := by simpa using h1
    obtain ⟨hl4, hpb, _⟩ := lkF_ok g0
    have hc0 : clsF cl = 0 := by
      have h2' : ackF ⟨i, u, p, cl⟩ = 0 := by simpa using h2
      unfold ackF at h2'
      simp only at h2'
      cases h9 : (clsF cl == 0) with
      | true => simpa using h9
      | false => rw [h9] at h2'; simp only [Bool.false_and, cond_false] at h2'; exact h2'
    obtain ⟨hl6, hok⟩ := cls_ok hc0
    have hv : (0 ≤ i ∧ i ≤ 1000000000000) ∧ (0 ≤ u ∧ u ≤ 1000000000000) ∧ (0 ≤ p ∧ p ≤ 1000000000000) := by
      have h2' : ackF ⟨i, u, p, cl⟩ = 0 := by simpa using h2
      unfold ackF at h2'
      simp only [hc0] at h2'
      cases h9 : (vldM i && vldM u && vldM p) with
      | true =>
        simp only [Bool.and_eq_true, vldM, decide_eq_true_eq] at h9
        exact ⟨h9.1.1, h9.1.2, h9.2⟩
      | false => rw [h9] at h2'; simp at h2'
    have hop : ∀ e, e ∈ cl → 0 ≤ openF e ∧ openF e ≤ 1000000000000 := fun e he => by
      obtain ⟨id, pa, am, op, d, c, rfl, _⟩ := hc e he
      exact (set_le day (hok _ he)).1
    have hopn := open_le cl hop
    have hpl : 0 ≤ (provF cl day).1 ∧ (provF cl day).1 ≤ 1000000000000 * cl.length := by
      unfold provF
      rw [hc0]
      simp only [bne_self_eq_false, cond_false]
      cases h9 : (!amg day 0 36000) with
      | true => simp; omega
      | false => exact sumI_le (fun e he => ⟨hc e he, hok e he⟩)
    have hacc : ∀ ac, -(l.length * 1000000000000 : Int) ≤ accOf l en ac day ∧ accOf l en ac day ≤ l.length * 1000000000000 := fun ac => by
      have := bal_le en 0 day ac l (fun x hx => by have := pB_parts (hpb x hx); omega)
      unfold accOf
      rw [h1, cond_false]; exact this
    have ha1 := hacc 120
    have ha2 := hacc 119
    have f1 : rofF l en 120 day = accOf l en 120 day := rofF_acc (by decide)
    have f2 : rofF l en 119 day = accOf l en 119 day := rofF_acc (by decide)
    refine AWp.loop (T := planAt 24) (α := Nat) (fun k => ([(1, .pv (.int .i64 en)), (2, .pv (.int .i64 day)), (4, .ptr 4 0), (7, .ptr 7 0), (12, .pv (.int .i64 l.length)), (13, .pv (.int .i64 (sumI ((cl.take k).map openF)))), (61, .pv (.sl cl)), (62, .pv (.int .i64 cl.length)), (63, .pv (.int .i64 k))],
        [(4, .cells [.pv (.sl (l.map psV))]), (7, .cells [.pv (.int .i64 i), .pv (.int .i64 u), .pv (.int .i64 p), .pv (.sl cl)])])) (fun k => k ≤ cl.length) (fun k => cl.length - k)
      ⟨0, Nat.zero_le _, ⟨by simp [fitR, look, sumI], by simp [fitH, hget], rfl, rfl, rfl⟩⟩ ?_
    intro k hk
    have hi1 : IntKind.i64.wrap ((k : Int) + 1) = ((k + 1 : Nat) : Int) := by rw [i64_in _ (by omega)]; omega
    by_cases hlt : k < cl.length
    · have c0 : decide ((k : Int) < (cl.length : Int)) = true := by simp; omega
      have hm : cl.getD k default ∈ cl := by rw [List.getD_eq_getElem?_getD, List.getElem?_eq_getElem hlt]; exact List.getElem_mem _
      have hnext : sumI ((cl.take (k + 1)).map openF) = sumI ((cl.take k).map openF) + openF (cl.getD k default) := by
        rw [List.take_add_one, List.map_append, sumI_append]
        simp [List.getElem?_eq_getElem hlt, List.getD_eq_getElem?_getD, sumI]
      have hsm := open_le (cl.take k) (fun e he => hop e (List.mem_of_mem_take he))
      have htl : (cl.take k).length ≤ 60 := by rw [List.length_take]; omega
      have hox := hop _ hm
      obtain ⟨id, pa, am, op, d, c, hg, _⟩ := hc _ hm
      rw [hg] at hnext hox
      have hnext : sumI ((cl.take (k + 1)).map openF) = sumI ((cl.take k).map openF) + op := hnext
      have hox : 0 ≤ op ∧ op ≤ 1000000000000 := hox
      unfold claimV at hg
      generalize sumI ((cl.take k).map openF) = S at hnext hsm ⊢
      have w2 : IntKind.i64.wrap (S + op) = S + op := i64_in _ (by omega)
      simp (config := {maxSteps := 1000000}) only [c0, hg, hi1, w2, Nat.reduceBEq, List.take_succ_cons, List.take_nil, Tryz.underlying1, sz1, by1, ze1, Tryz.underlying2, sz2, by2, ze2, Tryz.underlying3, sz3, by3, ze3, Tryz.underlying4, sz4, by4, ze4, Tryz.underlying9, sz9, by9, ze9, Tryz.underlying23, sz23, by23, ze23, Tryz.underlying25, sz25, by25, ze25, fa25_0, Tryz.underlying26, sz26, by26, ze26, Tryz.underlying28, sz28, by28, ze28, fa28_0, fa28_1, fa28_2, fa28_3, Tryz.underlying40, sz40, by40, ze40, fa40_0, fa40_1, fa40_2, fa40_3, fa40_4, fa40_5, Tryz.underlying41, sz41, by41, ze41, Tryz.underlying51, sz51, by51, ze51, Tryz.underlying63, sz63, by63, ze63, fa63_0, fa63_1, fa63_2, fa63_3, fa63_4, fa63_5, fa63_6, fa63_7, Tryz.underlying84, sz84, by84, ze84, Tryz.underlying85, sz85, by85, ze85, planAt, go_sem, ↓reduceIte, reduceCtorEq, Nat.reduceEqDiff, Nat.reduceLT, ↓all_qV, Int.reduceToNat, Int.reduceLT, Int.reduceLE, Nat.reduceAdd, Nat.reduceLeDiff, Nat.reduceMul, ev_callG, gcallK_b, gcallK_w, callGc_true, callGc_false]
      refine ⟨⟨by omega, by omega⟩, k + 1, by omega, by omega, ⟨by simp [fitR, look, hnext, -List.map_take], by simp [fitH, hget], rfl, rfl, rfl⟩⟩
    · have c0 : decide ((k : Int) < (cl.length : Int)) = false := by simp; omega
      rw [List.take_of_length_le (show cl.length ≤ k by omega)]
      have wneg : IntKind.i64.wrap (0 - (provF cl day).1) = -(provF cl day).1 := by rw [i64_in _ (by omega)]; omega
      have wC : IntKind.i64.wrap (sumI (cl.map openF) - accOf l en 120 day) = sumI (cl.map openF) - accOf l en 120 day := i64_in _ (by omega)
      have wD : IntKind.i64.wrap (-(provF cl day).1 - accOf l en 119 day) = -(provF cl day).1 - accOf l en 119 day := i64_in _ (by omega)
      simp (config := {maxSteps := 1000000}) only [c0, f1, f2, wneg, wC, wD, lgOf_agg, map_psOf, List.length_map, k_radjS_16, rackS, on_p_eq, k_radjS_19, rprovS, on_li_eq, k_radjS_47, rchkS, k_radjS_48, rentS, on_i_eq, k_radjS_49, rofS, on_piii_eq, Nat.reduceBEq, List.take_succ_cons, List.take_nil, Tryz.underlying1, sz1, by1, ze1, Tryz.underlying2, sz2, by2, ze2, Tryz.underlying3, sz3, by3, ze3, Tryz.underlying4, sz4, by4, ze4, Tryz.underlying9, sz9, by9, ze9, Tryz.underlying23, sz23, by23, ze23, Tryz.underlying25, sz25, by25, ze25, fa25_0, Tryz.underlying26, sz26, by26, ze26, Tryz.underlying28, sz28, by28, ze28, fa28_0, fa28_1, fa28_2, fa28_3, Tryz.underlying40, sz40, by40, ze40, fa40_0, fa40_1, fa40_2, fa40_3, fa40_4, fa40_5, Tryz.underlying41, sz41, by41, ze41, Tryz.underlying51, sz51, by51, ze51, Tryz.underlying63, sz63, by63, ze63, fa63_0, fa63_1, fa63_2, fa63_3, fa63_4, fa63_5, fa63_6, fa63_7, Tryz.underlying84, sz84, by84, ze84, Tryz.underlying85, sz85, by85, ze85, planAt, go_sem, ↓reduceIte, reduceCtorEq, Nat.reduceEqDiff, Nat.reduceLT, ↓all_qV, Int.reduceToNat, Int.reduceLT, Int.reduceLE, Nat.reduceAdd, Nat.reduceLeDiff, Nat.reduceMul, ev_callG, gcallK_b, gcallK_w, callGc_true, callGc_false]
      refine ⟨⟨hc, by omega⟩, fun h5 => (by unfold adjF; rw [h1, h2, h3, h4, h5]; rfl), fun h5 => ⟨⟨okL1, l, rfl, hl⟩, ⟨okL1, l, rfl, hl⟩, ?_⟩⟩
      refine AWp.here (T := plan0) (α := Unit) (fun _ => ([(1, .pv (.int .i64 en)), (2, .pv (.int .i64 day)), (7, .ptr 7 0), (12, .pv (.int .i64 l.length)), (18, .pv (.int .i64 (sumI (cl.map openF) - accOf l en 120 day))), (19, .pv (.int .i64 (-(provF cl day).1 - accOf l en 119 day))), (20, .nils)],
        [(7, .cells [.pv (.int .i64 i), .pv (.int .i64 u), .pv (.int .i64 p), .pv (.sl cl)])])) (fun _ => True) ⟨(), trivial, ⟨by simp [fitR, look, upd], by simp [fitH, hget, hset], rfl, rfl, rfl⟩⟩ ?_
      intro _ _
      have hC : -1000000000000000 ≤ sumI (cl.map openF) - accOf l en 120 day ∧ sumI (cl.map openF) - accOf l en 120 day ≤ 1000000000000000 := by omega
      have hD : -1000000000000000 ≤ -(provF cl day).1 - accOf l en 119 day ∧ -(provF cl day).1 - accOf l en 119 day ≤ 1000000000000000 := by omega
      simp (config := {maxSteps := 1000000}) only [Nat.reduceBEq, List.take_succ_cons, List.take_nil, Tryz.underlying1, sz1, by1, ze1, Tryz.underlying2, sz2, by2, ze2, Tryz.underlying3, sz3, by3, ze3, Tryz.underlying4, sz4, by4, ze4, Tryz.underlying9, sz9, by9, ze9, Tryz.underlying23, sz23, by23, ze23, Tryz.underlying25, sz25, by25, ze25, fa25_0, Tryz.underlying26, sz26, by26, ze26, Tryz.underlying28, sz28, by28, ze28, fa28_0, fa28_1, fa28_2, fa28_3, Tryz.underlying40, sz40, by40, ze40, fa40_0, fa40_1, fa40_2, fa40_3, fa40_4, fa40_5, Tryz.underlying41, sz41, by41, ze41, Tryz.underlying51, sz51, by51, ze51, Tryz.underlying63, sz63, by63, ze63, fa63_0, fa63_1, fa63_2, fa63_3, fa63_4, fa63_5, fa63_6, fa63_7, Tryz.underlying84, sz84, by84, ze84, Tryz.underlying85, sz85, by85, ze85, plan0, go_sem, ↓reduceIte, reduceCtorEq, Nat.reduceEqDiff, Nat.reduceLT, ↓all_qV, Int.reduceToNat, Int.reduceLT, Int.reduceLE, Nat.reduceAdd, Nat.reduceLeDiff, Nat.reduceMul, ev_callG, gcallK_b, gcallK_w, callGc_true, callGc_false]
      refine AWp.adoptS (s := 20) (κ := 8000) (k := 8) (by simp [look, upd]) rfl (by decide) ?_
      have hres : adjF l en day ⟨i, u, p, cl⟩ = bif (rowsA l en day ⟨i, u, p, cl⟩).any bigA then ([], 2) else bif decide (400 < (l.length : Int) + (posF l.length en day (rowsA l en day ⟨i, u, p, cl⟩) []).length) then ([], 3) else (posF l.length en day (rowsA l en day ⟨i, u, p, cl⟩) [], 0) := by
        unfold adjF
        rw [h1, h2, h3, h4, h5, outA_pos, posF_any, List.any_nil, Bool.false_or]; rfl
      rw [hres]
      have hrow : ∀ k, k < 5 → _ := fun k hk => rowC_at (l := l) (en := en) (day := day) (c := ⟨i, u, p, cl⟩) hk
      have hlen : (rowsA l en day ⟨i, u, p, cl⟩).length = 5 := rfl
      have hrc : rowC l en day ⟨i, u, p, cl⟩ = _ := rfl
      simp only at hrow
      generalize rowsA l en day ⟨i, u, p, cl⟩ = R at hrow hlen ⊢
      refine AWp.loop (T := plan0) (α := Nat × List Pst) (fun z => ([(1, .pv (.int .i64 en)), (2, .pv (.int .i64 day)), (12, .pv (.int .i64 l.length)), (20, .rs 8000 z.2.length), (108, .pv (.agg (rowC l en day ⟨i, u, p, cl⟩))), (109, .pv (.int .i64 z.1))], [(8000, .row 8 (z.2.map psV))]))
        (fun z => z.1 ≤ 5 ∧ z.2.length ≤ z.1 ∧ z.2 = posF l.length en day (R.take z.1) [] ∧ (R.take z.1).any bigA = false) (fun z => 5 - z.1)
        ⟨(0, []), ⟨Nat.zero_le _, Nat.le_refl _, rfl, rfl⟩, ⟨by simp [fitR, look, upd, rowC], by simp [fitH, hget, hset], rfl, rfl, rfl⟩⟩ ?_
      rintro ⟨k, o⟩ ⟨k1, k2, k3, k4⟩
      simp only at k1 k2 k3 k4
      have hi1 : IntKind.i64.wrap ((k : Int) + 1) = ((k + 1 : Nat) : Int) := by rw [i64_in _ (by omega)]; omega
      by_cases hlt : k < 5
      · have c0 : decide ((k : Int) < 5) = true := by simp; omega
        obtain ⟨⟨db, cr, am, re⟩, r1, r2, r3, r4⟩ := hrow k hlt
        simp only at r3 r4
        have hamb : -1000000000000000 ≤ am ∧ am ≤ 1000000000000000 := by omega
        have wn : IntKind.i64.wrap (0 - am) = -am := by rw [i64_in _ (by omega)]; omega
        have wl : IntKind.i64.wrap ((l.length : Int) + 1) = (l.length : Int) + 1 := i64_in _ (by omega)
        have wl2 : IntKind.i64.wrap ((l.length : Int) + 1 + o.length) = (l.length : Int) + o.length + 1 := by rw [i64_in _ (by omega)]; omega
        have tk : (o.map psV).take o.length = o.map psV := List.take_of_length_le (by simp)
        have hadd : posF l.length en day (R.take (k + 1)) [] = o ++ postL (l.length + o.length + 1) en day db cr am re := by
          rw [r2, posF_app, ← k3]; rfl
        have hbig : (R.take (k + 1)).any bigA = bigA ⟨db, cr, am, re⟩ := by rw [r2, List.any_append, k4]; simp
        have hbad : bigA ⟨db, cr, am, re⟩ = true → R.any bigA = true := fun h => by rw [r1, List.any_append, List.any_cons, h]; simp
        by_cases hneg : am < 0
        · have c1 : decide (am < 0) = true := decide_eq_true hneg
          simp (config := {maxSteps := 1000000}) only [c0, c1, r3, wn, wl, wl2, tk, hi1, indexA, Int.toNat_natCast, List.length_map, Nat.reduceBEq, List.take_succ_cons, List.take_nil, Tryz.underlying1, sz1, by1, ze1, Tryz.underlying2, sz2, by2, ze2, Tryz.underlying3, sz3, by3, ze3, Tryz.underlying4, sz4, by4, ze4, Tryz.underlying9, sz9, by9, ze9, Tryz.underlying23, sz23, by23, ze23, Tryz.underlying25, sz25, by25, ze25, fa25_0, Tryz.underlying26, sz26, by26, ze26, Tryz.underlying28, sz28, by28, ze28, fa28_0, fa28_1, fa28_2, fa28_3, Tryz.underlying40, sz40, by40, ze40, fa40_0, fa40_1, fa40_2, fa40_3, fa40_4, fa40_5, Tryz.underlying41, sz41, by41, ze41, Tryz.underlying51, sz51, by51, ze51, Tryz.underlying63, sz63, by63, ze63, fa63_0, fa63_1, fa63_2, fa63_3, fa63_4, fa63_5, fa63_6, fa63_7, Tryz.underlying84, sz84, by84, ze84, Tryz.underlying85, sz85, by85, ze85, plan0, go_sem, ↓reduceIte, reduceCtorEq, Nat.reduceEqDiff, Nat.reduceLT, ↓all_qV, Int.reduceToNat, Int.reduceLT, Int.reduceLE, Nat.reduceAdd, Nat.reduceLeDiff, Nat.reduceMul, ev_callG, gcallK_b, gcallK_w, callGc_true, callGc_false]
          refine ⟨⟨by omega, by omega, by show k * 4 + 4 ≤ 20; omega⟩, fun h6 => ?_, fun h6 => ⟨fun h7 => ⟨rfl, fun e he => by rw [List.mem_singleton] at he; subst he; rfl, Nat.le_refl _, by omega, by simp only [maxLen]; omega, (k + 1, o ++ [⟨(l.length : Int) + o.length + 1, day, en, cr, db, -am, 0, re⟩]), ⟨by simp only; omega, by simp only [List.length_append, List.length_singleton]; omega, ?_, ?_⟩, by simp only; omega, ⟨by simp [fitR, look], by simp [fitH, hget, psV], rfl, rfl, rfl⟩⟩, fun h7 => ?_⟩⟩
          · have h8 : bigA ⟨db, cr, am, re⟩ = true := by have := of_decide_eq_true h6; unfold bigA; simp; omega
            rw [hbad h8]; rfl
          · simp only
            rw [hadd]; unfold postL; rw [c1]; rfl
          · simp only
            have := of_decide_eq_false h6
            rw [hbig]; unfold bigA; simp; omega
          · have := of_decide_eq_false h7; omega
        · have c1 : decide (am < 0) = false := decide_eq_false hneg
          simp (config := {maxSteps := 1000000}) only [c0, c1, r3, wn, wl, wl2, tk, hi1, indexA, Int.toNat_natCast, List.length_map, Nat.reduceBEq, List.take_succ_cons, List.take_nil, Tryz.underlying1, sz1, by1, ze1, Tryz.underlying2, sz2, by2, ze2, Tryz.underlying3, sz3, by3, ze3, Tryz.underlying4, sz4, by4, ze4, Tryz.underlying9, sz9, by9, ze9, Tryz.underlying23, sz23, by23, ze23, Tryz.underlying25, sz25, by25, ze25, fa25_0, Tryz.underlying26, sz26, by26, ze26, Tryz.underlying28, sz28, by28, ze28, fa28_0, fa28_1, fa28_2, fa28_3, Tryz.underlying40, sz40, by40, ze40, fa40_0, fa40_1, fa40_2, fa40_3, fa40_4, fa40_5, Tryz.underlying41, sz41, by41, ze41, Tryz.underlying51, sz51, by51, ze51, Tryz.underlying63, sz63, by63, ze63, fa63_0, fa63_1, fa63_2, fa63_3, fa63_4, fa63_5, fa63_6, fa63_7, Tryz.underlying84, sz84, by84, ze84, Tryz.underlying85, sz85, by85, ze85, plan0, go_sem, ↓reduceIte, reduceCtorEq, Nat.reduceEqDiff, Nat.reduceLT, ↓all_qV, Int.reduceToNat, Int.reduceLT, Int.reduceLE, Nat.reduceAdd, Nat.reduceLeDiff, Nat.reduceMul, ev_callG, gcallK_b, gcallK_w, callGc_true, callGc_false]
          refine ⟨⟨by omega, by omega, by show k * 4 + 4 ≤ 20; omega⟩, fun h6 => ?_, fun h6 => ⟨fun h7 => ⟨rfl, fun e he => by rw [List.mem_singleton] at he; subst he; rfl, Nat.le_refl _, by omega, by simp only [maxLen]; omega, (k + 1, o ++ [⟨(l.length : Int) + o.length + 1, day, en, db, cr, am, 0, re⟩]), ⟨by simp only; omega, by simp only [List.length_append, List.length_singleton]; omega, ?_, ?_⟩, by simp only; omega, ⟨by simp [fitR, look], by simp [fitH, hget, psV], rfl, rfl, rfl⟩⟩, fun h7 => ⟨(k + 1, o), ⟨by simp only; omega, by simp only; omega, ?_, ?_⟩, by simp only; omega, ⟨by simp [fitR, look], by simp [fitH, hget], rfl, rfl, rfl⟩⟩⟩⟩
          · have h8 : bigA ⟨db, cr, am, re⟩ = true := by have := of_decide_eq_true h6; unfold bigA; simp; omega
            rw [hbad h8]; rfl
          · simp only
            rw [hadd]; unfold postL; rw [c1, h7]; rfl
          · simp only
            have := of_decide_eq_false h6
            rw [hbig]; unfold bigA; simp; omega
          · simp only
            rw [hadd]; unfold postL; rw [c1, h7]; simp
          · simp only
            have := of_decide_eq_false h6
            rw [hbig]; unfold bigA; simp; omega
      · have c0 : decide ((k : Int) < 5) = false := by simp; omega
        have e5 : R.take k = R := List.take_of_length_le (by omega)
        rw [e5] at k3 k4
        rw [k4, ← k3]
        have w3 : IntKind.i64.wrap ((l.length : Int) + o.length) = (l.length : Int) + o.length := i64_in _ (by omega)
        have tk : (o.map psV).take o.length = o.map psV := List.take_of_length_le (by simp)
        simp (config := {maxSteps := 1000000}) only [c0, w3, tk, List.length_map, Nat.reduceBEq, List.take_succ_cons, List.take_nil, Tryz.underlying1, sz1, by1, ze1, Tryz.underlying2, sz2, by2, ze2, Tryz.underlying3, sz3, by3, ze3, Tryz.underlying4, sz4, by4, ze4, Tryz.underlying9, sz9, by9, ze9, Tryz.underlying23, sz23, by23, ze23, Tryz.underlying25, sz25, by25, ze25, fa25_0, Tryz.underlying26, sz26, by26, ze26, Tryz.underlying28, sz28, by28, ze28, fa28_0, fa28_1, fa28_2, fa28_3, Tryz.underlying40, sz40, by40, ze40, fa40_0, fa40_1, fa40_2, fa40_3, fa40_4, fa40_5, Tryz.underlying41, sz41, by41, ze41, Tryz.underlying51, sz51, by51, ze51, Tryz.underlying63, sz63, by63, ze63, fa63_0, fa63_1, fa63_2, fa63_3, fa63_4, fa63_5, fa63_6, fa63_7, Tryz.underlying84, sz84, by84, ze84, Tryz.underlying85, sz85, by85, ze85, plan0, go_sem, ↓reduceIte, reduceCtorEq, Nat.reduceEqDiff, Nat.reduceLT, ↓all_qV, Int.reduceToNat, Int.reduceLT, Int.reduceLE, Nat.reduceAdd, Nat.reduceLeDiff, Nat.reduceMul, ev_callG, gcallK_b, gcallK_w, callGc_true, callGc_false]
        exact ⟨fun h7 => by rw [h7]; rfl, fun h7 => ⟨Nat.le_refl _, by rw [h7]; rfl⟩⟩
noncomputable def BE (g : FuncId) : PSpec := (putΦ BD 21 radjS) g
theorem hBE : TabSound GG BE := (hBD.put w_radjS)
end Go.AM
