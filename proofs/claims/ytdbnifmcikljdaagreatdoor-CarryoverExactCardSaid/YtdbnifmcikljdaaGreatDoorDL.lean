/-
  A part of a proof: see the last text of this claim for what is proved.
-/
import Derived.Test.YtdbnifmcikljdaaGreatDoorDI
import Derived.Test.YtdbnifmcikljdaaGreatDoorZMa
import Derived.Test.YtdbnifmcikljdaaGreatDoorPN
namespace Go.AM
open Go Go.Proofs Go.IntWalk
set_option maxRecDepth 100000
set_option maxHeartbeats 8000000
set_option linter.unusedSimpArgs false
set_option linter.unusedVariables false
def on_lpppsi (p : List PV → PV → PV → PV → List UInt8 → Int → Prop) (f : List PV → PV → PV → PV → List UInt8 → Int → PV) : PSpec
  | [.sl a0, a1, a2, a3, .str a4, .int .i64 a5] => (p a0 a1 a2 a3 a4 a5, f a0 a1 a2 a3 a4 a5)
  | _ => (False, default)
theorem on_lpppsi_eq {p : List PV → PV → PV → PV → List UInt8 → Int → Prop} {f : List PV → PV → PV → PV → List UInt8 → Int → PV} {a0 : List PV} {a1 : PV} {a2 : PV} {a3 : PV} {a4 : List UInt8} {a5 : Int} : on_lpppsi p f [.sl a0, a1, a2, a3, .str a4, .int .i64 a5] = (p a0 a1 a2 a3 a4 a5, f a0 a1 a2 a3 a4 a5) := rfl
theorem on_lpppsi_inv {p : List PV → PV → PV → PV → List UInt8 → Int → Prop} {f : List PV → PV → PV → PV → List UInt8 → Int → PV} {args : List PV} (h : (on_lpppsi p f args).1) : ∃ a0 : List PV, ∃ a1 : PV, ∃ a2 : PV, ∃ a3 : PV, ∃ a4 : List UInt8, ∃ a5 : Int, args = [.sl a0, a1, a2, a3, .str a4, .int .i64 a5] ∧ p a0 a1 a2 a3 a4 a5 := by
  unfold on_lpppsi at h
  split at h
  · exact ⟨_, _, _, _, _, _, rfl, h⟩
  · exact h.elim
def planAt (n : Nat) : Plan := { keep := fun _ => none, cut := fun _ => false, stop := fun i => i == n }
theorem Θ4_sub : ∀ f θ, Θ4 f = some θ → Θ7 f = some θ := by
  intro f θ h
  by_cases e1 : f = 22
  · subst e1; cases h
  by_cases e2 : f = 8
  · subst e2; cases h
  by_cases e3 : f = 7
  · subst e3; cases h
  show (if f = _ then _ else (if f = _ then _ else (if f = _ then _ else _))) = _
  rw [if_neg e1, if_neg e2, if_neg e3]; exact h
theorem runC_codes (l : List Opn) (left : List Lft) : ∀ z, z ∈ (runC l left).2.1 → ∃ w, w ∈ l ∧ z.k = w.k := by
  have key : ∀ (s : List Opn) (z : IM × List Opn × List Opn), (∀ y, y ∈ z.2.1 → ∃ w, w ∈ l ∧ y.k = w.k) → (∀ y, y ∈ s → y ∈ l) → ∀ y, y ∈ (s.foldl stepC z).2.1 → ∃ w, w ∈ l ∧ y.k = w.k := by
    intro s
    induction s with
    | nil => intro z h _ y hy; exact h y hy
    | cons x r ih =>
      intro z h hs
      refine ih (stepC z x) (fun y hy => ?_) (fun y hy => hs y (List.mem_cons_of_mem _ hy))
      simp only [stepC] at hy
      cases hc : decide (0 < covF z.1 x) with
      | false => rw [hc, cond_false] at hy; exact h y hy
      | true =>
        rw [hc, cond_true] at hy
        rcases List.mem_append.1 hy with hy | hy
        · exact h y hy
        · rw [List.mem_singleton] at hy; exact ⟨x, hs x List.mem_cons_self, by rw [hy]⟩
  exact key (isort ltO l) (restI left, [], []) (fun y hy => by cases hy) (fun y hy => (mem_isort ltO).1 hy)
theorem car_any {x : List Opn} {y : List Lft} (hx : x.length ≤ 65) (hxk : ∀ z, z ∈ x → z.k.length ≤ 30) (hy : y.length ≤ 65) : ∃ (R : Car) (E : Int), carF x y = .tup [caV R, .int .i64 E] ∧ R.a.length ≤ 65 ∧ R.b.length ≤ 65 ∧ R.c.length ≤ 65 ∧ ∀ z, z ∈ R.a → z.k.length ≤ 30 := by
  by_cases hc : chkF x y = 0
  · obtain ⟨r1, r2, r3⟩ := rsC_len x y
    refine ⟨rsC x y, 0, carF_ok hc, by omega, by omega, by omega, fun z hz => ?_⟩
    obtain ⟨w, hw, e⟩ := runC_codes x y z hz
    rw [e]; exact hxk w hw
  · exact ⟨⟨[], [], []⟩, chkF x y, carF_bad hc, by simp, by simp, by simp, fun z hz => by cases hz⟩
theorem resG_len : ∀ (l : List Opn) (o : List Lft), (resG l o).length ≤ o.length + l.length
  | [], o => Nat.le_refl _
  | x :: l, o => by
    have h1 := resG_len l (insA x.k x.a o)
    have h2 := insA_len (k := x.k) (a := x.a) (o := o)
    show (resG l (insA x.k x.a o)).length ≤ _
    simp only [List.length_cons]; omega
theorem lin_any (c : Car) (y : Int) : ∃ (L : List Cyl) (E : Int), linF c y = .tup [.sl (L.map cyV), .int .i64 E] ∧ L.length ≤ c.a.length := by
  unfold linF
  cases !amg y 1 100
  case true => exact ⟨[], _, rfl, by simp⟩
  cases decide (60 < (c.a.length : Int))
  case true => exact ⟨[], _, rfl, by simp⟩
  cases (c.a.map opV).any notO
  case true => exact ⟨[], _, rfl, by simp⟩
  cases ((linG y 0 (resA c.a)).map cyV).any notC
  case true => exact ⟨[], _, rfl, by simp⟩
  have := resG_len c.a []
  exact ⟨linG y 0 (resA c.a), _, rfl, by rw [linG_len]; unfold resA; simpa using this⟩
noncomputable def exS : PSpec := on_lpppsi (fun es a b c s _ => (es.length ≤ 9223372036854775807 ∧ ∀ e, e ∈ es → isI e) ∧ (∃ l : List Opn, a = .sl (l.map opV) ∧ l.length ≤ 9223372036854775807) ∧ (∃ l : List Lft, b = .sl (l.map lfV) ∧ l.length ≤ 9223372036854775807) ∧
  (∃ x : Car, c = caV x ∧ x.a.length ≤ 9223372036854775807 ∧ x.b.length ≤ 9223372036854775807 ∧ x.c.length ≤ 9223372036854775807)) (fun _ _ _ _ _ _ => .bool true)
theorem k_exL_4 {args : List PV} : Vb 4 args = smallS args := rfl
theorem k_exL_5 {args : List PV} : Vb 5 args = saneS args := rfl
theorem k_exL_12 {args : List PV} : Vb 12 args = carryG args := rfl
theorem k_exL_13 {args : List PV} : Vb 13 args = rcarS args := rfl
theorem k_exL_14 {args : List PV} : Vb 14 args = checkS args := rfl
theorem k_exL_15 {args : List PV} : Vb 15 args = rchkS args := rfl
theorem k_exL_16 {args : List PV} : Vb 16 args = sameCG args := rfl
theorem k_exL_17 {args : List PV} : Vb 17 args = rightG args := rfl
theorem k_exL_18 {args : List PV} : Vb 18 args = rrigS args := rfl
theorem k_exL_19 {args : List PV} : Vb 19 args = linesG args := rfl
theorem k_exL_20 {args : List PV} : Vb 20 args = rlinS args := rfl
theorem k_exL_21 {args : List PV} : Vb 21 args = rCyG args := rfl
theorem k_exL_23 {args : List PV} : Vb 23 args = sumPW args := rfl
theorem k_exL_24 {args : List PV} : Vb 24 args = sumRW args := rfl
theorem w_exS : PSound GG 3 exS := by
  refine PSound.of_wpc (C := cxQ Tryz.prog Vb Θ7 ΨX [] [] 203) (T := planAt 4) Tryz.func3 rfl rfl rfl (Fit.all (G := GG) hVb hΘ7 hΨX mixed) (fun args h => ?_)
  unfold exS at h
  obtain ⟨es0, a0, b0, c0, text, year, rfl, ⟨he1, he2⟩, ⟨l0, rfl, hl0⟩, ⟨lf0, rfl, hf0⟩, ⟨⟨ca, cb, cc⟩, rfl, hca, hcb, hcc⟩⟩ := on_lpppsi_inv h
  simp only at hca hcb hcc
  refine ⟨by simp [cxQ], ?_⟩
  simp (config := {maxSteps := 1000000}) only [exS, on_lpppsi_eq, k_exL_4, smallS, on_ll_eq, k_exL_5, saneS, on__eq, k_exL_12, carryG, k_exL_13, rcarS, k_exL_14, checkS, k_exL_15, rchkS, k_exL_16, sameCG, on_pp_eq, k_exL_17, rightG, on_llp_eq, k_exL_18, rrigS, k_exL_19, linesG, on_pi_eq, k_exL_20, rlinS, k_exL_21, rCyG, k_exL_23, sumPW, on_ls_eq, k_exL_24, sumRW, ΨX, Θ7, Θ6, Θ5, Θ4, Θ3, Θ2, Θ1, Ψ1, newS, preT_eq, preO_eq, preL_eq, preC_eq, nS, preN_eq, preR_eq, preP_eq, preX_eq, okP_eq, okX_eq, okN, okR, okC, arg1, arg2, intV, strV, opsV, lfsV, caV, carV, map_opOf, map_lfOf, Nat.reduceBEq, psiNew_eq, List.length_map, List.take_succ_cons, List.take_nil, Tryz.underlying1, sz1, by1, ze1, Tryz.underlying2, sz2, by2, ze2, Tryz.underlying3, sz3, by3, ze3, Tryz.underlying4, sz4, by4, ze4, Tryz.underlying5, sz5, by5, ze5, Tryz.underlying9, sz9, by9, ze9, Tryz.underlying22, sz22, by22, ze22, Tryz.underlying23, sz23, by23, ze23, Tryz.underlying24, sz24, by24, ze24, Tryz.underlying26, sz26, by26, ze26, fa26_0, fa26_1, fa26_2, Tryz.underlying29, sz29, by29, ze29, Tryz.underlying37, sz37, by37, ze37, fa37_0, fa37_1, fa37_2, fa37_3, fa37_4, Tryz.underlying38, sz38, by38, ze38, Tryz.underlying40, sz40, by40, ze40, fa40_0, fa40_1, Tryz.underlying41, sz41, by41, ze41, Tryz.underlying42, sz42, by42, ze42, Tryz.underlying43, sz43, by43, ze43, Tryz.underlying47, sz47, by47, ze47, Tryz.underlying49, sz49, by49, ze49, Tryz.underlying50, sz50, by50, ze50, Tryz.underlying51, sz51, by51, ze51, Tryz.underlying55, sz55, by55, ze55, Tryz.underlying62, sz62, by62, ze62, Tryz.underlying80, sz80, by80, ze80, fa80_0, fa80_1, fa80_2, fa80_3, fa80_4, Tryz.f3, argL, planAt, go_sem, ↓reduceIte, reduceCtorEq, Nat.reduceEqDiff, Nat.reduceLT, ↓all_qVz, ↓all_qVz', Int.reduceToNat, Int.reduceLT, Int.reduceLE, Nat.reduceAdd, Nat.reduceLeDiff, Nat.reduceMul, ev_callG, gcallK_b, gcallK_w, callGc_true, callGc_false]
  refine ⟨⟨⟨_, rfl⟩, ⟨_, rfl⟩, hl0, hf0⟩, fun _ => ⟨⟨_, rfl⟩, ⟨_, rfl⟩, hca, hcc⟩, fun h => by simpa using h, fun _ => ⟨⟨_, rfl⟩, ⟨[], rfl⟩, hcb⟩, fun hsm => ⟨⟨he1, he2⟩, ?_⟩⟩
  simp only [Bool.or_eq_false_iff, Bool.not_eq_false', decide_eq_false_iff_not] at hsm
  obtain ⟨⟨⟨hs1, hs2⟩, hs3⟩, hs4⟩ := hsm
  obtain ⟨n1, n2, n3, n4⟩ := smF_ok hs1
  obtain ⟨m1, m2, m3, m4⟩ := smF_ok hs2
  obtain ⟨q1, _, q3, _⟩ := smF_ok hs3
  clear hs1 hs2 hs3 hl0 hf0 hca hcb hcc he1 he2 h
  have htx : text.length ≤ 30 := by omega
  refine AWp.here (T := planAt 4) (α := Unit) (fun _ => ([(1, .pv (.sl (l0.map opV))), (2, .pv (.sl (lf0.map lfV))), (4, .pv (.str text)), (5, .pv (.int .i64 year)), (9, .ptr 9 0), (13, .ptr 61 0)],
    [(9, .cells [.pv (.sl (ca.map opV)), .pv (.sl (cb.map opV)), .pv (.sl (cc.map lfV))]), (61, .obj Tp)])) (fun _ => True) ⟨(), trivial, ⟨by simp [fitR, look, upd], by simp [fitH, hget, hset], rfl, rfl, rfl⟩⟩ ?_
  intro _ _
  simp (config := {maxSteps := 1000000}) only [planAt, Nat.reduceBEq, go_sem, ↓reduceIte, reduceCtorEq, Nat.reduceEqDiff, Nat.reduceLT, ↓all_qVz, ↓all_qVz', Int.reduceToNat, Int.reduceLT, Int.reduceLE, Nat.reduceAdd, Nat.reduceLeDiff, Nat.reduceMul, ev_callG, gcallK_b, gcallK_w, callGc_true, callGc_false]
  refine AWp.seqa (AWp.sub (Θ' := Θ7) (Ψ' := Ψ1) (fun f θ h => h) Ψ1_sub (wpc_sound (T := plan0) _ _ _ ?_))
  simp (config := {maxSteps := 1000000}) only [ΨX, Θ7, Θ6, Θ5, Θ4, Θ3, Θ2, Θ1, Ψ1, newS, preT_eq, preO_eq, preL_eq, preC_eq, nS, preN_eq, preR_eq, preP_eq, preX_eq, okP_eq, okX_eq, okN, okR, okC, arg1, arg2, intV, strV, opsV, lfsV, caV, carV, map_opOf, map_lfOf, Nat.reduceBEq, psiNew_eq, List.length_map, List.take_succ_cons, List.take_nil, Tryz.underlying1, sz1, by1, ze1, Tryz.underlying2, sz2, by2, ze2, Tryz.underlying3, sz3, by3, ze3, Tryz.underlying4, sz4, by4, ze4, Tryz.underlying5, sz5, by5, ze5, Tryz.underlying9, sz9, by9, ze9, Tryz.underlying22, sz22, by22, ze22, Tryz.underlying23, sz23, by23, ze23, Tryz.underlying24, sz24, by24, ze24, Tryz.underlying26, sz26, by26, ze26, fa26_0, fa26_1, fa26_2, Tryz.underlying29, sz29, by29, ze29, Tryz.underlying37, sz37, by37, ze37, fa37_0, fa37_1, fa37_2, fa37_3, fa37_4, Tryz.underlying38, sz38, by38, ze38, Tryz.underlying40, sz40, by40, ze40, fa40_0, fa40_1, Tryz.underlying41, sz41, by41, ze41, Tryz.underlying42, sz42, by42, ze42, Tryz.underlying43, sz43, by43, ze43, Tryz.underlying47, sz47, by47, ze47, Tryz.underlying49, sz49, by49, ze49, Tryz.underlying50, sz50, by50, ze50, Tryz.underlying51, sz51, by51, ze51, Tryz.underlying55, sz55, by55, ze55, Tryz.underlying62, sz62, by62, ze62, Tryz.underlying80, sz80, by80, ze80, fa80_0, fa80_1, fa80_2, fa80_3, fa80_4, plan0, go_sem, ↓reduceIte, reduceCtorEq, Nat.reduceEqDiff, Nat.reduceLT, ↓all_qVz, ↓all_qVz', Int.reduceToNat, Int.reduceLT, Int.reduceLE, Nat.reduceAdd, Nat.reduceLeDiff, Nat.reduceMul, ev_callG, gcallK_b, gcallK_w, callGc_true, callGc_false]
  intro own hown
  rw [Stop_eq]
  simp (config := {maxSteps := 1000000}) only [ΨX, Θ7, Θ6, Θ5, Θ4, Θ3, Θ2, Θ1, Ψ1, newS, preT_eq, preO_eq, preL_eq, preC_eq, nS, preN_eq, preR_eq, preP_eq, preX_eq, okP_eq, okX_eq, okN, okR, okC, arg1, arg2, intV, strV, opsV, lfsV, caV, carV, map_opOf, map_lfOf, Nat.reduceBEq, psiNew_eq, List.length_map, List.take_succ_cons, List.take_nil, Tryz.underlying1, sz1, by1, ze1, Tryz.underlying2, sz2, by2, ze2, Tryz.underlying3, sz3, by3, ze3, Tryz.underlying4, sz4, by4, ze4, Tryz.underlying5, sz5, by5, ze5, Tryz.underlying9, sz9, by9, ze9, Tryz.underlying22, sz22, by22, ze22, Tryz.underlying23, sz23, by23, ze23, Tryz.underlying24, sz24, by24, ze24, Tryz.underlying26, sz26, by26, ze26, fa26_0, fa26_1, fa26_2, Tryz.underlying29, sz29, by29, ze29, Tryz.underlying37, sz37, by37, ze37, fa37_0, fa37_1, fa37_2, fa37_3, fa37_4, Tryz.underlying38, sz38, by38, ze38, Tryz.underlying40, sz40, by40, ze40, fa40_0, fa40_1, Tryz.underlying41, sz41, by41, ze41, Tryz.underlying42, sz42, by42, ze42, Tryz.underlying43, sz43, by43, ze43, Tryz.underlying47, sz47, by47, ze47, Tryz.underlying49, sz49, by49, ze49, Tryz.underlying50, sz50, by50, ze50, Tryz.underlying51, sz51, by51, ze51, Tryz.underlying55, sz55, by55, ze55, Tryz.underlying62, sz62, by62, ze62, Tryz.underlying80, sz80, by80, ze80, fa80_0, fa80_1, fa80_2, fa80_3, fa80_4, plan0, go_sem, ↓reduceIte, reduceCtorEq, Nat.reduceEqDiff, Nat.reduceLT, ↓all_qVz, ↓all_qVz', Int.reduceToNat, Int.reduceLT, Int.reduceLE, Nat.reduceAdd, Nat.reduceLeDiff, Nat.reduceMul, ev_callG, gcallK_b, gcallK_w, callGc_true, callGc_false]
  intro rest hrest
  rw [Stop_eq]
  simp (config := {maxSteps := 1000000}) only [ΨX, Θ7, Θ6, Θ5, Θ4, Θ3, Θ2, Θ1, Ψ1, newS, preT_eq, preO_eq, preL_eq, preC_eq, nS, preN_eq, preR_eq, preP_eq, preX_eq, okP_eq, okX_eq, okN, okR, okC, arg1, arg2, intV, strV, opsV, lfsV, caV, carV, map_opOf, map_lfOf, Nat.reduceBEq, psiNew_eq, List.length_map, List.take_succ_cons, List.take_nil, Tryz.underlying1, sz1, by1, ze1, Tryz.underlying2, sz2, by2, ze2, Tryz.underlying3, sz3, by3, ze3, Tryz.underlying4, sz4, by4, ze4, Tryz.underlying5, sz5, by5, ze5, Tryz.underlying9, sz9, by9, ze9, Tryz.underlying22, sz22, by22, ze22, Tryz.underlying23, sz23, by23, ze23, Tryz.underlying24, sz24, by24, ze24, Tryz.underlying26, sz26, by26, ze26, fa26_0, fa26_1, fa26_2, Tryz.underlying29, sz29, by29, ze29, Tryz.underlying37, sz37, by37, ze37, fa37_0, fa37_1, fa37_2, fa37_3, fa37_4, Tryz.underlying38, sz38, by38, ze38, Tryz.underlying40, sz40, by40, ze40, fa40_0, fa40_1, Tryz.underlying41, sz41, by41, ze41, Tryz.underlying42, sz42, by42, ze42, Tryz.underlying43, sz43, by43, ze43, Tryz.underlying47, sz47, by47, ze47, Tryz.underlying49, sz49, by49, ze49, Tryz.underlying50, sz50, by50, ze50, Tryz.underlying51, sz51, by51, ze51, Tryz.underlying55, sz55, by55, ze55, Tryz.underlying62, sz62, by62, ze62, Tryz.underlying80, sz80, by80, ze80, fa80_0, fa80_1, fa80_2, fa80_3, fa80_4, plan0, go_sem, ↓reduceIte, reduceCtorEq, Nat.reduceEqDiff, Nat.reduceLT, ↓all_qVz, ↓all_qVz', Int.reduceToNat, Int.reduceLT, Int.reduceLE, Nat.reduceAdd, Nat.reduceLeDiff, Nat.reduceMul, ev_callG, gcallK_b, gcallK_w, callGc_true, callGc_false]
  have hol : own.length ≤ 8 := by have := hown.1; simp only [arg1] at this; omega
  refine AWp.here (T := planAt 5) (α := Unit) (fun _ => ([(1, .pv (.sl (l0.map opV))), (2, .pv (.sl (lf0.map lfV))), (4, .pv (.str text)), (5, .pv (.int .i64 year)), (9, .ptr 9 0), (13, .ptr 61 0), (14, .pv (.sl (own.map opV))), (15, .pv (.sl (rest.map lfV)))],
    [(9, .cells [.pv (.sl (ca.map opV)), .pv (.sl (cb.map opV)), .pv (.sl (cc.map lfV))]), (61, .obj Tp)])) (fun _ => True) ⟨(), trivial, ⟨by simp [fitR, look, upd], by simp [fitH, hget, hset], rfl, rfl, rfl⟩⟩ ?_
  intro _ _
  simp (config := {maxSteps := 1000000}) only [planAt, Nat.reduceBEq, go_sem, ↓reduceIte, reduceCtorEq, Nat.reduceEqDiff, Nat.reduceLT, ↓all_qVz, ↓all_qVz', Int.reduceToNat, Int.reduceLT, Int.reduceLE, Nat.reduceAdd, Nat.reduceLeDiff, Nat.reduceMul, ev_callG, gcallK_b, gcallK_w, callGc_true, callGc_false]
  refine AWp.seqa (AWp.sub (Θ' := Θ4) (Ψ' := ΨX) Θ4_sub (fun f ψ h => h) (wpc_sound (T := plan0) _ _ _ ?_))
  simp (config := {maxSteps := 1000000}) only [psiT_eq, ΨX, Θ7, Θ6, Θ5, Θ4, Θ3, Θ2, Θ1, Ψ1, newS, preT_eq, preO_eq, preL_eq, preC_eq, nS, preN_eq, preR_eq, preP_eq, preX_eq, okP_eq, okX_eq, okN, okR, okC, arg1, arg2, intV, strV, opsV, lfsV, caV, carV, map_opOf, map_lfOf, Nat.reduceBEq, psiNew_eq, List.length_map, List.take_succ_cons, List.take_nil, Tryz.underlying1, sz1, by1, ze1, Tryz.underlying2, sz2, by2, ze2, Tryz.underlying3, sz3, by3, ze3, Tryz.underlying4, sz4, by4, ze4, Tryz.underlying5, sz5, by5, ze5, Tryz.underlying9, sz9, by9, ze9, Tryz.underlying22, sz22, by22, ze22, Tryz.underlying23, sz23, by23, ze23, Tryz.underlying24, sz24, by24, ze24, Tryz.underlying26, sz26, by26, ze26, fa26_0, fa26_1, fa26_2, Tryz.underlying29, sz29, by29, ze29, Tryz.underlying37, sz37, by37, ze37, fa37_0, fa37_1, fa37_2, fa37_3, fa37_4, Tryz.underlying38, sz38, by38, ze38, Tryz.underlying40, sz40, by40, ze40, fa40_0, fa40_1, Tryz.underlying41, sz41, by41, ze41, Tryz.underlying42, sz42, by42, ze42, Tryz.underlying43, sz43, by43, ze43, Tryz.underlying47, sz47, by47, ze47, Tryz.underlying49, sz49, by49, ze49, Tryz.underlying50, sz50, by50, ze50, Tryz.underlying51, sz51, by51, ze51, Tryz.underlying55, sz55, by55, ze55, Tryz.underlying62, sz62, by62, ze62, Tryz.underlying80, sz80, by80, ze80, fa80_0, fa80_1, fa80_2, fa80_3, fa80_4, plan0, go_sem, ↓reduceIte, reduceCtorEq, Nat.reduceEqDiff, Nat.reduceLT, ↓all_qV, Int.reduceToNat, Int.reduceLT, Int.reduceLE, Nat.reduceAdd, Nat.reduceLeDiff, Nat.reduceMul, ev_callG, gcallK_b, gcallK_w, callGc_true, callGc_false]
  rintro _ _ ⟨rfl, od, rfl, hod⟩
  have hdl : od.length ≤ 3 := by have := hod.1; simp only [arg1] at this; omega
  have tko : (od.map opV).take od.length = od.map opV := List.take_of_length_le (by simp)
  simp (config := {maxSteps := 1000000}) only [wrapA, tko, psiT_eq, ΨX, Θ7, Θ6, Θ5, Θ4, Θ3, Θ2, Θ1, Ψ1, newS, preT_eq, preO_eq, preL_eq, preC_eq, nS, preN_eq, preR_eq, preP_eq, preX_eq, okP_eq, okX_eq, okN, okR, okC, arg1, arg2, intV, strV, opsV, lfsV, caV, carV, map_opOf, map_lfOf, Nat.reduceBEq, psiNew_eq, List.length_map, List.take_succ_cons, List.take_nil, Tryz.underlying1, sz1, by1, ze1, Tryz.underlying2, sz2, by2, ze2, Tryz.underlying3, sz3, by3, ze3, Tryz.underlying4, sz4, by4, ze4, Tryz.underlying5, sz5, by5, ze5, Tryz.underlying9, sz9, by9, ze9, Tryz.underlying22, sz22, by22, ze22, Tryz.underlying23, sz23, by23, ze23, Tryz.underlying24, sz24, by24, ze24, Tryz.underlying26, sz26, by26, ze26, fa26_0, fa26_1, fa26_2, Tryz.underlying29, sz29, by29, ze29, Tryz.underlying37, sz37, by37, ze37, fa37_0, fa37_1, fa37_2, fa37_3, fa37_4, Tryz.underlying38, sz38, by38, ze38, Tryz.underlying40, sz40, by40, ze40, fa40_0, fa40_1, Tryz.underlying41, sz41, by41, ze41, Tryz.underlying42, sz42, by42, ze42, Tryz.underlying43, sz43, by43, ze43, Tryz.underlying47, sz47, by47, ze47, Tryz.underlying49, sz49, by49, ze49, Tryz.underlying50, sz50, by50, ze50, Tryz.underlying51, sz51, by51, ze51, Tryz.underlying55, sz55, by55, ze55, Tryz.underlying62, sz62, by62, ze62, Tryz.underlying80, sz80, by80, ze80, fa80_0, fa80_1, fa80_2, fa80_3, fa80_4, plan0, go_sem, ↓reduceIte, reduceCtorEq, Nat.reduceEqDiff, Nat.reduceLT, ↓all_qV, Int.reduceToNat, Int.reduceLT, Int.reduceLE, Nat.reduceAdd, Nat.reduceLeDiff, Nat.reduceMul, ev_callG, gcallK_b, gcallK_w, callGc_true, callGc_false]
  refine fun x1 _ x2 _ => ⟨fun e he => ?_, fun x3 hx3 => ⟨fun e he => ?_, fun x4 _ => ⟨fun e he => ?_, fun x5 _ => ⟨rfl, fun e he => ?_, by omega, by omega, by simp only [maxLen]; omega, ?_⟩⟩⟩⟩
  · simp only [List.mem_cons, List.not_mem_nil, or_false] at he
    rcases he with rfl | rfl | rfl <;> exact ⟨_, rfl⟩
  · simp only [List.mem_cons, List.not_mem_nil, or_false] at he
    rcases he with rfl | rfl <;> exact ⟨_, rfl, by decide, by decide⟩
  · simp only [List.mem_cons, List.not_mem_nil, or_false] at he
    rcases he with rfl | rfl <;> exact ⟨_, rfl, by decide, by decide⟩
  · rw [List.mem_singleton] at he; subst he; rfl
  have hx3l : x3.length ≤ 30 := by
    simp only [List.mem_cons, List.not_mem_nil, or_false, PV.str.injEq] at hx3
    rcases hx3 with rfl | rfl | rfl <;> decide
  have hE : od.map opV ++ [PV.agg [.int .i64 x1, .int .i64 x2, .str x3, .int .i64 x4, .int .i64 x5]] = (od ++ [(⟨x1, x2, x3, x4, x5⟩ : Opn)]).map opV := by simp [opV]
  rw [hE]
  obtain ⟨odd, hodd⟩ : ∃ odd, od ++ [(⟨x1, x2, x3, x4, x5⟩ : Opn)] = odd := ⟨_, rfl⟩
  have hoddl : odd.length = od.length + 1 := by rw [← hodd]; simp
  have hoddk : ∀ x, x ∈ odd → x.k.length ≤ 30 := fun x hx => by
    rw [← hodd] at hx
    rcases List.mem_append.1 hx with hx | hx
    · exact (four_parts _ (opsG_four hod.2 x hx)).2
    · rw [List.mem_singleton] at hx; subst hx; exact hx3l
  rw [hodd, ← hoddl]
  clear hodd hE
  refine AWp.freeze (T := planAt 0) 67 5 (α := Unit) (fun _ => odd.map opV) (fun _ => ([(1, .pv (.sl (l0.map opV))), (2, .pv (.sl (lf0.map lfV))), (4, .pv (.str text)), (5, .pv (.int .i64 year)), (9, .ptr 9 0), (13, .ptr 61 0), (14, .pv (.sl (own.map opV))), (15, .pv (.sl (rest.map lfV))), (16, .pv (.sl (odd.map opV)))],
    [(9, .cells [.pv (.sl (ca.map opV)), .pv (.sl (cb.map opV)), .pv (.sl (cc.map lfV))]), (61, .obj Tp)])) (fun _ => True) ⟨(), trivial, ⟨by simp [hget], rfl, ?_, ?_, rfl, rfl, rfl⟩⟩ ?_
  · exact ⟨.inl (by simp [look]), .inl (by simp [look]), .inl (by simp [look]), .inl (by simp [look]), .inl (by simp [look]), .inl (by simp [look]), .inl (by simp [look]), .inl (by simp [look]), .inr ⟨odd.length, by simp [look], by simp, by rw [List.take_of_length_le (by simp)]⟩, trivial⟩
  · simp [fitH, hget]
  intro _ _
  have hx : ∀ k : Nat, k < 3 → ∃ x : List Opn, (([.sl (own.map opV), .sl (odd.map opV), .sl (l0.map opV)] : List PV).getD k default) = .sl (x.map opV) ∧ x.length ≤ 65 ∧ ∀ y, y ∈ x → y.k.length ≤ 30 := fun k hk => by
    have : k = 0 ∨ k = 1 ∨ k = 2 := by omega
    rcases this with rfl | rfl | rfl
    · exact ⟨own, rfl, by omega, fun x hx => (four_parts _ (opsG_four hown.2 x hx)).2⟩
    · exact ⟨odd, rfl, by omega, hoddk⟩
    · exact ⟨l0, rfl, n3, n1⟩
  have hxl : ([.sl (own.map opV), .sl (odd.map opV), .sl (l0.map opV)] : List PV).length = 3 := rfl
  have hrk : ∀ x, x ∈ rest → x.k.length ≤ 30 := fun x hx => (four_parts _ (lfR_four (lfG_R hrest) x hx)).2
  have hrl : rest.length ≤ 4 := lfR_len (lfG_R hrest)
  simp (config := {maxSteps := 1000000}) only [ΨX, Θ7, Θ6, Θ5, Θ4, Θ3, Θ2, Θ1, Ψ1, newS, preT_eq, preO_eq, preL_eq, preC_eq, nS, preN_eq, preR_eq, preP_eq, preX_eq, okP_eq, okX_eq, okN, okR, okC, arg1, arg2, intV, strV, opsV, lfsV, caV, carV, map_opOf, map_lfOf, Nat.reduceBEq, psiNew_eq, List.length_map, List.take_succ_cons, List.take_nil, Tryz.underlying1, sz1, by1, ze1, Tryz.underlying2, sz2, by2, ze2, Tryz.underlying3, sz3, by3, ze3, Tryz.underlying4, sz4, by4, ze4, Tryz.underlying5, sz5, by5, ze5, Tryz.underlying9, sz9, by9, ze9, Tryz.underlying22, sz22, by22, ze22, Tryz.underlying23, sz23, by23, ze23, Tryz.underlying24, sz24, by24, ze24, Tryz.underlying26, sz26, by26, ze26, fa26_0, fa26_1, fa26_2, Tryz.underlying29, sz29, by29, ze29, Tryz.underlying37, sz37, by37, ze37, fa37_0, fa37_1, fa37_2, fa37_3, fa37_4, Tryz.underlying38, sz38, by38, ze38, Tryz.underlying40, sz40, by40, ze40, fa40_0, fa40_1, Tryz.underlying41, sz41, by41, ze41, Tryz.underlying42, sz42, by42, ze42, Tryz.underlying43, sz43, by43, ze43, Tryz.underlying47, sz47, by47, ze47, Tryz.underlying49, sz49, by49, ze49, Tryz.underlying50, sz50, by50, ze50, Tryz.underlying51, sz51, by51, ze51, Tryz.underlying55, sz55, by55, ze55, Tryz.underlying62, sz62, by62, ze62, Tryz.underlying80, sz80, by80, ze80, fa80_0, fa80_1, fa80_2, fa80_3, fa80_4, planAt, go_sem, ↓reduceIte, reduceCtorEq, Nat.reduceEqDiff, Nat.reduceLT, ↓all_qV, Int.reduceToNat, Int.reduceLT, Int.reduceLE, Nat.reduceAdd, Nat.reduceLeDiff, Nat.reduceMul, ev_callG, gcallK_b, gcallK_w, callGc_true, callGc_false]
  generalize ([.sl (own.map opV), .sl (odd.map opV), .sl (l0.map opV)] : List PV) = A at hx hxl ⊢
  clear hown hoddk hoddl hod hdl tko hol hx3l hx3 n1 n3
  refine AWp.loop (T := planAt 18) (α := Nat) (fun k => ([(2, .pv (.sl (lf0.map lfV))), (4, .pv (.str text)), (5, .pv (.int .i64 year)), (9, .ptr 9 0), (13, .ptr 61 0), (15, .pv (.sl (rest.map lfV))), (87, .pv (.agg A)), (88, .pv (.int .i64 k))],
    [(9, .cells [.pv (.sl (ca.map opV)), .pv (.sl (cb.map opV)), .pv (.sl (cc.map lfV))]), (61, .obj Tp)])) (fun k => k ≤ 3) (fun k => 3 - k)
    ⟨0, Nat.zero_le _, ⟨by simp [fitR, look], by simp [fitH, hget], rfl, rfl, rfl⟩⟩ ?_
  intro k hk
  have hi1 : IntKind.i64.wrap ((k : Int) + 1) = ((k + 1 : Nat) : Int) := by rw [i64_in _ (by omega)]; omega
  by_cases hlt : k < 3
  · have c0 : decide ((k : Int) < 3) = true := by simp; omega
    obtain ⟨x, e1, hxn, hxk⟩ := hx k hlt
    simp (config := {maxSteps := 1000000}) only [c0, e1, hi1, hxl, indexA, Int.toNat_natCast, Nat.mul_one, k_exL_4, smallS, on_ll_eq, k_exL_5, saneS, on__eq, k_exL_12, carryG, k_exL_13, rcarS, k_exL_14, checkS, k_exL_15, rchkS, k_exL_16, sameCG, on_pp_eq, k_exL_17, rightG, on_llp_eq, k_exL_18, rrigS, k_exL_19, linesG, on_pi_eq, k_exL_20, rlinS, k_exL_21, rCyG, k_exL_23, sumPW, on_ls_eq, k_exL_24, sumRW, ΨX, Θ7, Θ6, Θ5, Θ4, Θ3, Θ2, Θ1, Ψ1, newS, preT_eq, preO_eq, preL_eq, preC_eq, nS, preN_eq, preR_eq, preP_eq, preX_eq, okP_eq, okX_eq, okN, okR, okC, arg1, arg2, intV, strV, opsV, lfsV, caV, carV, map_opOf, map_lfOf, Nat.reduceBEq, psiNew_eq, List.length_map, List.take_succ_cons, List.take_nil, Tryz.underlying1, sz1, by1, ze1, Tryz.underlying2, sz2, by2, ze2, Tryz.underlying3, sz3, by3, ze3, Tryz.underlying4, sz4, by4, ze4, Tryz.underlying5, sz5, by5, ze5, Tryz.underlying9, sz9, by9, ze9, Tryz.underlying22, sz22, by22, ze22, Tryz.underlying23, sz23, by23, ze23, Tryz.underlying24, sz24, by24, ze24, Tryz.underlying26, sz26, by26, ze26, fa26_0, fa26_1, fa26_2, Tryz.underlying29, sz29, by29, ze29, Tryz.underlying37, sz37, by37, ze37, fa37_0, fa37_1, fa37_2, fa37_3, fa37_4, Tryz.underlying38, sz38, by38, ze38, Tryz.underlying40, sz40, by40, ze40, fa40_0, fa40_1, Tryz.underlying41, sz41, by41, ze41, Tryz.underlying42, sz42, by42, ze42, Tryz.underlying43, sz43, by43, ze43, Tryz.underlying47, sz47, by47, ze47, Tryz.underlying49, sz49, by49, ze49, Tryz.underlying50, sz50, by50, ze50, Tryz.underlying51, sz51, by51, ze51, Tryz.underlying55, sz55, by55, ze55, Tryz.underlying62, sz62, by62, ze62, Tryz.underlying80, sz80, by80, ze80, fa80_0, fa80_1, fa80_2, fa80_3, fa80_4, planAt, go_sem, ↓reduceIte, reduceCtorEq, Nat.reduceEqDiff, Nat.reduceLT, ↓all_qV, Int.reduceToNat, Int.reduceLT, Int.reduceLE, Nat.reduceAdd, Nat.reduceLeDiff, Nat.reduceMul, ev_callG, gcallK_b, gcallK_w, callGc_true, callGc_false]
    refine ⟨⟨by omega, by omega, by omega⟩, ?_⟩
    have hy : ∀ j : Nat, j < 3 → ∃ y : List Lft, (([.sl (rest.map lfV), .sl (lf0.map lfV), .sl [.agg [.str [50, 46, 49, 48], .int .i64 5], .agg [.str [50, 46, 57], .int .i64 5]]] : List PV).getD j default) = .sl (y.map lfV) ∧ y.length ≤ 65 ∧ ∀ z, z ∈ y → z.k.length ≤ 30 := fun j hj => by
      have : j = 0 ∨ j = 1 ∨ j = 2 := by omega
      rcases this with rfl | rfl | rfl
      · exact ⟨rest, rfl, by omega, hrk⟩
      · exact ⟨lf0, rfl, n4, n2⟩
      · exact ⟨[⟨[50, 46, 49, 48], 5⟩, ⟨[50, 46, 57], 5⟩], rfl, by simp, fun z hz => by
          simp only [List.mem_cons, List.not_mem_nil, or_false] at hz
          rcases hz with rfl | rfl <;> decide⟩
    have hyl : ([.sl (rest.map lfV), .sl (lf0.map lfV), .sl [.agg [.str [50, 46, 49, 48], .int .i64 5], .agg [.str [50, 46, 57], .int .i64 5]]] : List PV).length = 3 := rfl
    generalize ([.sl (rest.map lfV), .sl (lf0.map lfV), .sl [.agg [.str [50, 46, 49, 48], .int .i64 5], .agg [.str [50, 46, 57], .int .i64 5]]] : List PV) = B at hy hyl ⊢
    refine AWp.loop (T := planAt 18) (α := Nat) (fun j => ([(2, .pv (.sl (lf0.map lfV))), (4, .pv (.str text)), (5, .pv (.int .i64 year)), (9, .ptr 9 0), (13, .ptr 61 0), (15, .pv (.sl (rest.map lfV))), (87, .pv (.agg A)), (88, .pv (.int .i64 k)), (18, .pv (.sl (x.map opV))), (96, .pv (.agg B)), (97, .pv (.int .i64 j))], [(9, .cells [.pv (.sl (ca.map opV)), .pv (.sl (cb.map opV)), .pv (.sl (cc.map lfV))]), (61, .obj Tp)])) (fun j => j ≤ 3) (fun j => 3 - j)
      ⟨0, Nat.zero_le _, ⟨by simp [fitR, look], by simp [fitH, hget], rfl, rfl, rfl⟩⟩ ?_
    intro j hj
    have hj1 : IntKind.i64.wrap ((j : Int) + 1) = ((j + 1 : Nat) : Int) := by rw [i64_in _ (by omega)]; omega
    by_cases hjt : j < 3
    · have c1 : decide ((j : Int) < 3) = true := by simp; omega
      obtain ⟨y, e2, hyn, hyk⟩ := hy j hjt
      obtain ⟨⟨ra, rb, rc⟩, E, hcf, r1, r2, r3, r4⟩ := car_any hxn hxk hyn
      simp only at r1 r2 r3 r4
      have hO : isOps x := fun z hz => by have := hxk z hz; omega
      have hL : isLfs y := fun z hz => by have := hyk z hz; omega
      have pxy : (∃ l : List Opn, x.map opV = l.map opV ∧ isOps l) ∧ (∃ l : List Lft, y.map lfV = l.map lfV ∧ isLfs l) := ⟨⟨x, rfl, hO⟩, ⟨y, rfl, hL⟩⟩
      have hwc : ∀ e, e ∈ rc.map lfV → e.cells.length = 2 := fun e he => by obtain ⟨z, _, rfl⟩ := List.mem_map.1 he; rfl
      have tkc : (rc.map lfV).take rc.length = rc.map lfV := List.take_of_length_le (by simp)
      have hcR : isCar (.agg [.sl (ra.map opV), .sl (rb.map opV), .sl (rc.map lfV)]) := ⟨⟨ra, rb, rc⟩, rfl, by simp only; omega, by simp only; omega, by simp only; omega⟩
      simp (config := {maxSteps := 1000000}) only [c1, e2, hj1, hyl, hcf, tkc, bne_self_eq_false, beq_self_eq_true, Bool.or_false, Bool.false_or, decide_true, Bool.not_true, true_implies, forall_const, indexA, Int.toNat_natCast, Nat.mul_one, k_exL_4, smallS, on_ll_eq, k_exL_5, saneS, on__eq, k_exL_12, carryG, k_exL_13, rcarS, k_exL_14, checkS, k_exL_15, rchkS, k_exL_16, sameCG, on_pp_eq, k_exL_17, rightG, on_llp_eq, k_exL_18, rrigS, k_exL_19, linesG, on_pi_eq, k_exL_20, rlinS, k_exL_21, rCyG, k_exL_23, sumPW, on_ls_eq, k_exL_24, sumRW, ΨX, Θ7, Θ6, Θ5, Θ4, Θ3, Θ2, Θ1, Ψ1, newS, preT_eq, preO_eq, preL_eq, preC_eq, nS, preN_eq, preR_eq, preP_eq, preX_eq, okP_eq, okX_eq, okN, okR, okC, arg1, arg2, intV, strV, opsV, lfsV, caV, carV, map_opOf, map_lfOf, Nat.reduceBEq, psiNew_eq, List.length_map, List.take_succ_cons, List.take_nil, Tryz.underlying1, sz1, by1, ze1, Tryz.underlying2, sz2, by2, ze2, Tryz.underlying3, sz3, by3, ze3, Tryz.underlying4, sz4, by4, ze4, Tryz.underlying5, sz5, by5, ze5, Tryz.underlying9, sz9, by9, ze9, Tryz.underlying22, sz22, by22, ze22, Tryz.underlying23, sz23, by23, ze23, Tryz.underlying24, sz24, by24, ze24, Tryz.underlying26, sz26, by26, ze26, fa26_0, fa26_1, fa26_2, Tryz.underlying29, sz29, by29, ze29, Tryz.underlying37, sz37, by37, ze37, fa37_0, fa37_1, fa37_2, fa37_3, fa37_4, Tryz.underlying38, sz38, by38, ze38, Tryz.underlying40, sz40, by40, ze40, fa40_0, fa40_1, Tryz.underlying41, sz41, by41, ze41, Tryz.underlying42, sz42, by42, ze42, Tryz.underlying43, sz43, by43, ze43, Tryz.underlying47, sz47, by47, ze47, Tryz.underlying49, sz49, by49, ze49, Tryz.underlying50, sz50, by50, ze50, Tryz.underlying51, sz51, by51, ze51, Tryz.underlying55, sz55, by55, ze55, Tryz.underlying62, sz62, by62, ze62, Tryz.underlying80, sz80, by80, ze80, fa80_0, fa80_1, fa80_2, fa80_3, fa80_4, planAt, go_sem, ↓reduceIte, reduceCtorEq, Nat.reduceEqDiff, Nat.reduceLT, ↓all_qV, Int.reduceToNat, Int.reduceLT, Int.reduceLE, Nat.reduceAdd, Nat.reduceLeDiff, Nat.reduceMul, ev_callG, gcallK_b, gcallK_w, callGc_true, callGc_false]
      and_intros
      all_goals try first
        | exact ⟨x, rfl, hO⟩ | exact ⟨y, rfl, hL⟩ | exact hcR | omega | rfl | exact hwc | (simp only [maxLen]; omega) | (intro e he; rw [List.mem_singleton] at he; subst he; rfl)
        | (intro c hc; simp only [List.mem_cons, List.not_mem_nil, or_false] at hc; rcases hc with rfl | rfl | rfl <;> exact ⟨rfl, trivial⟩)
      have hE2 : rc.map lfV ++ [PV.agg [.str [51], .int .i64 1]] = (rc ++ [(⟨[51], 1⟩ : Lft)]).map lfV := by simp [lfV]
      rw [hE2]
      obtain ⟨rd, hrd⟩ : ∃ rd, rc ++ [(⟨[51], 1⟩ : Lft)] = rd := ⟨_, rfl⟩
      have hrdl : rd.length = rc.length + 1 := by rw [← hrd]; simp
      rw [hrd, ← hrdl]
      clear hrd hE2
      have tkd : (rd.map lfV).take rd.length = rd.map lfV := List.take_of_length_le (by simp)
      refine AWp.freezeC (T := planAt 0) 133 2 (α := Unit) (fun _ => rd.map lfV) (fun _ => ([(2, .pv (.sl (lf0.map lfV))), (4, .pv (.str text)), (5, .pv (.int .i64 year)), (9, .ptr 9 0), (13, .ptr 61 0), (15, .pv (.sl (rest.map lfV))), (87, .pv (.agg A)), (88, .pv (.int .i64 k)), (18, .pv (.sl (x.map opV))), (96, .pv (.agg B)), (97, .pv (.int .i64 j)), (20, .pv (.sl (y.map lfV))), (23, .ptr 23 0), (25, .ptr 25 0)],
        [(9, .cells [.pv (.sl (ca.map opV)), .pv (.sl (cb.map opV)), .pv (.sl (cc.map lfV))]), (23, .cells [.pv (.sl (ra.map opV)), .pv (.sl (rb.map opV)), .pv (.sl (rc.map lfV))]), (25, .cells [.pv (.sl (ra.map opV)), .pv (.sl (rb.map opV)), .pv (.sl (rd.map lfV))]), (61, .obj Tp)])) (fun _ => True)
        ⟨(), trivial, ⟨by simp [hget], rfl, by simp [fitF, look], by simp [fitHF, hget, frzC, tkd], rfl, rfl, rfl⟩⟩ ?_
      intro _ _
      simp (config := {maxSteps := 1000000}) only [loadC_eq, ΨX, Θ7, Θ6, Θ5, Θ4, Θ3, Θ2, Θ1, Ψ1, newS, preT_eq, preO_eq, preL_eq, preC_eq, nS, preN_eq, preR_eq, preP_eq, preX_eq, okP_eq, okX_eq, okN, okR, okC, arg1, arg2, intV, strV, opsV, lfsV, caV, carV, map_opOf, map_lfOf, Nat.reduceBEq, psiNew_eq, List.length_map, List.take_succ_cons, List.take_nil, Tryz.underlying1, sz1, by1, ze1, Tryz.underlying2, sz2, by2, ze2, Tryz.underlying3, sz3, by3, ze3, Tryz.underlying4, sz4, by4, ze4, Tryz.underlying5, sz5, by5, ze5, Tryz.underlying9, sz9, by9, ze9, Tryz.underlying22, sz22, by22, ze22, Tryz.underlying23, sz23, by23, ze23, Tryz.underlying24, sz24, by24, ze24, Tryz.underlying26, sz26, by26, ze26, fa26_0, fa26_1, fa26_2, Tryz.underlying29, sz29, by29, ze29, Tryz.underlying37, sz37, by37, ze37, fa37_0, fa37_1, fa37_2, fa37_3, fa37_4, Tryz.underlying38, sz38, by38, ze38, Tryz.underlying40, sz40, by40, ze40, fa40_0, fa40_1, Tryz.underlying41, sz41, by41, ze41, Tryz.underlying42, sz42, by42, ze42, Tryz.underlying43, sz43, by43, ze43, Tryz.underlying47, sz47, by47, ze47, Tryz.underlying49, sz49, by49, ze49, Tryz.underlying50, sz50, by50, ze50, Tryz.underlying51, sz51, by51, ze51, Tryz.underlying55, sz55, by55, ze55, Tryz.underlying62, sz62, by62, ze62, Tryz.underlying80, sz80, by80, ze80, fa80_0, fa80_1, fa80_2, fa80_3, fa80_4, planAt, go_sem, ↓reduceIte, reduceCtorEq, Nat.reduceEqDiff, Nat.reduceLT, ↓all_qV, Int.reduceToNat, Int.reduceLT, Int.reduceLE, Nat.reduceAdd, Nat.reduceLeDiff, Nat.reduceMul, ev_callG, gcallK_b, gcallK_w, callGc_true, callGc_false]
      have hz : ∀ m : Nat, m < 3 → ∃ z : Car, (([.sl (ra.map opV), .sl (rb.map opV), .sl (rc.map lfV), .sl (ra.map opV), .sl (rb.map opV), .sl (rd.map lfV), .sl (ca.map opV), .sl (cb.map opV), .sl (cc.map lfV)] : List PV).drop (m * 3)).take 3 = [.sl (z.a.map opV), .sl (z.b.map opV), .sl (z.c.map lfV)] ∧ z.a.length ≤ 100 ∧ z.b.length ≤ 100 ∧ z.c.length ≤ 100 ∧ isOps z.a := fun m hm => by
        have : m = 0 ∨ m = 1 ∨ m = 2 := by omega
        rcases this with rfl | rfl | rfl
        · exact ⟨⟨ra, rb, rc⟩, rfl, by simp only; omega, by simp only; omega, by simp only; omega, fun z hz => by have := r4 z hz; omega⟩
        · exact ⟨⟨ra, rb, rd⟩, rfl, by simp only; omega, by simp only; omega, by simp only; omega, fun z hz => by have := r4 z hz; omega⟩
        · exact ⟨⟨ca, cb, cc⟩, rfl, by simp only; omega, by simp only; omega, by simp only; omega, fun z hz => by have := m1 z hz; omega⟩
      have hzl : ([.sl (ra.map opV), .sl (rb.map opV), .sl (rc.map lfV), .sl (ra.map opV), .sl (rb.map opV), .sl (rd.map lfV), .sl (ca.map opV), .sl (cb.map opV), .sl (cc.map lfV)] : List PV).length = 9 := rfl
      generalize ([.sl (ra.map opV), .sl (rb.map opV), .sl (rc.map lfV), .sl (ra.map opV), .sl (rb.map opV), .sl (rd.map lfV), .sl (ca.map opV), .sl (cb.map opV), .sl (cc.map lfV)] : List PV) = D at hz hzl ⊢
      refine AWp.loop (T := planAt 0) (α := Nat) (fun m => ([(2, .pv (.sl (lf0.map lfV))), (4, .pv (.str text)), (5, .pv (.int .i64 year)), (9, .ptr 9 0), (13, .ptr 61 0), (15, .pv (.sl (rest.map lfV))), (87, .pv (.agg A)), (88, .pv (.int .i64 k)), (18, .pv (.sl (x.map opV))), (96, .pv (.agg B)), (97, .pv (.int .i64 j)), (20, .pv (.sl (y.map lfV))), (141, .pv (.agg D)), (142, .pv (.int .i64 m))], [(9, .cells [.pv (.sl (ca.map opV)), .pv (.sl (cb.map opV)), .pv (.sl (cc.map lfV))]), (61, .obj Tp)])) (fun m => m ≤ 3) (fun m => 3 - m)
        ⟨0, Nat.zero_le _, ⟨by simp [fitR, look], by simp [fitH, hget], rfl, rfl, rfl⟩⟩ ?_
      intro m hm
      have hm1 : IntKind.i64.wrap ((m : Int) + 1) = ((m + 1 : Nat) : Int) := by rw [i64_in _ (by omega)]; omega
      by_cases hmt : m < 3
      · have c2 : decide ((m : Int) < 3) = true := by simp; omega
        obtain ⟨⟨za, zb, zc⟩, e3, z1, z2, z3, z4⟩ := hz m hmt
        simp only at e3 z1 z2 z3 z4
        have hcZ : isCar (.agg [.sl (za.map opV), .sl (zb.map opV), .sl (zc.map lfV)]) := ⟨⟨za, zb, zc⟩, rfl, by simp only; omega, by simp only; omega, by simp only; omega⟩
        have hkZ : isCarK (.agg [.sl (za.map opV), .sl (zb.map opV), .sl (zc.map lfV)]) := ⟨⟨za, zb, zc⟩, rfl, by simp only; omega, by simp only; omega, by simp only; omega, z4⟩
        have hOf : caOf (.agg [.sl (za.map opV), .sl (zb.map opV), .sl (zc.map lfV)]) = ⟨za, zb, zc⟩ := caOf_caV ⟨za, zb, zc⟩
        simp (config := {maxSteps := 1000000}) only [c2, e3, hm1, hzl, hOf, bne_self_eq_false, true_implies, forall_const, indexA, Int.toNat_natCast, Nat.mul_one, k_exL_4, smallS, on_ll_eq, k_exL_5, saneS, on__eq, k_exL_12, carryG, k_exL_13, rcarS, k_exL_14, checkS, k_exL_15, rchkS, k_exL_16, sameCG, on_pp_eq, k_exL_17, rightG, on_llp_eq, k_exL_18, rrigS, k_exL_19, linesG, on_pi_eq, k_exL_20, rlinS, k_exL_21, rCyG, k_exL_23, sumPW, on_ls_eq, k_exL_24, sumRW, ΨX, Θ7, Θ6, Θ5, Θ4, Θ3, Θ2, Θ1, Ψ1, newS, preT_eq, preO_eq, preL_eq, preC_eq, nS, preN_eq, preR_eq, preP_eq, preX_eq, okP_eq, okX_eq, okN, okR, okC, arg1, arg2, intV, strV, opsV, lfsV, caV, carV, map_opOf, map_lfOf, Nat.reduceBEq, psiNew_eq, List.length_map, List.take_succ_cons, List.take_nil, Tryz.underlying1, sz1, by1, ze1, Tryz.underlying2, sz2, by2, ze2, Tryz.underlying3, sz3, by3, ze3, Tryz.underlying4, sz4, by4, ze4, Tryz.underlying5, sz5, by5, ze5, Tryz.underlying9, sz9, by9, ze9, Tryz.underlying22, sz22, by22, ze22, Tryz.underlying23, sz23, by23, ze23, Tryz.underlying24, sz24, by24, ze24, Tryz.underlying26, sz26, by26, ze26, fa26_0, fa26_1, fa26_2, Tryz.underlying29, sz29, by29, ze29, Tryz.underlying37, sz37, by37, ze37, fa37_0, fa37_1, fa37_2, fa37_3, fa37_4, Tryz.underlying38, sz38, by38, ze38, Tryz.underlying40, sz40, by40, ze40, fa40_0, fa40_1, Tryz.underlying41, sz41, by41, ze41, Tryz.underlying42, sz42, by42, ze42, Tryz.underlying43, sz43, by43, ze43, Tryz.underlying47, sz47, by47, ze47, Tryz.underlying49, sz49, by49, ze49, Tryz.underlying50, sz50, by50, ze50, Tryz.underlying51, sz51, by51, ze51, Tryz.underlying55, sz55, by55, ze55, Tryz.underlying62, sz62, by62, ze62, Tryz.underlying80, sz80, by80, ze80, fa80_0, fa80_1, fa80_2, fa80_3, fa80_4, planAt, go_sem, ↓reduceIte, reduceCtorEq, Nat.reduceEqDiff, Nat.reduceLT, ↓all_qV, Int.reduceToNat, Int.reduceLT, Int.reduceLE, Nat.reduceAdd, Nat.reduceLeDiff, Nat.reduceMul, ev_callG, gcallK_b, gcallK_w, callGc_true, callGc_false]
        refine ⟨⟨by omega, by omega, by omega⟩, by kernel_rfl, ⟨(fun c hc => by simp only [List.mem_cons, List.not_mem_nil, or_false] at hc; rcases hc with rfl | rfl | rfl <;> exact ⟨rfl, trivial⟩), ⟨x, rfl, hO⟩, ⟨y, rfl, hL⟩, by omega, by omega, hcZ⟩, ⟨(fun c hc => by simp only [List.mem_cons, List.not_mem_nil, or_false] at hc; rcases hc with rfl | rfl | rfl <;> exact ⟨rfl, trivial⟩), ⟨x, rfl, hO⟩, ⟨y, rfl, hL⟩, by omega, by omega, hcZ⟩, rfl, fun e he => ?_, fun n hn => ?_⟩
        · simp only [List.mem_cons, List.not_mem_nil, or_false] at he
          rcases he with rfl | rfl | rfl | rfl | rfl <;> exact ⟨_, rfl, by decide, by decide⟩
        have hv : ∀ q : Nat, q < 2 → ∃ v : Int, (([.int .i64 year, .int .i64 n] : List PV).getD q default) = .int .i64 v := fun q hq => by
          have : q = 0 ∨ q = 1 := by omega
          rcases this with rfl | rfl
          · exact ⟨year, rfl⟩
          · exact ⟨n, rfl⟩
        have hvl : ([.int .i64 year, .int .i64 n] : List PV).length = 2 := rfl
        generalize ([.int .i64 year, .int .i64 n] : List PV) = F at hv hvl ⊢
        refine AWp.loop (T := planAt 0) (α := Nat) (fun q => ([(2, .pv (.sl (lf0.map lfV))), (4, .pv (.str text)), (5, .pv (.int .i64 year)), (9, .ptr 9 0), (13, .ptr 61 0), (15, .pv (.sl (rest.map lfV))), (87, .pv (.agg A)), (88, .pv (.int .i64 k)), (18, .pv (.sl (x.map opV))), (96, .pv (.agg B)), (97, .pv (.int .i64 j)), (20, .pv (.sl (y.map lfV))), (27, .ptr 27 0), (141, .pv (.agg D)), (142, .pv (.int .i64 m)), (158, .pv (.agg F)), (159, .pv (.int .i64 q))],
          [(9, .cells [.pv (.sl (ca.map opV)), .pv (.sl (cb.map opV)), .pv (.sl (cc.map lfV))]), (27, .cells [.pv (.sl (za.map opV)), .pv (.sl (zb.map opV)), .pv (.sl (zc.map lfV))]), (61, .obj Tp)])) (fun q => q ≤ 2) (fun q => 2 - q)
          ⟨0, Nat.zero_le _, ⟨by simp [fitR, look], by simp [fitH, hget], rfl, rfl, rfl⟩⟩ ?_
        intro q hq
        have hq1 : IntKind.i64.wrap ((q : Int) + 1) = ((q + 1 : Nat) : Int) := by rw [i64_in _ (by omega)]; omega
        by_cases hqt : q < 2
        · have c3 : decide ((q : Int) < 2) = true := by simp; omega
          obtain ⟨v, e4⟩ := hv q hqt
          obtain ⟨L, E', hlf, hLl⟩ := lin_any ⟨za, zb, zc⟩ v
          have hLl : L.length ≤ 1000 := by simp only at hLl; omega
          simp (config := {maxSteps := 1000000}) only [c3, e4, hq1, hvl, hOf, hlf, map_cyOf, bne_self_eq_false, beq_self_eq_true, decide_true, Bool.not_true, Bool.or_false, Bool.false_or, true_implies, forall_const, indexA, Int.toNat_natCast, Nat.mul_one, k_exL_4, smallS, on_ll_eq, k_exL_5, saneS, on__eq, k_exL_12, carryG, k_exL_13, rcarS, k_exL_14, checkS, k_exL_15, rchkS, k_exL_16, sameCG, on_pp_eq, k_exL_17, rightG, on_llp_eq, k_exL_18, rrigS, k_exL_19, linesG, on_pi_eq, k_exL_20, rlinS, k_exL_21, rCyG, k_exL_23, sumPW, on_ls_eq, k_exL_24, sumRW, ΨX, Θ7, Θ6, Θ5, Θ4, Θ3, Θ2, Θ1, Ψ1, newS, preT_eq, preO_eq, preL_eq, preC_eq, nS, preN_eq, preR_eq, preP_eq, preX_eq, okP_eq, okX_eq, okN, okR, okC, arg1, arg2, intV, strV, opsV, lfsV, caV, carV, map_opOf, map_lfOf, Nat.reduceBEq, psiNew_eq, List.length_map, List.take_succ_cons, List.take_nil, Tryz.underlying1, sz1, by1, ze1, Tryz.underlying2, sz2, by2, ze2, Tryz.underlying3, sz3, by3, ze3, Tryz.underlying4, sz4, by4, ze4, Tryz.underlying5, sz5, by5, ze5, Tryz.underlying9, sz9, by9, ze9, Tryz.underlying22, sz22, by22, ze22, Tryz.underlying23, sz23, by23, ze23, Tryz.underlying24, sz24, by24, ze24, Tryz.underlying26, sz26, by26, ze26, fa26_0, fa26_1, fa26_2, Tryz.underlying29, sz29, by29, ze29, Tryz.underlying37, sz37, by37, ze37, fa37_0, fa37_1, fa37_2, fa37_3, fa37_4, Tryz.underlying38, sz38, by38, ze38, Tryz.underlying40, sz40, by40, ze40, fa40_0, fa40_1, Tryz.underlying41, sz41, by41, ze41, Tryz.underlying42, sz42, by42, ze42, Tryz.underlying43, sz43, by43, ze43, Tryz.underlying47, sz47, by47, ze47, Tryz.underlying49, sz49, by49, ze49, Tryz.underlying50, sz50, by50, ze50, Tryz.underlying51, sz51, by51, ze51, Tryz.underlying55, sz55, by55, ze55, Tryz.underlying62, sz62, by62, ze62, Tryz.underlying80, sz80, by80, ze80, fa80_0, fa80_1, fa80_2, fa80_3, fa80_4, planAt, go_sem, ↓reduceIte, reduceCtorEq, Nat.reduceEqDiff, Nat.reduceLT, ↓all_qV, Int.reduceToNat, Int.reduceLT, Int.reduceLE, Nat.reduceAdd, Nat.reduceLeDiff, Nat.reduceMul, ev_callG, gcallK_b, gcallK_w, callGc_true, callGc_false]
          exact ⟨⟨by omega, by omega, by omega⟩, ⟨(fun c hc => by simp only [List.mem_cons, List.not_mem_nil, or_false] at hc; rcases hc with rfl | rfl | rfl <;> exact ⟨rfl, trivial⟩), hkZ⟩, ⟨(fun c hc => by simp only [List.mem_cons, List.not_mem_nil, or_false] at hc; rcases hc with rfl | rfl | rfl <;> exact ⟨rfl, trivial⟩), hkZ⟩, ⟨⟨L, rfl⟩, ⟨L, rfl⟩, by omega⟩, q + 1, by omega, by omega, ⟨by simp [fitR, look], by simp [fitH, hget], rfl, rfl, rfl⟩⟩
        · have c3 : decide ((q : Int) < 2) = false := by simp; omega
          simp (config := {maxSteps := 1000000}) only [c3, hm1, k_exL_4, smallS, on_ll_eq, k_exL_5, saneS, on__eq, k_exL_12, carryG, k_exL_13, rcarS, k_exL_14, checkS, k_exL_15, rchkS, k_exL_16, sameCG, on_pp_eq, k_exL_17, rightG, on_llp_eq, k_exL_18, rrigS, k_exL_19, linesG, on_pi_eq, k_exL_20, rlinS, k_exL_21, rCyG, k_exL_23, sumPW, on_ls_eq, k_exL_24, sumRW, ΨX, Θ7, Θ6, Θ5, Θ4, Θ3, Θ2, Θ1, Ψ1, newS, preT_eq, preO_eq, preL_eq, preC_eq, nS, preN_eq, preR_eq, preP_eq, preX_eq, okP_eq, okX_eq, okN, okR, okC, arg1, arg2, intV, strV, opsV, lfsV, caV, carV, map_opOf, map_lfOf, Nat.reduceBEq, psiNew_eq, List.length_map, List.take_succ_cons, List.take_nil, Tryz.underlying1, sz1, by1, ze1, Tryz.underlying2, sz2, by2, ze2, Tryz.underlying3, sz3, by3, ze3, Tryz.underlying4, sz4, by4, ze4, Tryz.underlying5, sz5, by5, ze5, Tryz.underlying9, sz9, by9, ze9, Tryz.underlying22, sz22, by22, ze22, Tryz.underlying23, sz23, by23, ze23, Tryz.underlying24, sz24, by24, ze24, Tryz.underlying26, sz26, by26, ze26, fa26_0, fa26_1, fa26_2, Tryz.underlying29, sz29, by29, ze29, Tryz.underlying37, sz37, by37, ze37, fa37_0, fa37_1, fa37_2, fa37_3, fa37_4, Tryz.underlying38, sz38, by38, ze38, Tryz.underlying40, sz40, by40, ze40, fa40_0, fa40_1, Tryz.underlying41, sz41, by41, ze41, Tryz.underlying42, sz42, by42, ze42, Tryz.underlying43, sz43, by43, ze43, Tryz.underlying47, sz47, by47, ze47, Tryz.underlying49, sz49, by49, ze49, Tryz.underlying50, sz50, by50, ze50, Tryz.underlying51, sz51, by51, ze51, Tryz.underlying55, sz55, by55, ze55, Tryz.underlying62, sz62, by62, ze62, Tryz.underlying80, sz80, by80, ze80, fa80_0, fa80_1, fa80_2, fa80_3, fa80_4, planAt, go_sem, ↓reduceIte, reduceCtorEq, Nat.reduceEqDiff, Nat.reduceLT, ↓all_qV, Int.reduceToNat, Int.reduceLT, Int.reduceLE, Nat.reduceAdd, Nat.reduceLeDiff, Nat.reduceMul, ev_callG, gcallK_b, gcallK_w, callGc_true, callGc_false]
          exact ⟨m + 1, by omega, by omega, ⟨by simp [fitR, look], by simp [fitH, hget], rfl, rfl, rfl⟩⟩
      · have c2 : decide ((m : Int) < 3) = false := by simp; omega
        simp (config := {maxSteps := 1000000}) only [c2, hj1, k_exL_4, smallS, on_ll_eq, k_exL_5, saneS, on__eq, k_exL_12, carryG, k_exL_13, rcarS, k_exL_14, checkS, k_exL_15, rchkS, k_exL_16, sameCG, on_pp_eq, k_exL_17, rightG, on_llp_eq, k_exL_18, rrigS, k_exL_19, linesG, on_pi_eq, k_exL_20, rlinS, k_exL_21, rCyG, k_exL_23, sumPW, on_ls_eq, k_exL_24, sumRW, ΨX, Θ7, Θ6, Θ5, Θ4, Θ3, Θ2, Θ1, Ψ1, newS, preT_eq, preO_eq, preL_eq, preC_eq, nS, preN_eq, preR_eq, preP_eq, preX_eq, okP_eq, okX_eq, okN, okR, okC, arg1, arg2, intV, strV, opsV, lfsV, caV, carV, map_opOf, map_lfOf, Nat.reduceBEq, psiNew_eq, List.length_map, List.take_succ_cons, List.take_nil, Tryz.underlying1, sz1, by1, ze1, Tryz.underlying2, sz2, by2, ze2, Tryz.underlying3, sz3, by3, ze3, Tryz.underlying4, sz4, by4, ze4, Tryz.underlying5, sz5, by5, ze5, Tryz.underlying9, sz9, by9, ze9, Tryz.underlying22, sz22, by22, ze22, Tryz.underlying23, sz23, by23, ze23, Tryz.underlying24, sz24, by24, ze24, Tryz.underlying26, sz26, by26, ze26, fa26_0, fa26_1, fa26_2, Tryz.underlying29, sz29, by29, ze29, Tryz.underlying37, sz37, by37, ze37, fa37_0, fa37_1, fa37_2, fa37_3, fa37_4, Tryz.underlying38, sz38, by38, ze38, Tryz.underlying40, sz40, by40, ze40, fa40_0, fa40_1, Tryz.underlying41, sz41, by41, ze41, Tryz.underlying42, sz42, by42, ze42, Tryz.underlying43, sz43, by43, ze43, Tryz.underlying47, sz47, by47, ze47, Tryz.underlying49, sz49, by49, ze49, Tryz.underlying50, sz50, by50, ze50, Tryz.underlying51, sz51, by51, ze51, Tryz.underlying55, sz55, by55, ze55, Tryz.underlying62, sz62, by62, ze62, Tryz.underlying80, sz80, by80, ze80, fa80_0, fa80_1, fa80_2, fa80_3, fa80_4, planAt, go_sem, ↓reduceIte, reduceCtorEq, Nat.reduceEqDiff, Nat.reduceLT, ↓all_qV, Int.reduceToNat, Int.reduceLT, Int.reduceLE, Nat.reduceAdd, Nat.reduceLeDiff, Nat.reduceMul, ev_callG, gcallK_b, gcallK_w, callGc_true, callGc_false]
        exact ⟨j + 1, by omega, by omega, ⟨by simp [fitR, look], by simp [fitH, hget], rfl, rfl, rfl⟩⟩
    · have c1 : decide ((j : Int) < 3) = false := by simp; omega
      simp (config := {maxSteps := 1000000}) only [c1, k_exL_4, smallS, on_ll_eq, k_exL_5, saneS, on__eq, k_exL_12, carryG, k_exL_13, rcarS, k_exL_14, checkS, k_exL_15, rchkS, k_exL_16, sameCG, on_pp_eq, k_exL_17, rightG, on_llp_eq, k_exL_18, rrigS, k_exL_19, linesG, on_pi_eq, k_exL_20, rlinS, k_exL_21, rCyG, k_exL_23, sumPW, on_ls_eq, k_exL_24, sumRW, ΨX, Θ7, Θ6, Θ5, Θ4, Θ3, Θ2, Θ1, Ψ1, newS, preT_eq, preO_eq, preL_eq, preC_eq, nS, preN_eq, preR_eq, preP_eq, preX_eq, okP_eq, okX_eq, okN, okR, okC, arg1, arg2, intV, strV, opsV, lfsV, caV, carV, map_opOf, map_lfOf, Nat.reduceBEq, psiNew_eq, List.length_map, List.take_succ_cons, List.take_nil, Tryz.underlying1, sz1, by1, ze1, Tryz.underlying2, sz2, by2, ze2, Tryz.underlying3, sz3, by3, ze3, Tryz.underlying4, sz4, by4, ze4, Tryz.underlying5, sz5, by5, ze5, Tryz.underlying9, sz9, by9, ze9, Tryz.underlying22, sz22, by22, ze22, Tryz.underlying23, sz23, by23, ze23, Tryz.underlying24, sz24, by24, ze24, Tryz.underlying26, sz26, by26, ze26, fa26_0, fa26_1, fa26_2, Tryz.underlying29, sz29, by29, ze29, Tryz.underlying37, sz37, by37, ze37, fa37_0, fa37_1, fa37_2, fa37_3, fa37_4, Tryz.underlying38, sz38, by38, ze38, Tryz.underlying40, sz40, by40, ze40, fa40_0, fa40_1, Tryz.underlying41, sz41, by41, ze41, Tryz.underlying42, sz42, by42, ze42, Tryz.underlying43, sz43, by43, ze43, Tryz.underlying47, sz47, by47, ze47, Tryz.underlying49, sz49, by49, ze49, Tryz.underlying50, sz50, by50, ze50, Tryz.underlying51, sz51, by51, ze51, Tryz.underlying55, sz55, by55, ze55, Tryz.underlying62, sz62, by62, ze62, Tryz.underlying80, sz80, by80, ze80, fa80_0, fa80_1, fa80_2, fa80_3, fa80_4, planAt, go_sem, ↓reduceIte, reduceCtorEq, Nat.reduceEqDiff, Nat.reduceLT, ↓all_qV, Int.reduceToNat, Int.reduceLT, Int.reduceLE, Nat.reduceAdd, Nat.reduceLeDiff, Nat.reduceMul, ev_callG, gcallK_b, gcallK_w, callGc_true, callGc_false]
      intro cd hcd
      have hcd : cd.length ≤ 30 := hcd
      have hg : ∀ q : Nat, q < 3 → ∃ g : List UInt8, (([.str text, .str cd, .str [50]] : List PV).getD q default) = .str g ∧ g.length ≤ 30 := fun q hq => by
        have : q = 0 ∨ q = 1 ∨ q = 2 := by omega
        rcases this with rfl | rfl | rfl
        · exact ⟨text, rfl, htx⟩
        · exact ⟨cd, rfl, hcd⟩
        · exact ⟨[50], rfl, by decide⟩
      have hgl : ([.str text, .str cd, .str [50]] : List PV).length = 3 := rfl
      have hO : isOps x := fun z hz => by have := hxk z hz; omega
      generalize ([.str text, .str cd, .str [50]] : List PV) = D at hg hgl ⊢
      refine AWp.loop (T := planAt 18) (α := Nat) (fun q => ([(2, .pv (.sl (lf0.map lfV))), (4, .pv (.str text)), (5, .pv (.int .i64 year)), (9, .ptr 9 0), (13, .ptr 61 0), (15, .pv (.sl (rest.map lfV))), (87, .pv (.agg A)), (88, .pv (.int .i64 k)), (18, .pv (.sl (x.map opV))), (189, .pv (.agg D)), (190, .pv (.int .i64 q))], [(9, .cells [.pv (.sl (ca.map opV)), .pv (.sl (cb.map opV)), .pv (.sl (cc.map lfV))]), (61, .obj Tp)])) (fun q => q ≤ 3) (fun q => 3 - q)
        ⟨0, Nat.zero_le _, ⟨by simp [fitR, look], by simp [fitH, hget], rfl, rfl, rfl⟩⟩ ?_
      intro q hq
      have hq1 : IntKind.i64.wrap ((q : Int) + 1) = ((q + 1 : Nat) : Int) := by rw [i64_in _ (by omega)]; omega
      by_cases hqt : q < 3
      · have c2 : decide ((q : Int) < 3) = true := by simp; omega
        obtain ⟨g, e3, hgn⟩ := hg q hqt
        simp (config := {maxSteps := 1000000}) only [c2, e3, hq1, hgl, bne_self_eq_false, true_implies, forall_const, indexA, Int.toNat_natCast, Nat.mul_one, k_exL_4, smallS, on_ll_eq, k_exL_5, saneS, on__eq, k_exL_12, carryG, k_exL_13, rcarS, k_exL_14, checkS, k_exL_15, rchkS, k_exL_16, sameCG, on_pp_eq, k_exL_17, rightG, on_llp_eq, k_exL_18, rrigS, k_exL_19, linesG, on_pi_eq, k_exL_20, rlinS, k_exL_21, rCyG, k_exL_23, sumPW, on_ls_eq, k_exL_24, sumRW, ΨX, Θ7, Θ6, Θ5, Θ4, Θ3, Θ2, Θ1, Ψ1, newS, preT_eq, preO_eq, preL_eq, preC_eq, nS, preN_eq, preR_eq, preP_eq, preX_eq, okP_eq, okX_eq, okN, okR, okC, arg1, arg2, intV, strV, opsV, lfsV, caV, carV, map_opOf, map_lfOf, Nat.reduceBEq, psiNew_eq, List.length_map, List.take_succ_cons, List.take_nil, Tryz.underlying1, sz1, by1, ze1, Tryz.underlying2, sz2, by2, ze2, Tryz.underlying3, sz3, by3, ze3, Tryz.underlying4, sz4, by4, ze4, Tryz.underlying5, sz5, by5, ze5, Tryz.underlying9, sz9, by9, ze9, Tryz.underlying22, sz22, by22, ze22, Tryz.underlying23, sz23, by23, ze23, Tryz.underlying24, sz24, by24, ze24, Tryz.underlying26, sz26, by26, ze26, fa26_0, fa26_1, fa26_2, Tryz.underlying29, sz29, by29, ze29, Tryz.underlying37, sz37, by37, ze37, fa37_0, fa37_1, fa37_2, fa37_3, fa37_4, Tryz.underlying38, sz38, by38, ze38, Tryz.underlying40, sz40, by40, ze40, fa40_0, fa40_1, Tryz.underlying41, sz41, by41, ze41, Tryz.underlying42, sz42, by42, ze42, Tryz.underlying43, sz43, by43, ze43, Tryz.underlying47, sz47, by47, ze47, Tryz.underlying49, sz49, by49, ze49, Tryz.underlying50, sz50, by50, ze50, Tryz.underlying51, sz51, by51, ze51, Tryz.underlying55, sz55, by55, ze55, Tryz.underlying62, sz62, by62, ze62, Tryz.underlying80, sz80, by80, ze80, fa80_0, fa80_1, fa80_2, fa80_3, fa80_4, planAt, go_sem, ↓reduceIte, reduceCtorEq, Nat.reduceEqDiff, Nat.reduceLT, ↓all_qV, Int.reduceToNat, Int.reduceLT, Int.reduceLE, Nat.reduceAdd, Nat.reduceLeDiff, Nat.reduceMul, ev_callG, gcallK_b, gcallK_w, callGc_true, callGc_false]
        exact ⟨⟨by omega, by omega, by omega⟩, ⟨⟨x, rfl, hO, by omega⟩, by omega⟩, ⟨⟨x, rfl, hO, by omega⟩, by omega⟩, q + 1, by omega, by omega, ⟨by simp [fitR, look], by simp [fitH, hget], rfl, rfl, rfl⟩⟩
      · have c2 : decide ((q : Int) < 3) = false := by simp; omega
        simp (config := {maxSteps := 1000000}) only [c2, hi1, k_exL_4, smallS, on_ll_eq, k_exL_5, saneS, on__eq, k_exL_12, carryG, k_exL_13, rcarS, k_exL_14, checkS, k_exL_15, rchkS, k_exL_16, sameCG, on_pp_eq, k_exL_17, rightG, on_llp_eq, k_exL_18, rrigS, k_exL_19, linesG, on_pi_eq, k_exL_20, rlinS, k_exL_21, rCyG, k_exL_23, sumPW, on_ls_eq, k_exL_24, sumRW, ΨX, Θ7, Θ6, Θ5, Θ4, Θ3, Θ2, Θ1, Ψ1, newS, preT_eq, preO_eq, preL_eq, preC_eq, nS, preN_eq, preR_eq, preP_eq, preX_eq, okP_eq, okX_eq, okN, okR, okC, arg1, arg2, intV, strV, opsV, lfsV, caV, carV, map_opOf, map_lfOf, Nat.reduceBEq, psiNew_eq, List.length_map, List.take_succ_cons, List.take_nil, Tryz.underlying1, sz1, by1, ze1, Tryz.underlying2, sz2, by2, ze2, Tryz.underlying3, sz3, by3, ze3, Tryz.underlying4, sz4, by4, ze4, Tryz.underlying5, sz5, by5, ze5, Tryz.underlying9, sz9, by9, ze9, Tryz.underlying22, sz22, by22, ze22, Tryz.underlying23, sz23, by23, ze23, Tryz.underlying24, sz24, by24, ze24, Tryz.underlying26, sz26, by26, ze26, fa26_0, fa26_1, fa26_2, Tryz.underlying29, sz29, by29, ze29, Tryz.underlying37, sz37, by37, ze37, fa37_0, fa37_1, fa37_2, fa37_3, fa37_4, Tryz.underlying38, sz38, by38, ze38, Tryz.underlying40, sz40, by40, ze40, fa40_0, fa40_1, Tryz.underlying41, sz41, by41, ze41, Tryz.underlying42, sz42, by42, ze42, Tryz.underlying43, sz43, by43, ze43, Tryz.underlying47, sz47, by47, ze47, Tryz.underlying49, sz49, by49, ze49, Tryz.underlying50, sz50, by50, ze50, Tryz.underlying51, sz51, by51, ze51, Tryz.underlying55, sz55, by55, ze55, Tryz.underlying62, sz62, by62, ze62, Tryz.underlying80, sz80, by80, ze80, fa80_0, fa80_1, fa80_2, fa80_3, fa80_4, planAt, go_sem, ↓reduceIte, reduceCtorEq, Nat.reduceEqDiff, Nat.reduceLT, ↓all_qV, Int.reduceToNat, Int.reduceLT, Int.reduceLE, Nat.reduceAdd, Nat.reduceLeDiff, Nat.reduceMul, ev_callG, gcallK_b, gcallK_w, callGc_true, callGc_false]
        exact ⟨k + 1, by omega, by omega, ⟨by simp [fitR, look], by simp [fitH, hget], rfl, rfl, rfl⟩⟩
  · have c0 : decide ((k : Int) < 3) = false := by simp; omega
    simp (config := {maxSteps := 1000000}) only [c0, k_exL_4, smallS, on_ll_eq, k_exL_5, saneS, on__eq, k_exL_12, carryG, k_exL_13, rcarS, k_exL_14, checkS, k_exL_15, rchkS, k_exL_16, sameCG, on_pp_eq, k_exL_17, rightG, on_llp_eq, k_exL_18, rrigS, k_exL_19, linesG, on_pi_eq, k_exL_20, rlinS, k_exL_21, rCyG, k_exL_23, sumPW, on_ls_eq, k_exL_24, sumRW, ΨX, Θ7, Θ6, Θ5, Θ4, Θ3, Θ2, Θ1, Ψ1, newS, preT_eq, preO_eq, preL_eq, preC_eq, nS, preN_eq, preR_eq, preP_eq, preX_eq, okP_eq, okX_eq, okN, okR, okC, arg1, arg2, intV, strV, opsV, lfsV, caV, carV, map_opOf, map_lfOf, Nat.reduceBEq, psiNew_eq, List.length_map, List.take_succ_cons, List.take_nil, Tryz.underlying1, sz1, by1, ze1, Tryz.underlying2, sz2, by2, ze2, Tryz.underlying3, sz3, by3, ze3, Tryz.underlying4, sz4, by4, ze4, Tryz.underlying5, sz5, by5, ze5, Tryz.underlying9, sz9, by9, ze9, Tryz.underlying22, sz22, by22, ze22, Tryz.underlying23, sz23, by23, ze23, Tryz.underlying24, sz24, by24, ze24, Tryz.underlying26, sz26, by26, ze26, fa26_0, fa26_1, fa26_2, Tryz.underlying29, sz29, by29, ze29, Tryz.underlying37, sz37, by37, ze37, fa37_0, fa37_1, fa37_2, fa37_3, fa37_4, Tryz.underlying38, sz38, by38, ze38, Tryz.underlying40, sz40, by40, ze40, fa40_0, fa40_1, Tryz.underlying41, sz41, by41, ze41, Tryz.underlying42, sz42, by42, ze42, Tryz.underlying43, sz43, by43, ze43, Tryz.underlying47, sz47, by47, ze47, Tryz.underlying49, sz49, by49, ze49, Tryz.underlying50, sz50, by50, ze50, Tryz.underlying51, sz51, by51, ze51, Tryz.underlying55, sz55, by55, ze55, Tryz.underlying62, sz62, by62, ze62, Tryz.underlying80, sz80, by80, ze80, fa80_0, fa80_1, fa80_2, fa80_3, fa80_4, planAt, go_sem, ↓reduceIte, reduceCtorEq, Nat.reduceEqDiff, Nat.reduceLT, ↓all_qV, Int.reduceToNat, Int.reduceLT, Int.reduceLE, Nat.reduceAdd, Nat.reduceLeDiff, Nat.reduceMul, ev_callG, gcallK_b, gcallK_w, callGc_true, callGc_false]
end Go.AM
namespace Go.AM
open Go Go.Proofs
set_option linter.unusedVariables false
abbrev shOpn : Sh := .st [.int .i64, .int .i64, .str, .int .i64, .int .i64]
abbrev shLft : Sh := .st [.str, .int .i64]
abbrev shOpens : Sh := .sl shOpn
abbrev shLefts : Sh := .sl shLft
abbrev shCar : Sh := .st [shOpens, shOpens, shLefts]
theorem opn_of {cs : List PV} (h : HasSh shOpn cs) : ∃ x : Opn, boxSh shOpn cs = opV x := by
  obtain ⟨_, _, rfl, h1, h⟩ := h.cons_inv
  obtain ⟨_, _, rfl, h2, h⟩ := h.cons_inv
  obtain ⟨_, _, rfl, h3, h⟩ := h.cons_inv
  obtain ⟨_, _, rfl, h4, h⟩ := h.cons_inv
  obtain ⟨_, _, rfl, h5, h⟩ := h.cons_inv
  obtain rfl := h.nil_inv
  obtain ⟨n1, rfl, _⟩ := h1.i64_inv
  obtain ⟨n2, rfl, _⟩ := h2.i64_inv
  obtain ⟨s3, rfl, _⟩ := h3.str_inv
  obtain ⟨n4, rfl, _⟩ := h4.i64_inv
  obtain ⟨n5, rfl, _⟩ := h5.i64_inv
  exact ⟨⟨n1, n2, s3, n4, n5⟩, rfl⟩
theorem opnl_of : ∀ {es : List PV}, (∀ x, x ∈ es → ∃ ds, x = boxSh shOpn ds ∧ HasSh shOpn ds) → ∃ l : List Opn, es = l.map opV
  | [], _ => ⟨[], rfl⟩
  | e :: r, h => by
    obtain ⟨ds, rfl, hd⟩ := h e List.mem_cons_self
    obtain ⟨x, hx⟩ := opn_of hd
    obtain ⟨l, rfl⟩ := opnl_of (es := r) (fun y hy => h y (List.mem_cons_of_mem _ hy))
    exact ⟨x :: l, by rw [hx]; rfl⟩
theorem lft_of {cs : List PV} (h : HasSh shLft cs) : ∃ x : Lft, boxSh shLft cs = lfV x := by
  obtain ⟨_, _, rfl, h1, h⟩ := h.cons_inv
  obtain ⟨_, _, rfl, h2, h⟩ := h.cons_inv
  obtain rfl := h.nil_inv
  obtain ⟨s1, rfl, _⟩ := h1.str_inv
  obtain ⟨n2, rfl, _⟩ := h2.i64_inv
  exact ⟨⟨s1, n2⟩, rfl⟩
theorem lftl_of : ∀ {es : List PV}, (∀ x, x ∈ es → ∃ ds, x = boxSh shLft ds ∧ HasSh shLft ds) → ∃ l : List Lft, es = l.map lfV
  | [], _ => ⟨[], rfl⟩
  | e :: r, h => by
    obtain ⟨ds, rfl, hd⟩ := h e List.mem_cons_self
    obtain ⟨x, hx⟩ := lft_of hd
    obtain ⟨l, rfl⟩ := lftl_of (es := r) (fun y hy => h y (List.mem_cons_of_mem _ hy))
    exact ⟨x :: l, by rw [hx]; rfl⟩
theorem opens_of {cs : List PV} (h : HasSh shOpens cs) : ∃ l : List Opn, boxSh shOpens cs = .sl (l.map opV) ∧ l.length ≤ 9223372036854775807 := by
  obtain ⟨es, rfl, hl, hall⟩ := h.sl_inv
  obtain ⟨l, rfl⟩ := opnl_of hall
  rw [List.length_map] at hl
  exact ⟨l, rfl, hl⟩
theorem lefts_of {cs : List PV} (h : HasSh shLefts cs) : ∃ l : List Lft, boxSh shLefts cs = .sl (l.map lfV) ∧ l.length ≤ 9223372036854775807 := by
  obtain ⟨es, rfl, hl, hall⟩ := h.sl_inv
  obtain ⟨l, rfl⟩ := lftl_of hall
  rw [List.length_map] at hl
  exact ⟨l, rfl, hl⟩
theorem car_of {cs : List PV} (h : HasSh shCar cs) : ∃ x : Car, boxSh shCar cs = caV x ∧ x.a.length ≤ 9223372036854775807 ∧ x.b.length ≤ 9223372036854775807 ∧ x.c.length ≤ 9223372036854775807 := by
  obtain ⟨_, _, rfl, h1, h⟩ := h.cons_inv
  obtain ⟨_, _, rfl, h2, h⟩ := h.cons_inv
  obtain ⟨_, _, rfl, h3, h⟩ := h.cons_inv
  obtain rfl := h.nil_inv
  obtain ⟨e1, rfl, l1, a1⟩ := h1.sl_inv
  obtain ⟨e2, rfl, l2, a2⟩ := h2.sl_inv
  obtain ⟨e3, rfl, l3, a3⟩ := h3.sl_inv
  obtain ⟨o1, rfl⟩ := opnl_of a1
  obtain ⟨o2, rfl⟩ := opnl_of a2
  obtain ⟨o3, rfl⟩ := lftl_of a3
  rw [List.length_map] at l1 l2 l3
  exact ⟨⟨o1, o2, o3⟩, rfl, l1, l2, l3⟩
end Go.AM
