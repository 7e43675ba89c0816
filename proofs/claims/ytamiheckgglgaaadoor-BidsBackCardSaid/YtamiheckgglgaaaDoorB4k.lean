/-
  A part of a proof: see the last text of this claim for what is proved.
-/
import Derived.Test.YtamiheckgglgaaaDoorB4j
import Derived.Test.YtamiheckgglgaaaDoorZMa
/-! BidsOrder -/
namespace Go.AM
open Go Go.Proofs Go.IntWalk
set_option maxRecDepth 100000
set_option maxHeartbeats 1000000
set_option linter.unusedSimpArgs false
set_option linter.unusedVariables false
noncomputable def Ψn (g : FuncId) : Option ESpec := putΨ Ψt5 7 newS g
theorem hΨn : ETab GG Ψn := hΨt5.put w_newS psiNew_mono
def planA : Plan := { keep := fun _ => none, cut := fun _ => false, stop := fun i => i == 2 }
def planO : Plan := { keep := fun _ => none, cut := fun _ => false, stop := fun i => i == 8 }
theorem totF_perm (f : Bool) {l m : List Bid} (h : l.Perm m) : totF f l = totF f m := by
  induction h with
  | nil => rfl
  | cons x _ ih => simp only [totF, ih]
  | swap x y _ => simp only [totF]; omega
  | trans _ _ i1 i2 => exact i1.trans i2
def sumB : List Bid → Int
  | [] => 0
  | x :: r => x.a + sumB r
theorem sumB_app : ∀ p q : List Bid, sumB (p ++ q) = sumB p + sumB q
  | [], q => by simp [sumB]
  | x :: p, q => by simp only [List.cons_append, sumB, sumB_app p q]; omega
theorem tot_sum : ∀ l : List Bid, (∀ x, x ∈ l → vB x = true) → totF true l + totF false l = sumB l
  | [], _ => rfl
  | x :: r, h => by
    have ih := tot_sum r (fun y hy => h y (List.mem_cons_of_mem _ hy))
    have hx := h x List.mem_cons_self
    simp only [totF, sumB, hx, Bool.true_and]
    cases x.f <;> simp <;> omega
theorem sumB_le : ∀ l : List Bid, (∀ x, x ∈ l → vB x = true) → 0 ≤ sumB l ∧ sumB l ≤ l.length * 1000000000
  | [], _ => by simp [sumB]
  | x :: r, h => by
    have ih := sumB_le r (fun y hy => h y (List.mem_cons_of_mem _ hy))
    have hx := (vB_parts (h x List.mem_cons_self)).2.2.1
    simp only [sumB, List.length_cons, Int.natCast_add, Int.add_mul]
    omega
noncomputable def orderLS : PSpec := on_l (fun es => es.length ≤ 9223372036854775807 ∧ ∀ e, e ∈ es → isI e) (fun _ => .bool true)
theorem k_orderL_10 {args : List PV} : Bi 10 args = beforeS args := rfl
theorem k_orderL_11 {args : List PV} : Bi 11 args = sameS args := rfl
theorem k_orderL_12 {args : List PV} : Bi 12 args = totalS args := rfl
theorem k_orderL_13 {args : List PV} : Bi 13 args = saneS args := rfl
theorem w_orderLS : PSound GG 3 orderLS := by
  refine PSound.of_wpc (C := cxQ Tryd.prog Bi Θ4 Ψn [] [] 96) (T := planA) Tryd.func3 rfl rfl rfl (Fit.all (G := GG) hBi hΘ4 hΨn mixed) (fun args h => ?_)
  unfold orderLS at h
  obtain ⟨es0, rfl, he1, he2⟩ := on_l_inv h
  refine ⟨by simp [cxQ], ?_⟩
  simp only [orderLS, on_l_eq, Ψn, Ψt5, Ψt4, Ψt3, Ψt2, Ψt1, Θ4, Θ3, Θ2, Θ1, Ψ1, newS, preT_eq, nS, preN_eq, preB_eq, okN, arg1, arg2, intV, bidsV, map_bidOf, Nat.reduceBEq, psiNew_eq, psiRow_eq, all_sl, sortS, on_l_eq, List.length_map, List.take_succ_cons, List.take_nil, Tryd.underlying1, sz1, by1, ze1, Tryd.underlying3, sz3, by3, ze3, Tryd.underlying4, sz4, by4, ze4, Tryd.underlying22, sz22, by22, ze22, Tryd.underlying23, sz23, by23, ze23, Tryd.underlying25, sz25, by25, ze25, Tryd.underlying28, sz28, by28, ze28, fa28_0, fa28_1, fa28_2, fa28_3, fa28_4, Tryd.f3, argL, planA, go_sem, ↓reduceIte, reduceCtorEq, Nat.reduceEqDiff, Nat.reduceLT, ↓all_qVz, ↓all_qVz', Int.reduceToNat, Int.reduceLT, Int.reduceLE, Nat.reduceAdd, Nat.reduceLeDiff, Nat.reduceMul, ev_callG, gcallK_b, gcallK_w, callGc_true, callGc_false]
  refine ⟨⟨he1, he2⟩, ?_⟩
  refine AWp.here (T := planO) (α := Unit) (fun _ => ([(2, .pv (.bool false)), (3, .ptr 14 0)], [(14, .obj Tp)])) (fun _ => True) ⟨(), trivial, ⟨by simp [fitR, look], by simp [fitH, hget], rfl, rfl, rfl⟩⟩ ?_
  intro _ _
  simp only [Ψn, Ψt5, Ψt4, Ψt3, Ψt2, Ψt1, Θ4, Θ3, Θ2, Θ1, Ψ1, newS, preT_eq, nS, preN_eq, preB_eq, okN, arg1, arg2, intV, bidsV, map_bidOf, Nat.reduceBEq, psiNew_eq, psiRow_eq, all_sl, sortS, on_l_eq, List.length_map, List.take_succ_cons, List.take_nil, Tryd.underlying1, sz1, by1, ze1, Tryd.underlying3, sz3, by3, ze3, Tryd.underlying4, sz4, by4, ze4, Tryd.underlying22, sz22, by22, ze22, Tryd.underlying23, sz23, by23, ze23, Tryd.underlying25, sz25, by25, ze25, Tryd.underlying28, sz28, by28, ze28, fa28_0, fa28_1, fa28_2, fa28_3, fa28_4, planO, go_sem, ↓reduceIte, reduceCtorEq, Nat.reduceEqDiff, Nat.reduceLT, ↓all_qVz, ↓all_qVz', Int.reduceToNat, Int.reduceLT, Int.reduceLE, Nat.reduceAdd, Nat.reduceLeDiff, Nat.reduceMul, ev_callG, gcallK_b, gcallK_w, callGc_true, callGc_false]
  intro l hl
  obtain ⟨hl1, hl2⟩ := hl
  rw [Stop_eq]
  have hn : l.length ≤ 10 := by simp only [arg1] at hl1; omega
  have hv := bidsG_vB hl2
  have hnd := bidsG_nd hl2
  have hw : IntKind.i64.wrap ((l.length : Int) - 1) = (l.length : Int) - 1 := i64_in _ (by omega)
  simp only [hw, Ψn, Ψt5, Ψt4, Ψt3, Ψt2, Ψt1, Θ4, Θ3, Θ2, Θ1, Ψ1, newS, preT_eq, nS, preN_eq, preB_eq, okN, arg1, arg2, intV, bidsV, map_bidOf, Nat.reduceBEq, psiNew_eq, psiRow_eq, all_sl, sortS, on_l_eq, List.length_map, List.take_succ_cons, List.take_nil, Tryd.underlying1, sz1, by1, ze1, Tryd.underlying3, sz3, by3, ze3, Tryd.underlying4, sz4, by4, ze4, Tryd.underlying22, sz22, by22, ze22, Tryd.underlying23, sz23, by23, ze23, Tryd.underlying25, sz25, by25, ze25, Tryd.underlying28, sz28, by28, ze28, fa28_0, fa28_1, fa28_2, fa28_3, fa28_4, planO, go_sem, ↓reduceIte, reduceCtorEq, Nat.reduceEqDiff, Nat.reduceLT, ↓all_qV, Int.reduceToNat, Int.reduceLT, Int.reduceLE, Nat.reduceAdd, Nat.reduceLeDiff, Nat.reduceMul, ev_callG, gcallK_b, gcallK_w, callGc_true, callGc_false]
  refine AWp.adoptS (s := 5) (κ := 8000) (k := 5) (by simp [look]) rfl (by decide) ?_
  refine AWp.loop (T := planO) (α := Nat) (fun i => ([(4, .pv (.sl (l.map bidV))), (5, .rs 8000 (l.length - i)), (6, .pv (.int .i64 ((i : Int) - 1)))], [(8000, .row 5 ((l.drop i).reverse.map bidV))])) (fun i => i ≤ l.length) (fun i => i)
    ⟨l.length, Nat.le_refl _, ⟨by simp [fitR, look, upd], by simp [fitH, hget, hset], rfl, rfl, rfl⟩⟩ ?_
  intro i hi
  cases i with
  | succ i =>
    have c0 : decide (0 ≤ (i : Int)) = true := by simp
    have hj : ((i + 1 : Nat) : Int) - 1 = (i : Int) := by omega
    have hj2 : IntKind.i64.wrap ((i : Int) - 1) = (i : Int) - 1 := i64_in _ (by omega)
    have e1 := getD_bid (l := l) (i := i) (by omega)
    have hd := drop_cons' (l := l) (i := i) (by omega)
    generalize l.getD i default = x at e1 hd
    have tk : ((l.drop (i + 1)).reverse.map bidV).take (l.length - (i + 1)) = (l.drop (i + 1)).reverse.map bidV := List.take_of_length_le (by simp)
    obtain ⟨b, n, p, a, f⟩ := x
    simp only [bidV] at e1
    simp only [c0, hj, hj2, e1, tk, Ψn, Ψt5, Ψt4, Ψt3, Ψt2, Ψt1, Θ4, Θ3, Θ2, Θ1, Ψ1, newS, preT_eq, nS, preN_eq, preB_eq, okN, arg1, arg2, intV, bidsV, map_bidOf, Nat.reduceBEq, psiNew_eq, psiRow_eq, all_sl, sortS, on_l_eq, List.length_map, List.take_succ_cons, List.take_nil, Tryd.underlying1, sz1, by1, ze1, Tryd.underlying3, sz3, by3, ze3, Tryd.underlying4, sz4, by4, ze4, Tryd.underlying22, sz22, by22, ze22, Tryd.underlying23, sz23, by23, ze23, Tryd.underlying25, sz25, by25, ze25, Tryd.underlying28, sz28, by28, ze28, fa28_0, fa28_1, fa28_2, fa28_3, fa28_4, planO, go_sem, ↓reduceIte, reduceCtorEq, Nat.reduceEqDiff, Nat.reduceLT, ↓all_qV, Int.reduceToNat, Int.reduceLT, Int.reduceLE, Nat.reduceAdd, Nat.reduceLeDiff, Nat.reduceMul, ev_callG, gcallK_b, gcallK_w, callGc_true, callGc_false]
    refine ⟨⟨by omega, by omega⟩, rfl, fun e he => by simp only [List.mem_singleton] at he; subst he; rfl, by simp, by omega, by simp only [maxLen]; omega, i, by omega, by omega, ⟨by simp [fitR, look]; omega, ?_, rfl, rfl, rfl⟩⟩
    rw [hd]
    simp [fitH, hget, bidV]
  | zero =>
    have c0 : decide ((0 : Int) ≤ -1) = false := by decide
    have hz1 : ((0 : Nat) : Int) - 1 = -1 := by decide
    have hz2 : (0 : Int) - 1 = -1 := by decide
    have tk : ((l.drop 0).reverse.map bidV).take (l.length - 0) = l.reverse.map bidV := List.take_of_length_le (by simp)
    simp only [decide_false, hz1, hz2, tk, Ψn, Ψt5, Ψt4, Ψt3, Ψt2, Ψt1, Θ4, Θ3, Θ2, Θ1, Ψ1, newS, preT_eq, nS, preN_eq, preB_eq, okN, arg1, arg2, intV, bidsV, map_bidOf, Nat.reduceBEq, psiNew_eq, psiRow_eq, all_sl, sortS, on_l_eq, List.length_map, List.take_succ_cons, List.take_nil, Tryd.underlying1, sz1, by1, ze1, Tryd.underlying3, sz3, by3, ze3, Tryd.underlying4, sz4, by4, ze4, Tryd.underlying22, sz22, by22, ze22, Tryd.underlying23, sz23, by23, ze23, Tryd.underlying25, sz25, by25, ze25, Tryd.underlying28, sz28, by28, ze28, fa28_0, fa28_1, fa28_2, fa28_3, fa28_4, planO, go_sem, ↓reduceIte, reduceCtorEq, Nat.reduceEqDiff, Nat.reduceLT, ↓all_qV, Int.reduceToNat, Int.reduceLT, Int.reduceLE, Nat.reduceAdd, Nat.reduceLeDiff, Nat.reduceMul, ev_callG, gcallK_b, gcallK_w, callGc_true, callGc_false]
    refine AWp.freeze (T := plan0) 8000 5 (α := Unit) (fun _ => l.reverse.map bidV) (fun _ => ([(4, .pv (.sl (l.map bidV))), (5, .pv (.sl (l.reverse.map bidV)))], [])) (fun _ => True) ⟨(), trivial, ⟨by simp [hget], rfl, ?_, trivial, rfl, rfl, rfl⟩⟩ ?_
    · refine ⟨.inl (by simp [look]), .inr ⟨l.length, by simp [look], by simp, by rw [List.take_of_length_le (by simp)]⟩, trivial⟩
    rintro _ _
    have hsr := srt_perm hnd (List.reverse_perm l)
    have hst := srt_str hnd
    have hsl := srtL_length l
    have hsp : ∀ x, x ∈ srtL l → x ∈ l := fun x hx => (mem_isort ltB).1 hx
    simp only [hsr, k_orderL_10, beforeS, on_pp_eq, k_orderL_11, sameS, on_ll_eq, k_orderL_12, totalS, on_lb_eq, k_orderL_13, saneS, on__eq, Ψn, Ψt5, Ψt4, Ψt3, Ψt2, Ψt1, Θ4, Θ3, Θ2, Θ1, Ψ1, newS, preT_eq, nS, preN_eq, preB_eq, okN, arg1, arg2, intV, bidsV, map_bidOf, Nat.reduceBEq, psiNew_eq, psiRow_eq, all_sl, sortS, on_l_eq, List.length_map, List.take_succ_cons, List.take_nil, Tryd.underlying1, sz1, by1, ze1, Tryd.underlying3, sz3, by3, ze3, Tryd.underlying4, sz4, by4, ze4, Tryd.underlying22, sz22, by22, ze22, Tryd.underlying23, sz23, by23, ze23, Tryd.underlying25, sz25, by25, ze25, Tryd.underlying28, sz28, by28, ze28, fa28_0, fa28_1, fa28_2, fa28_3, fa28_4, plan0, go_sem, ↓reduceIte, reduceCtorEq, Nat.reduceEqDiff, Nat.reduceLT, ↓all_qV, Int.reduceToNat, Int.reduceLT, Int.reduceLE, Nat.reduceAdd, Nat.reduceLeDiff, Nat.reduceMul, ev_callG, gcallK_b, gcallK_w, callGc_true, callGc_false, List.forall_mem_cons, List.not_mem_nil, PV.one, AV.one]
    refine ⟨⟨⟨l, rfl⟩, by omega⟩, ⟨⟨l.reverse, rfl⟩, by simp; omega⟩, ?_⟩
    generalize srtL l = s at hst hsl hsp ⊢
    refine AWp.loop (T := plan0) (α := Nat) (fun i => ([(4, .pv (.sl (l.map bidV))), (5, .pv (.sl (l.reverse.map bidV))), (7, .rs 32 s.length), (8, .rs 34 s.length), (36, .pv (.int .i64 s.length)), (37, .pv (.int .i64 i))], [(32, .row 5 (s.map bidV)), (34, .row 5 (s.map bidV))])) (fun i => i ≤ s.length) (fun i => s.length - i)
      ⟨0, Nat.zero_le _, ⟨by simp [fitR, look, upd], by simp [fitH, hget, hset], rfl, rfl, rfl⟩⟩ ?_
    intro i hi
    have hi1 : IntKind.i64.wrap ((i : Int) + 1) = ((i + 1 : Nat) : Int) := by rw [i64_in _ (by omega)]; omega
    by_cases hlt : i < s.length
    · have c0 : decide ((i : Int) < (s.length : Int)) = true := by simp; omega
      cases i with
      | zero =>
        have c9 : decide (0 < (s.length : Int)) = true := by simp; omega
        have q1 : IntKind.i64.wrap (0 + 1) = 1 := by decide
        have q2 : decide ((0 : Int) < 0) = false := by decide
        simp only [c9, q1, q2, k_orderL_10, beforeS, on_pp_eq, k_orderL_11, sameS, on_ll_eq, k_orderL_12, totalS, on_lb_eq, k_orderL_13, saneS, on__eq, Ψn, Ψt5, Ψt4, Ψt3, Ψt2, Ψt1, Θ4, Θ3, Θ2, Θ1, Ψ1, newS, preT_eq, nS, preN_eq, preB_eq, okN, arg1, arg2, intV, bidsV, map_bidOf, Nat.reduceBEq, psiNew_eq, psiRow_eq, all_sl, sortS, on_l_eq, List.length_map, List.take_succ_cons, List.take_nil, Tryd.underlying1, sz1, by1, ze1, Tryd.underlying3, sz3, by3, ze3, Tryd.underlying4, sz4, by4, ze4, Tryd.underlying22, sz22, by22, ze22, Tryd.underlying23, sz23, by23, ze23, Tryd.underlying25, sz25, by25, ze25, Tryd.underlying28, sz28, by28, ze28, fa28_0, fa28_1, fa28_2, fa28_3, fa28_4, plan0, go_sem, ↓reduceIte, reduceCtorEq, Nat.reduceEqDiff, Nat.reduceLT, ↓all_qV, Int.reduceToNat, Int.reduceLT, Int.reduceLE, Nat.reduceAdd, Nat.reduceLeDiff, Nat.reduceMul, ev_callG, gcallK_b, gcallK_w, callGc_true, callGc_false, List.forall_mem_cons, List.not_mem_nil, PV.one, AV.one]
        have nf : ∀ {p : Prop}, decide False = true → p := fun h => by simp at h
        refine ⟨by kernel_rfl, nf, nf, nf, nf, nf, fun h => by simp at h, fun _ => ⟨1, by omega, by omega, ⟨by simp [fitR, look], by simp [fitH, hget], rfl, rfl, rfl⟩⟩⟩
      | succ j =>
        have c1 : decide (0 < ((j + 1 : Nat) : Int)) = true := by simp
        have w2 : IntKind.i64.wrap (((j + 1 : Nat) : Int) - 1) = (j : Int) := by rw [i64_in _ (by omega)]; omega
        have e1 := getD_bid (l := s) (i := j) (by omega)
        have e2 := getD_bid (l := s) (i := j + 1) hlt
        have hlt2 : cmpB (s.getD j default) (s.getD (j + 1) default) < 0 := by
          have h1 := (List.pairwise_iff_getElem.1 hst) j (j + 1) (by omega) hlt (by omega)
          simpa [List.getD_eq_getElem?_getD, hlt, (show j < s.length by omega)] using h1
        generalize s.getD j default = x at e1 hlt2
        generalize s.getD (j + 1) default = y at e2 hlt2
        obtain ⟨b, n, p, a, f⟩ := x
        obtain ⟨b', n', p', a', f'⟩ := y
        simp only [bidV] at e1 e2
        have hd : decide (cmpB ⟨b, n, p, a, f⟩ ⟨b', n', p', a', f'⟩ < 0) = true := by simpa using hlt2
        simp only [c0, c1, w2, e1, e2, hi1, bidOf_agg, hd, k_orderL_10, beforeS, on_pp_eq, k_orderL_11, sameS, on_ll_eq, k_orderL_12, totalS, on_lb_eq, k_orderL_13, saneS, on__eq, Ψn, Ψt5, Ψt4, Ψt3, Ψt2, Ψt1, Θ4, Θ3, Θ2, Θ1, Ψ1, newS, preT_eq, nS, preN_eq, preB_eq, okN, arg1, arg2, intV, bidsV, map_bidOf, Nat.reduceBEq, psiNew_eq, psiRow_eq, all_sl, sortS, on_l_eq, List.length_map, List.take_succ_cons, List.take_nil, Tryd.underlying1, sz1, by1, ze1, Tryd.underlying3, sz3, by3, ze3, Tryd.underlying4, sz4, by4, ze4, Tryd.underlying22, sz22, by22, ze22, Tryd.underlying23, sz23, by23, ze23, Tryd.underlying25, sz25, by25, ze25, Tryd.underlying28, sz28, by28, ze28, fa28_0, fa28_1, fa28_2, fa28_3, fa28_4, plan0, go_sem, ↓reduceIte, reduceCtorEq, Nat.reduceEqDiff, Nat.reduceLT, ↓all_qV, Int.reduceToNat, Int.reduceLT, Int.reduceLE, Nat.reduceAdd, Nat.reduceLeDiff, Nat.reduceMul, ev_callG, gcallK_b, gcallK_w, callGc_true, callGc_false, List.forall_mem_cons, List.not_mem_nil, PV.one, AV.one]
        refine ⟨by kernel_rfl, ?_⟩
        and_intros
        all_goals try first | omega | exact isBid_agg
        · intro h9
          have h8 : (!decide (cmpB ⟨b, n, p, a, f⟩ ⟨b', n', p', a', f'⟩ < 0)) = true := h9
          rw [hd] at h8; cases h8
        · intro _; exact ⟨j + 1 + 1, by omega, by omega, ⟨by simp [fitR, look], by simp [fitH, hget], rfl, rfl, rfl⟩⟩
    · have c0 : decide ((i : Int) < (s.length : Int)) = false := by simp; omega
      simp only [c0, hi1, k_orderL_10, beforeS, on_pp_eq, k_orderL_11, sameS, on_ll_eq, k_orderL_12, totalS, on_lb_eq, k_orderL_13, saneS, on__eq, Ψn, Ψt5, Ψt4, Ψt3, Ψt2, Ψt1, Θ4, Θ3, Θ2, Θ1, Ψ1, newS, preT_eq, nS, preN_eq, preB_eq, okN, arg1, arg2, intV, bidsV, map_bidOf, Nat.reduceBEq, psiNew_eq, psiRow_eq, all_sl, sortS, on_l_eq, List.length_map, List.take_succ_cons, List.take_nil, Tryd.underlying1, sz1, by1, ze1, Tryd.underlying3, sz3, by3, ze3, Tryd.underlying4, sz4, by4, ze4, Tryd.underlying22, sz22, by22, ze22, Tryd.underlying23, sz23, by23, ze23, Tryd.underlying25, sz25, by25, ze25, Tryd.underlying28, sz28, by28, ze28, fa28_0, fa28_1, fa28_2, fa28_3, fa28_4, plan0, go_sem, ↓reduceIte, reduceCtorEq, Nat.reduceEqDiff, Nat.reduceLT, ↓all_qV, Int.reduceToNat, Int.reduceLT, Int.reduceLE, Nat.reduceAdd, Nat.reduceLeDiff, Nat.reduceMul, ev_callG, gcallK_b, gcallK_w, callGc_true, callGc_false, List.forall_mem_cons, List.not_mem_nil, PV.one, AV.one]
      refine AWp.loop (T := plan0) (α := Nat) (fun i => ([(4, .pv (.sl (l.map bidV))), (5, .pv (.sl (l.reverse.map bidV))), (7, .rs 32 s.length), (8, .rs 34 s.length), (10, .pv (.int .i64 (sumB (l.take i)))), (56, .pv (.sl (l.map bidV))), (57, .pv (.int .i64 l.length)), (58, .pv (.int .i64 i))], [(32, .row 5 (s.map bidV)), (34, .row 5 (s.map bidV))])) (fun i => i ≤ l.length) (fun i => l.length - i)
        ⟨0, Nat.zero_le _, ⟨by simp [fitR, look, sumB], by simp [fitH, hget, hset], rfl, rfl, rfl⟩⟩ ?_
      intro i hi
      have hi1 : IntKind.i64.wrap ((i : Int) + 1) = ((i + 1 : Nat) : Int) := by rw [i64_in _ (by omega)]; omega
      by_cases hlt : i < l.length
      · have c0 : decide ((i : Int) < (l.length : Int)) = true := by simp; omega
        have e1 := getD_bid hlt
        have hvx := vB_parts (hv _ (mem_getD' hlt))
        have hsum := sumB_le (l.take i) (fun x hx => hv x (List.mem_of_mem_take hx))
        rw [List.length_take, Nat.min_eq_left (by omega)] at hsum
        have hst2 : sumB (l.take (i + 1)) = sumB (l.take i) + (l.getD i default).a := by rw [take_succ' hlt, sumB_app]; simp [sumB]
        generalize l.getD i default = x at e1 hvx hst2
        obtain ⟨b, n, p, a, f⟩ := x
        simp only [bidV] at e1
        simp only at hvx hst2
        generalize sumB (l.take i) = S at hsum hst2 ⊢
        have w3 : IntKind.i64.wrap (S + a) = S + a := i64_in _ (by omega)
        simp only [c0, e1, hi1, w3, k_orderL_10, beforeS, on_pp_eq, k_orderL_11, sameS, on_ll_eq, k_orderL_12, totalS, on_lb_eq, k_orderL_13, saneS, on__eq, Ψn, Ψt5, Ψt4, Ψt3, Ψt2, Ψt1, Θ4, Θ3, Θ2, Θ1, Ψ1, newS, preT_eq, nS, preN_eq, preB_eq, okN, arg1, arg2, intV, bidsV, map_bidOf, Nat.reduceBEq, psiNew_eq, psiRow_eq, all_sl, sortS, on_l_eq, List.length_map, List.take_succ_cons, List.take_nil, Tryd.underlying1, sz1, by1, ze1, Tryd.underlying3, sz3, by3, ze3, Tryd.underlying4, sz4, by4, ze4, Tryd.underlying22, sz22, by22, ze22, Tryd.underlying23, sz23, by23, ze23, Tryd.underlying25, sz25, by25, ze25, Tryd.underlying28, sz28, by28, ze28, fa28_0, fa28_1, fa28_2, fa28_3, fa28_4, plan0, go_sem, ↓reduceIte, reduceCtorEq, Nat.reduceEqDiff, Nat.reduceLT, ↓all_qV, Int.reduceToNat, Int.reduceLT, Int.reduceLE, Nat.reduceAdd, Nat.reduceLeDiff, Nat.reduceMul, ev_callG, gcallK_b, gcallK_w, callGc_true, callGc_false, List.forall_mem_cons, List.not_mem_nil, PV.one, AV.one]
        refine ⟨⟨by omega, by omega⟩, i + 1, by omega, by omega, ⟨by simp [fitR, look, hst2], by simp [fitH, hget], rfl, rfl, rfl⟩⟩
      · have c0 : decide ((i : Int) < (l.length : Int)) = false := by simp; omega
        have ht1 := tot_sum l hv
        have ht2 := totF_perm true (List.reverse_perm l)
        have hb1 := totF_le true l
        have hb2 := totF_le false l
        have w4 : IntKind.i64.wrap (totF true l + totF false l) = sumB l := by rw [i64_in _ (by omega)]; exact ht1
        have z4 : decide ((s.length : Int) = (l.length : Int)) = true := by simp; omega
        have tk2 : (s.map bidV).take s.length = s.map bidV := List.take_of_length_le (by simp)
        rw [List.take_of_length_le (by omega)]
        simp only [c0, w4, ht2, z4, tk2, k_orderL_10, beforeS, on_pp_eq, k_orderL_11, sameS, on_ll_eq, k_orderL_12, totalS, on_lb_eq, k_orderL_13, saneS, on__eq, Ψn, Ψt5, Ψt4, Ψt3, Ψt2, Ψt1, Θ4, Θ3, Θ2, Θ1, Ψ1, newS, preT_eq, nS, preN_eq, preB_eq, okN, arg1, arg2, intV, bidsV, map_bidOf, Nat.reduceBEq, psiNew_eq, psiRow_eq, all_sl, sortS, on_l_eq, List.length_map, List.take_succ_cons, List.take_nil, Tryd.underlying1, sz1, by1, ze1, Tryd.underlying3, sz3, by3, ze3, Tryd.underlying4, sz4, by4, ze4, Tryd.underlying22, sz22, by22, ze22, Tryd.underlying23, sz23, by23, ze23, Tryd.underlying25, sz25, by25, ze25, Tryd.underlying28, sz28, by28, ze28, fa28_0, fa28_1, fa28_2, fa28_3, fa28_4, plan0, go_sem, ↓reduceIte, reduceCtorEq, Nat.reduceEqDiff, Nat.reduceLT, ↓all_qV, Int.reduceToNat, Int.reduceLT, Int.reduceLE, Nat.reduceAdd, Nat.reduceLeDiff, Nat.reduceMul, ev_callG, gcallK_b, gcallK_w, callGc_true, callGc_false, List.forall_mem_cons, List.not_mem_nil, PV.one, AV.one]
        have zz : ((s.length : Int) == (l.length : Int)) = true := by rw [hsl]; exact beq_self_eq_true _
        exact ⟨fun _ => ⟨Nat.le_refl _, by omega, _, rfl⟩, fun _ => ⟨⟨l, rfl⟩, by omega⟩, fun _ => ⟨⟨l, rfl⟩, by omega⟩, fun _ => ⟨⟨l.reverse, rfl⟩, by simp; omega⟩, fun _ => ⟨⟨l, rfl⟩, by omega⟩, by rw [zz]⟩
end Go.AM
