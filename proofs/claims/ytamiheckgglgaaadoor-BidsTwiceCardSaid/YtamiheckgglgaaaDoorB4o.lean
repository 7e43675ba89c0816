/-
  A part of a proof: see the last text of this claim for what is proved.
-/
import Derived.Test.YtamiheckgglgaaaDoorB4m
import Derived.Test.YtamiheckgglgaaaDoorNE
import Derived.Test.YtamiheckgglgaaaDoorZMa
/-! BidsTwice -/
namespace Go.AM
open Go Go.Proofs Go.IntWalk
set_option maxRecDepth 100000
set_option maxHeartbeats 1000000
set_option linter.unusedSimpArgs false
set_option linter.unusedVariables false
theorem vB_lot {b n p a c : Int} {f : Bool} (h : vB ⟨b, n, p, a, f⟩ = true) (hc : lotB c = true) : vB ⟨b, n, p, c, f⟩ = true := by
  unfold vB at h ⊢
  simp only [Bool.and_eq_true] at h ⊢
  exact ⟨⟨h.1.1, hc⟩, h.2⟩
theorem vB_num {b n p a c : Int} {f : Bool} (h : vB ⟨b, n, p, a, f⟩ = true) (hc : 1 ≤ c ∧ c ≤ 40) : vB ⟨b, c, p, a, f⟩ = true := by
  unfold vB at h ⊢
  simp only [Bool.and_eq_true] at h ⊢
  exact ⟨⟨⟨h.1.1.1, by simp [amg, hc]⟩, h.1.2⟩, h.2⟩
theorem okNs_dup : ∀ (l seen : List Bid) (x : Bid), namB x (seen ++ l) = true → okNs seen (l ++ [x]) = false
  | [], seen, x, h => by rw [List.append_nil] at h; rw [List.nil_append, okNs, h]; rfl
  | y :: r, seen, x, h => by
    rw [List.cons_append, okNs, okNs_dup r (seen ++ [y]) x (by rw [List.append_assoc]; exact h), Bool.and_false]
theorem chk_dup {l : List Bid} {x y : Bid} (hv : ∀ x, x ∈ l → vB x = true) (hn : l.length ≤ 8) (hd : l.Pairwise fun a b => a.n ≠ b.n) (hy : y ∈ l) (e1 : y.b = x.b) (e2 : y.n = x.n) (hx : vB x = true) : chkF (l ++ [x]) = 7 := by
  unfold chkF
  rw [okNs_dup l [] x (by unfold namB; rw [List.nil_append, List.any_eq_true]; exact ⟨y, hy, by simp [e1, e2]⟩), show decide (60 < ((l ++ [x]).length : Int)) = false by simp; omega,
    show ((l ++ [x]).any fun x => !vB x) = false by
      rw [List.any_eq_false]
      intro z hz
      rcases List.mem_append.1 hz with hz | hz
      · simp [hv z hz]
      · rw [List.mem_singleton] at hz; simp [hz, hx]]
  rfl
def planT : Plan := { keep := fun _ => none, cut := fun _ => false, stop := fun i => i == 7 || i == 10 }
noncomputable def twiceLS : PSpec := on_lu (fun es m => (es.length ≤ 9223372036854775807 ∧ ∀ e, e ∈ es → isI e) ∧ 0 ≤ m ∧ m ≤ 255) (fun _ _ => .bool true)
theorem k_twiceL_12 {args : List PV} : Bi 12 args = totalS args := rfl
theorem k_twiceL_13 {args : List PV} : Bi 13 args = saneS args := rfl
theorem k_twiceL_14 {args : List PV} : Bi 14 args = formatS args := rfl
theorem k_twiceL_18 {args : List PV} : Bi 18 args = checkS args := rfl
theorem w_twiceLS : PSound GG 6 twiceLS := by
  refine PSound.of_wpc (C := cxQ Tryd.prog Bi Θ4 Ψn [] [] 77) (T := planA) Tryd.func6 rfl rfl rfl (Fit.all (G := GG) hBi hΘ4 hΨn mixed) (fun args h => ?_)
  unfold twiceLS at h
  obtain ⟨es0, m, rfl, ⟨he1, he2⟩, hm1, hm2⟩ := on_lu_inv h
  refine ⟨by simp [cxQ], ?_⟩
  simp only [twiceLS, on_lu_eq, k_twiceL_12, totalS, on_lb_eq, k_twiceL_13, saneS, on__eq, k_twiceL_14, formatS, on_l_eq, k_twiceL_18, checkS, Ψn, Ψt5, Ψt4, Ψt3, Ψt2, Ψt1, Θ4, Θ3, Θ2, Θ1, Ψ1, newS, preT_eq, nS, preN_eq, preB_eq, okN, arg1, arg2, intV, bidsV, map_bidOf, Nat.reduceBEq, psiNew_eq, psiRow_eq, all_sl, sortS, on_l_eq, List.length_map, List.take_succ_cons, List.take_nil, Tryd.underlying1, sz1, by1, ze1, Tryd.underlying3, sz3, by3, ze3, Tryd.underlying4, sz4, by4, ze4, Tryd.underlying5, sz5, by5, ze5, Tryd.underlying9, sz9, by9, ze9, Tryd.underlying22, sz22, by22, ze22, Tryd.underlying23, sz23, by23, ze23, Tryd.underlying25, sz25, by25, ze25, Tryd.underlying28, sz28, by28, ze28, fa28_0, fa28_1, fa28_2, fa28_3, fa28_4, Tryd.underlying35, sz35, by35, ze35, Tryd.underlying36, sz36, by36, ze36, Tryd.f6, argL, planA, go_sem, ↓reduceIte, reduceCtorEq, Nat.reduceEqDiff, Nat.reduceLT, ↓all_qVz, ↓all_qVz', Int.reduceToNat, Int.reduceLT, Int.reduceLE, Nat.reduceAdd, Nat.reduceLeDiff, Nat.reduceMul, ev_callG, gcallK_b, gcallK_w, callGc_true, callGc_false]
  refine ⟨⟨he1, he2⟩, ?_⟩
  refine AWp.here (T := planT) (α := Unit) (fun _ => ([(1, .pv (.int .u8 m)), (4, .pv (.bool false)), (5, .ptr 13 0)], [(13, .obj Tp)])) (fun _ => True) ⟨(), trivial, ⟨by simp [fitR, look], by simp [fitH, hget], rfl, rfl, rfl⟩⟩ ?_
  intro _ _
  simp only [k_twiceL_12, totalS, on_lb_eq, k_twiceL_13, saneS, on__eq, k_twiceL_14, formatS, on_l_eq, k_twiceL_18, checkS, Ψn, Ψt5, Ψt4, Ψt3, Ψt2, Ψt1, Θ4, Θ3, Θ2, Θ1, Ψ1, newS, preT_eq, nS, preN_eq, preB_eq, okN, arg1, arg2, intV, bidsV, map_bidOf, Nat.reduceBEq, psiNew_eq, psiRow_eq, all_sl, sortS, on_l_eq, List.length_map, List.take_succ_cons, List.take_nil, Tryd.underlying1, sz1, by1, ze1, Tryd.underlying3, sz3, by3, ze3, Tryd.underlying4, sz4, by4, ze4, Tryd.underlying5, sz5, by5, ze5, Tryd.underlying9, sz9, by9, ze9, Tryd.underlying22, sz22, by22, ze22, Tryd.underlying23, sz23, by23, ze23, Tryd.underlying25, sz25, by25, ze25, Tryd.underlying28, sz28, by28, ze28, fa28_0, fa28_1, fa28_2, fa28_3, fa28_4, Tryd.underlying35, sz35, by35, ze35, Tryd.underlying36, sz36, by36, ze36, planT, go_sem, ↓reduceIte, reduceCtorEq, Nat.reduceEqDiff, Nat.reduceLT, ↓all_qVz, ↓all_qVz', Int.reduceToNat, Int.reduceLT, Int.reduceLE, Nat.reduceAdd, Nat.reduceLeDiff, Nat.reduceMul, ev_callG, gcallK_b, gcallK_w, callGc_true, callGc_false]
  intro l hl
  obtain ⟨hl1, hl2⟩ := hl
  rw [Stop_eq]
  have hn : l.length ≤ 8 := by simp only [arg1] at hl1; omega
  have hv := bidsG_vB hl2
  have hnd := bidsG_nd hl2
  have hcv : IntKind.i64.wrap m = m := i64_in _ (by omega)
  rcases Nat.eq_zero_or_pos l.length with h0 | h0
  · have hnil : l = [] := List.length_eq_zero_iff.1 h0
    subst hnil
    simp only [hcv, k_twiceL_12, totalS, on_lb_eq, k_twiceL_13, saneS, on__eq, k_twiceL_14, formatS, on_l_eq, k_twiceL_18, checkS, Ψn, Ψt5, Ψt4, Ψt3, Ψt2, Ψt1, Θ4, Θ3, Θ2, Θ1, Ψ1, newS, preT_eq, nS, preN_eq, preB_eq, okN, arg1, arg2, intV, bidsV, map_bidOf, Nat.reduceBEq, psiNew_eq, psiRow_eq, all_sl, sortS, on_l_eq, List.length_map, List.take_succ_cons, List.take_nil, Tryd.underlying1, sz1, by1, ze1, Tryd.underlying3, sz3, by3, ze3, Tryd.underlying4, sz4, by4, ze4, Tryd.underlying5, sz5, by5, ze5, Tryd.underlying9, sz9, by9, ze9, Tryd.underlying22, sz22, by22, ze22, Tryd.underlying23, sz23, by23, ze23, Tryd.underlying25, sz25, by25, ze25, Tryd.underlying28, sz28, by28, ze28, fa28_0, fa28_1, fa28_2, fa28_3, fa28_4, Tryd.underlying35, sz35, by35, ze35, Tryd.underlying36, sz36, by36, ze36, planT, go_sem, ↓reduceIte, reduceCtorEq, Nat.reduceEqDiff, Nat.reduceLT, ↓all_qV, Int.reduceToNat, Int.reduceLT, Int.reduceLE, Nat.reduceAdd, Nat.reduceLeDiff, Nat.reduceMul, ev_callG, gcallK_b, gcallK_w, callGc_true, callGc_false]
    exact ⟨⟨[], rfl⟩, rfl⟩
  · have z0 : (((l.length : Int)) == 0) = false := by rw [beq_eq_false_iff_ne]; omega
    obtain ⟨k, hk, hks⟩ : ∃ k : Nat, m.tmod (l.length : Int) = (k : Int) ∧ k < l.length := by
      have h1 := Int.tmod_nonneg (a := m) (l.length : Int) hm1
      have h2 := Int.tmod_lt_of_pos m (b := (l.length : Int)) (by omega)
      exact ⟨(m.tmod (l.length : Int)).toNat, by omega, by omega⟩
    have e1 := getD_bid hks
    have hy := mem_getD' hks
    have hkw : IntKind.i64.wrap (k : Int) = k := i64_in _ (by omega)
    have hy1 : (l.getD k default).n = (k : Int) + 1 := (hl2 k _ (by rw [List.getD_eq_getElem?_getD, List.getElem?_eq_getElem hks]; rfl)).2
    generalize l.getD k default = y at e1 hy hy1
    have hvy := hv _ hy
    obtain ⟨b, n, p, a, f⟩ := y
    simp only [bidV] at e1
    simp only at hy1
    simp only [hcv, hk, hkw, z0, e1, k_twiceL_12, totalS, on_lb_eq, k_twiceL_13, saneS, on__eq, k_twiceL_14, formatS, on_l_eq, k_twiceL_18, checkS, Ψn, Ψt5, Ψt4, Ψt3, Ψt2, Ψt1, Θ4, Θ3, Θ2, Θ1, Ψ1, newS, preT_eq, nS, preN_eq, preB_eq, okN, arg1, arg2, intV, bidsV, map_bidOf, Nat.reduceBEq, psiNew_eq, psiRow_eq, all_sl, sortS, on_l_eq, List.length_map, List.take_succ_cons, List.take_nil, Tryd.underlying1, sz1, by1, ze1, Tryd.underlying3, sz3, by3, ze3, Tryd.underlying4, sz4, by4, ze4, Tryd.underlying5, sz5, by5, ze5, Tryd.underlying9, sz9, by9, ze9, Tryd.underlying22, sz22, by22, ze22, Tryd.underlying23, sz23, by23, ze23, Tryd.underlying25, sz25, by25, ze25, Tryd.underlying28, sz28, by28, ze28, fa28_0, fa28_1, fa28_2, fa28_3, fa28_4, Tryd.underlying35, sz35, by35, ze35, Tryd.underlying36, sz36, by36, ze36, planT, go_sem, ↓reduceIte, reduceCtorEq, Nat.reduceEqDiff, Nat.reduceLT, ↓all_qV, Int.reduceToNat, Int.reduceLT, Int.reduceLE, Nat.reduceAdd, Nat.reduceLeDiff, Nat.reduceMul, ev_callG, gcallK_b, gcallK_w, callGc_true, callGc_false]
    refine ⟨by omega, ⟨by omega, by omega⟩, ?_⟩
    have hR1 : l.map bidV ++ [.agg [.int .i64 b, .int .i64 n, .int .i64 p, .int .i64 1000, .bool f]] = (l ++ [(⟨b, n, p, 1000, f⟩ : Bid)]).map bidV := by simp [bidV]
    have hR2 : l.map bidV ++ [.agg [.int .i64 b, .int .i64 20, .int .i64 p, .int .i64 1000, .bool f]] = (l ++ [(⟨b, 20, p, 1000, f⟩ : Bid)]).map bidV := by simp [bidV]
    have tk0 : (l.map bidV).take l.length = l.map bidV := List.take_of_length_le (by simp)
    have tk1 : ∀ y : Bid, ((l ++ [y]).map bidV).take (l.length + 1) = (l ++ [y]).map bidV := fun y => List.take_of_length_le (by simp)
    have hl1' : ∀ y : Bid, (l ++ [y]).length = l.length + 1 := fun y => by simp
    have hwd : ∀ e, e ∈ l.map bidV → e.cells.length = 5 := fun e he => by obtain ⟨x, _, rfl⟩ := List.mem_map.1 he; rfl
    have hpt := vB_parts hvy
    have hv1 : vB ⟨b, n, p, 1000, f⟩ = true := vB_lot hvy (by decide)
    have hv2 : vB ⟨b, 20, p, 1000, f⟩ = true := vB_num (vB_lot hvy (by decide)) (by omega)
    have k7 : chkF (l ++ [⟨b, n, p, 1000, f⟩]) = 7 := chk_dup hv hn hnd hy rfl rfl hv1
    have k0 : chkF (l ++ [⟨b, 20, p, 1000, f⟩]) = 0 := by
      refine chkF_ok (fun x hx => ?_) (by simp; omega) ?_
      · rcases List.mem_append.1 hx with hx | hx
        · exact hv x hx
        · rw [List.mem_singleton] at hx; rw [hx]; exact hv2
      · rw [List.pairwise_append]
        refine ⟨hnd, List.pairwise_singleton _ _, fun a ha c hc => ?_⟩
        rw [List.mem_singleton] at hc
        rw [hc]
        obtain ⟨i, hi⟩ := List.mem_iff_getElem?.1 ha
        have := (hl2 i a hi).2
        have := (List.getElem?_eq_some_iff.1 hi).1
        show a.n ≠ 20
        omega
    have kt : totF f (l ++ [⟨b, 20, p, 1000, f⟩]) = totF f l + 1000 := by rw [totF_app]; simp [totF, hv2]
    have hb := totF_le f l
    have w9 : IntKind.i64.wrap (totF f l + 1000) = totF f l + 1000 := i64_in _ (by omega)
    refine AWp.perm (T := planT) [0, 2, 3, 1, 4, 5] (by kernel_rfl) rfl ?_
    have q7 : ((7 : Int) == 0) = false := rfl
    have q8 : ((7 : Int) == 7) = true := rfl
    have q9 : ((0 : Int) == 0) = true := rfl
    simp only [hR1, tk0, tk1, hl1', k7, q7, cond_false, opsOf, List.filterMap_cons, List.filterMap_nil, List.getElem?_toArray, List.getElem?_cons_succ, List.getElem?_cons_zero, k_twiceL_12, totalS, on_lb_eq, k_twiceL_13, saneS, on__eq, k_twiceL_14, formatS, on_l_eq, k_twiceL_18, checkS, Ψn, Ψt5, Ψt4, Ψt3, Ψt2, Ψt1, Θ4, Θ3, Θ2, Θ1, Ψ1, newS, preT_eq, nS, preN_eq, preB_eq, okN, arg1, arg2, intV, bidsV, map_bidOf, Nat.reduceBEq, psiNew_eq, psiRow_eq, all_sl, sortS, on_l_eq, List.length_map, List.take_succ_cons, List.take_nil, Tryd.underlying1, sz1, by1, ze1, Tryd.underlying3, sz3, by3, ze3, Tryd.underlying4, sz4, by4, ze4, Tryd.underlying5, sz5, by5, ze5, Tryd.underlying9, sz9, by9, ze9, Tryd.underlying22, sz22, by22, ze22, Tryd.underlying23, sz23, by23, ze23, Tryd.underlying25, sz25, by25, ze25, Tryd.underlying28, sz28, by28, ze28, fa28_0, fa28_1, fa28_2, fa28_3, fa28_4, Tryd.underlying35, sz35, by35, ze35, Tryd.underlying36, sz36, by36, ze36, planT, go_sem, ↓reduceIte, reduceCtorEq, Nat.reduceEqDiff, Nat.reduceLT, ↓all_qV, Int.reduceToNat, Int.reduceLT, Int.reduceLE, Nat.reduceAdd, Nat.reduceLeDiff, Nat.reduceMul, ev_callG, gcallK_b, gcallK_w, callGc_true, callGc_false]
    have hw1 : ∀ e, e ∈ [PV.agg [.int .i64 b, .int .i64 n, .int .i64 p, .int .i64 1000, .bool f]] → e.cells.length = 5 := fun e he => by rw [List.mem_singleton] at he; subst he; rfl
    have hw2 : ∀ e, e ∈ [PV.agg [.int .i64 b, .int .i64 20, .int .i64 p, .int .i64 1000, .bool f]] → e.cells.length = 5 := fun e he => by rw [List.mem_singleton] at he; subst he; rfl
    refine ⟨okBid, rfl, hwd, by omega, by simp only [maxLen]; omega, rfl, hw1, Nat.le_refl _, by omega, by simp only [maxLen]; omega, ⟨Nat.le_refl _, ⟨_, rfl⟩, by omega⟩, ?_⟩
    refine AWp.perm (T := planT) [0, 2, 3, 1, 4, 5] (by kernel_rfl) rfl ?_
    simp only [hR2, tk0, tk1, hl1', k7, k0, kt, w9, q7, q8, q9, cond_false, opsOf, List.filterMap_cons, List.filterMap_nil, List.getElem?_toArray, List.getElem?_cons_succ, List.getElem?_cons_zero, k_twiceL_12, totalS, on_lb_eq, k_twiceL_13, saneS, on__eq, k_twiceL_14, formatS, on_l_eq, k_twiceL_18, checkS, Ψn, Ψt5, Ψt4, Ψt3, Ψt2, Ψt1, Θ4, Θ3, Θ2, Θ1, Ψ1, newS, preT_eq, nS, preN_eq, preB_eq, okN, arg1, arg2, intV, bidsV, map_bidOf, Nat.reduceBEq, psiNew_eq, psiRow_eq, all_sl, sortS, on_l_eq, List.length_map, List.take_succ_cons, List.take_nil, Tryd.underlying1, sz1, by1, ze1, Tryd.underlying3, sz3, by3, ze3, Tryd.underlying4, sz4, by4, ze4, Tryd.underlying5, sz5, by5, ze5, Tryd.underlying9, sz9, by9, ze9, Tryd.underlying22, sz22, by22, ze22, Tryd.underlying23, sz23, by23, ze23, Tryd.underlying25, sz25, by25, ze25, Tryd.underlying28, sz28, by28, ze28, fa28_0, fa28_1, fa28_2, fa28_3, fa28_4, Tryd.underlying35, sz35, by35, ze35, Tryd.underlying36, sz36, by36, ze36, planT, go_sem, ↓reduceIte, reduceCtorEq, Nat.reduceEqDiff, Nat.reduceLT, ↓all_qV, Int.reduceToNat, Int.reduceLT, Int.reduceLE, Nat.reduceAdd, Nat.reduceLeDiff, Nat.reduceMul, ev_callG, gcallK_b, gcallK_w, callGc_true, callGc_false]
    refine ⟨okBid, rfl, hwd, by omega, by simp only [maxLen]; omega, rfl, hw2, Nat.le_refl _, by omega, by simp only [maxLen]; omega, ?_⟩
    have h3 : l.length ≤ 999999 := by omega
    exact ⟨by kernel_rfl, ⟨Nat.le_refl _, ⟨_, rfl⟩, h3⟩, ⟨Nat.le_refl _, ⟨_, rfl⟩, h3⟩, ⟨Nat.le_refl _, ⟨_, rfl⟩, h3⟩, ⟨_, rfl⟩, by omega⟩
end Go.AM
