/-
  A part of a proof: see the last text of this claim for what is proved.
-/
import Derived.Test.YtamiheckgglgaaaDoorB4k
import Derived.Test.YtamiheckgglgaaaDoorZMa
/-! BidsBroken -/
namespace Go.AM
open Go Go.Proofs Go.IntWalk
set_option maxRecDepth 100000
set_option maxHeartbeats 1000000
set_option linter.unusedSimpArgs false
set_option linter.unusedVariables false
def on_lu (p : List PV → Int → Prop) (f : List PV → Int → PV) : PSpec
  | [.sl a0, .int .u8 a1] => (p a0 a1, f a0 a1)
  | _ => (False, default)
theorem on_lu_eq {p : List PV → Int → Prop} {f : List PV → Int → PV} {a0 : List PV} {a1 : Int} : on_lu p f [.sl a0, .int .u8 a1] = (p a0 a1, f a0 a1) := rfl
theorem on_lu_inv {p : List PV → Int → Prop} {f : List PV → Int → PV} {args : List PV} (h : (on_lu p f args).1) : ∃ a0 : List PV, ∃ a1 : Int, args = [.sl a0, .int .u8 a1] ∧ p a0 a1 := by
  unfold on_lu at h
  split at h
  · exact ⟨_, _, rfl, h⟩
  · exact h.elim
def planB : Plan := { keep := fun _ => none, cut := fun _ => false, stop := fun i => i == 3 }
theorem okNs_of : ∀ (l seen : List Bid), (seen ++ l).Pairwise (fun a b => a.n ≠ b.n) → okNs seen l = true
  | [], _, _ => rfl
  | x :: r, seen, h => by
    have hx : namB x seen = false := by
      unfold namB
      rw [List.any_eq_false]
      intro y hy
      have := (List.pairwise_append.1 h).2.2 y hy x List.mem_cons_self
      simp only [Bool.and_eq_true, beq_iff_eq]
      exact fun e => this e.2
    rw [okNs, hx, okNs_of r (seen ++ [x]) (by rw [List.append_assoc]; exact h)]
    rfl
theorem chkF_ok {l : List Bid} (hv : ∀ x, x ∈ l → vB x = true) (hn : l.length ≤ 12) (hd : l.Pairwise fun a b => a.n ≠ b.n) : chkF l = 0 := by
  unfold chkF
  rw [okNs_of l [] hd, show decide (60 < (l.length : Int)) = false by simp; omega, show (l.any fun x => !vB x) = false by rw [List.any_eq_false]; intro x hx; simp [hv x hx]]
  rfl
theorem srt_id {l : List Bid} (h : strB l) : srtL l = l := by
  have hs := isort_sorted (lt := ltB) (S := fun _ => True) (fun a b c _ _ _ => ltB_t) (fun a b _ _ => ltB_a) (l := l) (fun _ _ => trivial)
  refine List.Perm.eq_of_pairwise (le := fun a b => ltB b a = false) (fun a b h1 h2 h3 h4 => ?_) hs (h.imp (fun {a b} hab => ltB_a (decide_eq_true hab))) (isort_perm ltB l)
  have hb : b ∈ l := h2
  have ha : a ∈ l := (mem_isort ltB).1 h1
  rw [ltB_no] at h3 h4
  unfold strB at h
  rw [List.pairwise_iff_getElem] at h
  obtain ⟨i, hi, rfl⟩ := List.mem_iff_getElem.1 ha
  obtain ⟨j, hj, rfl⟩ := List.mem_iff_getElem.1 hb
  rcases Nat.lt_trichotomy i j with hij | hij | hij
  · exact absurd (cmpB_lt.1 (h i j hi hj hij)) h4
  · subst hij; rfl
  · exact absurd (cmpB_lt.1 (h j i hj hi hij)) h3
theorem fmt_ok {l : List Bid} (hv : ∀ x, x ∈ l → vB x = true) (hn : l.length ≤ 12) (hd : l.Pairwise fun a b => a.n ≠ b.n) (hs : strB l) : (bif chkF l == 0 then [PV.str (fmtL (srtL l)), .int .i64 0] else [.str [], .int .i64 (chkF l)]) = [.str (fmtL l), .int .i64 0] := by
  rw [chkF_ok hv hn hd, srt_id hs]; rfl
noncomputable def brokLS : PSpec := on_lu (fun es m => (es.length ≤ 9223372036854775807 ∧ ∀ e, e ∈ es → isI e) ∧ 0 ≤ m ∧ m ≤ 255) (fun _ _ => .bool true)
theorem k_brokL_13 {args : List PV} : Bi 13 args = saneS args := rfl
theorem k_brokL_14 {args : List PV} : Bi 14 args = formatS args := rfl
theorem k_brokL_15 {args : List PV} : Bi 15 args = parseS args := rfl
theorem k_brokL_17 {args : List PV} : Bi 17 args = LineS args := rfl
theorem w_brokLS : PSound GG 5 brokLS := by
  refine PSound.of_wpc (C := cxQ Tryd.prog Bi Θ4 Ψn [] [] 101) (T := planA) Tryd.func5 rfl rfl rfl (Fit.all (G := GG) hBi hΘ4 hΨn mixed) (fun args h => ?_)
  unfold brokLS at h
  obtain ⟨es0, m, rfl, ⟨he1, he2⟩, hm1, hm2⟩ := on_lu_inv h
  refine ⟨by simp [cxQ], ?_⟩
  simp only [brokLS, on_lu_eq, k_brokL_13, saneS, on__eq, k_brokL_14, formatS, on_l_eq, k_brokL_15, parseS, on_s_eq, k_brokL_17, LineS, on_p_eq, Ψn, Ψt5, Ψt4, Ψt3, Ψt2, Ψt1, Θ4, Θ3, Θ2, Θ1, Ψ1, newS, preT_eq, nS, preN_eq, preB_eq, okN, arg1, arg2, intV, bidsV, map_bidOf, Nat.reduceBEq, psiNew_eq, psiRow_eq, all_sl, sortS, on_l_eq, List.length_map, List.take_succ_cons, List.take_nil, Tryd.underlying1, sz1, by1, ze1, Tryd.underlying2, sz2, by2, ze2, Tryd.underlying3, sz3, by3, ze3, Tryd.underlying4, sz4, by4, ze4, Tryd.underlying5, sz5, by5, ze5, Tryd.underlying9, sz9, by9, ze9, Tryd.underlying22, sz22, by22, ze22, Tryd.underlying23, sz23, by23, ze23, Tryd.underlying25, sz25, by25, ze25, Tryd.underlying28, sz28, by28, ze28, fa28_0, fa28_1, fa28_2, fa28_3, fa28_4, Tryd.underlying35, sz35, by35, ze35, Tryd.underlying36, sz36, by36, ze36, Tryd.underlying38, sz38, by38, ze38, Tryd.f5, argL, planA, go_sem, ↓reduceIte, reduceCtorEq, Nat.reduceEqDiff, Nat.reduceLT, ↓all_qVz, ↓all_qVz', Int.reduceToNat, Int.reduceLT, Int.reduceLE, Nat.reduceAdd, Nat.reduceLeDiff, Nat.reduceMul, ev_callG, gcallK_b, gcallK_w, callGc_true, callGc_false]
  refine ⟨⟨he1, he2⟩, ?_⟩
  refine AWp.here (T := planB) (α := Unit) (fun _ => ([(1, .pv (.int .u8 m)), (4, .pv (.bool false)), (5, .ptr 18 0)], [(18, .obj Tp)])) (fun _ => True) ⟨(), trivial, ⟨by simp [fitR, look], by simp [fitH, hget], rfl, rfl, rfl⟩⟩ ?_
  intro _ _
  simp only [k_brokL_13, saneS, on__eq, k_brokL_14, formatS, on_l_eq, k_brokL_15, parseS, on_s_eq, k_brokL_17, LineS, on_p_eq, Ψn, Ψt5, Ψt4, Ψt3, Ψt2, Ψt1, Θ4, Θ3, Θ2, Θ1, Ψ1, newS, preT_eq, nS, preN_eq, preB_eq, okN, arg1, arg2, intV, bidsV, map_bidOf, Nat.reduceBEq, psiNew_eq, psiRow_eq, all_sl, sortS, on_l_eq, List.length_map, List.take_succ_cons, List.take_nil, Tryd.underlying1, sz1, by1, ze1, Tryd.underlying2, sz2, by2, ze2, Tryd.underlying3, sz3, by3, ze3, Tryd.underlying4, sz4, by4, ze4, Tryd.underlying5, sz5, by5, ze5, Tryd.underlying9, sz9, by9, ze9, Tryd.underlying22, sz22, by22, ze22, Tryd.underlying23, sz23, by23, ze23, Tryd.underlying25, sz25, by25, ze25, Tryd.underlying28, sz28, by28, ze28, fa28_0, fa28_1, fa28_2, fa28_3, fa28_4, Tryd.underlying35, sz35, by35, ze35, Tryd.underlying36, sz36, by36, ze36, Tryd.underlying38, sz38, by38, ze38, planB, go_sem, ↓reduceIte, reduceCtorEq, Nat.reduceEqDiff, Nat.reduceLT, ↓all_qVz, ↓all_qVz', Int.reduceToNat, Int.reduceLT, Int.reduceLE, Nat.reduceAdd, Nat.reduceLeDiff, Nat.reduceMul, ev_callG, gcallK_b, gcallK_w, callGc_true, callGc_false]
  intro l hl
  obtain ⟨hl1, hl2⟩ := hl
  rw [Stop_eq]
  have hn : l.length ≤ 8 := by simp only [arg1] at hl1; omega
  have hv := bidsG_vB hl2
  have hnd := bidsG_nd hl2
  have hst := srt_str hnd
  have hsl := srtL_length l
  have hsv : ∀ x, x ∈ srtL l → vB x = true := fun x hx => hv x ((mem_isort ltB).1 hx)
  have hsd : (srtL l).Pairwise fun a b => a.n ≠ b.n := (List.Perm.pairwise_iff (fun {a b} hab => Ne.symm hab) (isort_perm ltB l)).2 hnd
  simp only [k_brokL_13, saneS, on__eq, k_brokL_14, formatS, on_l_eq, k_brokL_15, parseS, on_s_eq, k_brokL_17, LineS, on_p_eq, Ψn, Ψt5, Ψt4, Ψt3, Ψt2, Ψt1, Θ4, Θ3, Θ2, Θ1, Ψ1, newS, preT_eq, nS, preN_eq, preB_eq, okN, arg1, arg2, intV, bidsV, map_bidOf, Nat.reduceBEq, psiNew_eq, psiRow_eq, all_sl, sortS, on_l_eq, List.length_map, List.take_succ_cons, List.take_nil, Tryd.underlying1, sz1, by1, ze1, Tryd.underlying2, sz2, by2, ze2, Tryd.underlying3, sz3, by3, ze3, Tryd.underlying4, sz4, by4, ze4, Tryd.underlying5, sz5, by5, ze5, Tryd.underlying9, sz9, by9, ze9, Tryd.underlying22, sz22, by22, ze22, Tryd.underlying23, sz23, by23, ze23, Tryd.underlying25, sz25, by25, ze25, Tryd.underlying28, sz28, by28, ze28, fa28_0, fa28_1, fa28_2, fa28_3, fa28_4, Tryd.underlying35, sz35, by35, ze35, Tryd.underlying36, sz36, by36, ze36, Tryd.underlying38, sz38, by38, ze38, planB, go_sem, ↓reduceIte, reduceCtorEq, Nat.reduceEqDiff, Nat.reduceLT, ↓all_qV, Int.reduceToNat, Int.reduceLT, Int.reduceLE, Nat.reduceAdd, Nat.reduceLeDiff, Nat.reduceMul, ev_callG, gcallK_b, gcallK_w, callGc_true, callGc_false]
  refine ⟨⟨⟨l, rfl⟩, by omega⟩, ?_⟩
  generalize srtL l = s at hst hsl hsv hsd ⊢
  have tk : (s.map bidV).take s.length = s.map bidV := List.take_of_length_le (by simp)
  refine AWp.freeze (T := plan0) 21 5 (α := Unit) (fun _ => s.map bidV) (fun _ => ([(1, .pv (.int .u8 m)), (4, .pv (.bool false)), (6, .pv (.sl (s.map bidV)))], [])) (fun _ => True) ⟨(), trivial, ⟨by simp [hget], rfl, ?_, trivial, rfl, rfl, rfl⟩⟩ ?_
  · refine ⟨.inl (by simp [look]), .inl (by simp [look]), .inr ⟨s.length, by simp [look], by simp, by rw [tk]⟩, trivial⟩
  rintro _ _
  have hs8 : s.length ≤ 8 := by omega
  have hcv : IntKind.i64.wrap m = m := i64_in _ (by omega)
  have hl1 : IntKind.i64.wrap ((s.length : Int) + 1) = (s.length : Int) + 1 := i64_in _ (by omega)
  obtain ⟨k, hk, hks⟩ : ∃ k : Nat, m.tmod ((s.length : Int) + 1) = (k : Int) ∧ k ≤ s.length := by
    have h1 := Int.tmod_nonneg (a := m) ((s.length : Int) + 1) hm1
    have h2 := Int.tmod_lt_of_pos m (b := (s.length : Int) + 1) (by omega)
    exact ⟨(m.tmod ((s.length : Int) + 1)).toNat, by omega, by omega⟩
  have hkw : IntKind.i64.wrap (k : Int) = k := i64_in _ (by omega)
  have hk1 : IntKind.i64.wrap ((k : Int) + 1) = (k : Int) + 1 := i64_in _ (by omega)
  have tkk : (s.map bidV).take k = (s.take k).map bidV := (List.map_take ..).symm
  have drk : (s.map bidV).drop k = (s.drop k).map bidV := (List.map_drop ..).symm
  have hav : ∀ x, x ∈ s.take k → vB x = true := fun x hx => hsv x (List.mem_of_mem_take hx)
  have hbv : ∀ x, x ∈ s.drop k → vB x = true := fun x hx => hsv x (List.mem_of_mem_drop hx)
  have has : strB (s.take k) := hst.sublist (List.take_sublist _ _)
  have hbs : strB (s.drop k) := hst.sublist (List.drop_sublist _ _)
  have hal : (s.take k).length = k := by rw [List.length_take]; omega
  have hbl : (s.drop k).length = s.length - k := List.length_drop
  have fa := fmt_ok hav (by omega) (hsd.sublist (List.take_sublist _ _)) has
  have fb := fmt_ok hbv (by omega) (hsd.sublist (List.drop_sublist _ _)) hbs
  have hla := fmtL_len _ hav
  have hlb := fmtL_len _ hbv
  rw [hal] at hla
  rw [hbl] at hlb
  have p1 : prs ((fmtL (s.take k) ++ [49, 32, 49, 32, 49, 32, 49, 10]) ++ fmtL (s.drop k)) = ([], (k : Int) + 1, 4) := by
    have := prs_broken (m := [49, 32, 49, 32, 49, 32, 49]) hav hbv has (by omega) (by decide) (by decide) (by
      have hr : readL [49, 32, 49, 32, 49, 32, 49] = ⟨1, 1, 1, 1, false⟩ := by kernel_rfl
      rw [hr]
      rfl)
    rw [hal] at this
    simpa using this
  have hwd : ∀ e, e ∈ s.map bidV → 5 = e.cells.length := fun e he => by obtain ⟨x, _, rfl⟩ := List.mem_map.1 he; rfl
  have z0 : ∀ n : Int, (n != n) = false := fun n => by simp
  cases k with
  | zero =>
    rw [List.take_zero] at fa p1
    rw [List.drop_zero] at fb p1 hlb
    have q1 : IntKind.i64.wrap 0 = 0 := by decide
    have q2 : IntKind.i64.wrap (0 + 1) = 1 := by decide
    simp only [q1, q2, hcv, hl1, hk, hkw, hk1, tk, tkk, drk, fa, fb, p1, z0, k_brokL_13, saneS, on__eq, k_brokL_14, formatS, on_l_eq, k_brokL_15, parseS, on_s_eq, k_brokL_17, LineS, on_p_eq, Ψn, Ψt5, Ψt4, Ψt3, Ψt2, Ψt1, Θ4, Θ3, Θ2, Θ1, Ψ1, newS, preT_eq, nS, preN_eq, preB_eq, okN, arg1, arg2, intV, bidsV, map_bidOf, Nat.reduceBEq, psiNew_eq, psiRow_eq, all_sl, sortS, on_l_eq, List.length_map, List.take_succ_cons, List.take_nil, Tryd.underlying1, sz1, by1, ze1, Tryd.underlying2, sz2, by2, ze2, Tryd.underlying3, sz3, by3, ze3, Tryd.underlying4, sz4, by4, ze4, Tryd.underlying5, sz5, by5, ze5, Tryd.underlying9, sz9, by9, ze9, Tryd.underlying22, sz22, by22, ze22, Tryd.underlying23, sz23, by23, ze23, Tryd.underlying25, sz25, by25, ze25, Tryd.underlying28, sz28, by28, ze28, fa28_0, fa28_1, fa28_2, fa28_3, fa28_4, Tryd.underlying35, sz35, by35, ze35, Tryd.underlying36, sz36, by36, ze36, Tryd.underlying38, sz38, by38, ze38, plan0, go_sem, ↓reduceIte, reduceCtorEq, Nat.reduceEqDiff, Nat.reduceLT, ↓all_qV, Int.reduceToNat, Int.reduceLT, Int.reduceLE, Nat.reduceAdd, Nat.reduceLeDiff, Nat.reduceMul, ev_callG, gcallK_b, gcallK_w, callGc_true, callGc_false, List.forall_mem_cons, List.not_mem_nil, PV.one, AV.one]
    have n1 : (fmtL []).length = 0 := rfl
    have hnz : ¬ ((s.length : Int) + 1 = 0) := by omega
    refine ⟨hnz, ⟨by omega, hwd⟩, ⟨[], rfl⟩, ⟨by omega, hwd⟩, ⟨⟨s, rfl⟩, by omega⟩, by omega, ?_, ?_, fun h9 => by simp at h9⟩
    all_goals simp only [List.length_append, List.length_cons, List.length_nil]; omega
  | succ j =>
    have w2 : IntKind.i64.wrap (((j + 1 : Nat) : Int) - 1) = (j : Int) := by rw [i64_in _ (by omega)]; omega
    have e1 := getD_bid (l := s) (i := j) (by omega)
    have hy := hsv _ (mem_getD' (l := s) (i := j) (by omega))
    have hlast : (s.take (j + 1)).getLast? = some (s.getD j default) := by rw [take_succ' (by omega)]; simp
    generalize s.getD j default = y at e1 hy hlast
    have hly := lineL_len hy
    have p2 : prs (((fmtL (s.take (j + 1)) ++ lineL y) ++ [10]) ++ fmtL (s.drop (j + 1))) = ([], ((j + 1 : Nat) : Int) + 1, 4) := by
      have := prs_broken (m := lineL y) hav hbv has (by omega) (line_no hy) (by omega) (by
        rw [read_line hy]
        have hirr : ¬ cmpB y y < 0 := by rw [cmpB_lt]; omega
        unfold condB lastB
        rw [hlast]
        simp [hirr])
      rw [hal] at this
      simpa using this
    have hz : (((j + 1 : Nat) : Int) == 0) = false := by simp; omega
    obtain ⟨b, n, p, a, f⟩ := y
    simp only [bidV] at e1
    simp only [hcv, hl1, hk, hkw, hk1, tk, tkk, drk, fa, fb, p1, z0, w2, e1, p2, hz, bidOf_agg, hy, cond_true, k_brokL_13, saneS, on__eq, k_brokL_14, formatS, on_l_eq, k_brokL_15, parseS, on_s_eq, k_brokL_17, LineS, on_p_eq, Ψn, Ψt5, Ψt4, Ψt3, Ψt2, Ψt1, Θ4, Θ3, Θ2, Θ1, Ψ1, newS, preT_eq, nS, preN_eq, preB_eq, okN, arg1, arg2, intV, bidsV, map_bidOf, Nat.reduceBEq, psiNew_eq, psiRow_eq, all_sl, sortS, on_l_eq, List.length_map, List.take_succ_cons, List.take_nil, Tryd.underlying1, sz1, by1, ze1, Tryd.underlying2, sz2, by2, ze2, Tryd.underlying3, sz3, by3, ze3, Tryd.underlying4, sz4, by4, ze4, Tryd.underlying5, sz5, by5, ze5, Tryd.underlying9, sz9, by9, ze9, Tryd.underlying22, sz22, by22, ze22, Tryd.underlying23, sz23, by23, ze23, Tryd.underlying25, sz25, by25, ze25, Tryd.underlying28, sz28, by28, ze28, fa28_0, fa28_1, fa28_2, fa28_3, fa28_4, Tryd.underlying35, sz35, by35, ze35, Tryd.underlying36, sz36, by36, ze36, Tryd.underlying38, sz38, by38, ze38, plan0, go_sem, ↓reduceIte, reduceCtorEq, Nat.reduceEqDiff, Nat.reduceLT, ↓all_qV, Int.reduceToNat, Int.reduceLT, Int.reduceLE, Nat.reduceAdd, Nat.reduceLeDiff, Nat.reduceMul, ev_callG, gcallK_b, gcallK_w, callGc_true, callGc_false, List.forall_mem_cons, List.not_mem_nil, PV.one, AV.one]
    have hnz : ¬ ((s.length : Int) + 1 = 0) := by omega
    refine ⟨hnz, ⟨by omega, by omega, hwd⟩, ⟨⟨_, rfl⟩, by omega⟩, ⟨by omega, by omega, hwd⟩, ⟨⟨_, rfl⟩, by omega⟩, by omega, ?_, ?_, ⟨by omega, by omega⟩, isBid_agg, ?_, ?_, ?_, ?_⟩
    all_goals (try simp only [List.length_append, List.length_cons, List.length_nil]); omega
end Go.AM
