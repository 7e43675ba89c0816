/-
  A part of a proof: see the last text of this claim for what is proved.
-/
import Derived.Test.YtamiheckgglgaaaGreatDoorBV
import Derived.Test.YtamiheckgglgaaaGreatDoorZMa
/-! the reference: Parse -/
namespace Go.AM
open Go Go.Proofs Go.IntWalk
set_option maxRecDepth 100000
set_option maxHeartbeats 2000000
set_option linter.unusedSimpArgs false
set_option linter.unusedVariables false
theorem count_take (c : UInt8) {s : List UInt8} {i : Nat} (h : i < s.length) : (s.take (i + 1)).count c = (s.take i).count c + (if s.getD i 0 == c then 1 else 0) := by
  have : s.take (i + 1) = s.take i ++ [s.getD i 0] := by rw [List.take_add_one]; simp [List.getElem?_eq_getElem h, List.getD_eq_getElem?_getD]
  rw [this, List.count_append, List.count_singleton]
/-- The first line of a text: what stands before its first line feed. -/
theorem line_at {t : List UInt8} {j : Nat} (hj : j < t.length) (h0 : (10 : UInt8) ∉ t.take j) (h1 : t.getD j 0 = 10) : t = t.take j ++ 10 :: t.drop (j + 1) := by
  have hd : t.drop j = t.getD j 0 :: t.drop (j + 1) := by rw [List.drop_eq_getElem_cons hj]; simp [List.getD_eq_getElem?_getD, hj]
  rw [h1] at hd
  rw [← hd, List.take_append_drop]
theorem rcond_nil {b : Bid} {x : List UInt8} : rcond [] b x = (!vB b || !(lineL b == x)) := by simp [rcond, lastB]
theorem rcond_snoc {pre : List Bid} {y b : Bid} {x : List UInt8} : rcond (pre ++ [y]) b x = (!vB b || (!(lineL b == x) || !decide (cmpB y b < 0))) := by simp [rcond, lastB]
noncomputable def rparseS : PSpec := on_s (fun s => s.length ≤ 1000000) (fun s => .tup [.sl ((prs s).1.map bidV), .int .i64 (prs s).2.1, .int .i64 (prs s).2.2])
def planV : Plan := { keep := fun _ => none, cut := fun _ => false, stop := fun i => i == 18 }
theorem k_rparseS_20 {args : List PV} : Ch 20 args = rvalS args := rfl
theorem k_rparseS_22 {args : List PV} : Ch 22 args = rbefS args := rfl
theorem k_rparseS_32 {args : List PV} : Ch 32 args = rlineS args := rfl
theorem k_rparseS_44 {args : List PV} : Ch 44 args = rreadS args := rfl
theorem w_rparseS : PSound GG 26 rparseS := by
  refine PSound.of_wpc (C := cxQ Tryz.prog Ch noΘ noΨ [] [] 92) (T := planV) Tryz.func26 rfl rfl rfl (Fit.all (G := GG) hCh hnoΘ hnoΨ mixed) (fun args h => ?_)
  unfold rparseS at h
  obtain ⟨s, rfl, hl⟩ := on_s_inv h
  refine ⟨by simp [cxQ], ?_⟩
  simp only [rparseS, on_s_eq, Nat.reduceBEq, k_rparseS_20, rvalS, on_p_eq, k_rparseS_22, rbefS, on_pp_eq, k_rparseS_32, rlineS, k_rparseS_44, rreadS, on_s_eq, Tryz.f26, argL, Tryz.underlying1, sz1, by1, ze1, Tryz.underlying3, sz3, by3, ze3, Tryz.underlying4, sz4, by4, ze4, Tryz.underlying5, sz5, by5, ze5, Tryz.underlying9, sz9, by9, ze9, Tryz.underlying23, sz23, by23, ze23, Tryz.underlying29, sz29, by29, ze29, fa29_0, fa29_1, fa29_2, fa29_3, fa29_4, Tryz.underlying32, sz32, by32, ze32, planV, go_sem, ↓reduceIte, reduceCtorEq, Nat.reduceEqDiff, Nat.reduceLT, ↓all_qV, Int.reduceToNat, Int.reduceLT, Int.reduceLE, Nat.reduceAdd, Nat.reduceLeDiff, Nat.reduceMul, ev_callG, gcallK_b, gcallK_w, callGc_true, callGc_false]
  refine AWp.loop (T := planV) (α := Nat) (fun i => ([(0, .pv (.str s)), (5, .pv (.int .i64 ((s.take i).count 10 : Nat))), (6, .pv (.int .i64 i))], [])) (fun i => i ≤ s.length) (fun i => s.length - i)
    ⟨0, Nat.zero_le _, ⟨by simp [fitR, look], trivial, rfl, rfl, rfl⟩⟩ ?_
  intro i g1
  have hi1 : IntKind.i64.wrap ((i : Int) + 1) = ((i + 1 : Nat) : Int) := by rw [i64_in _ (by omega)]; omega
  by_cases hlt : i < s.length
  · have c0 : decide ((i : Int) < (s.length : Int)) = true := by simp; omega
    have hct := count_take 10 hlt
    have hcl : (s.take i).count 10 ≤ i := Nat.le_trans List.count_le_length (by rw [List.length_take]; omega)
    obtain ⟨c, hc⟩ : ∃ c, s.getD i 0 = c := ⟨_, rfl⟩
    rw [hc] at hct
    have k1 : ((c.toNat : Int) == 10) = (c == 10) := by
      rw [Bool.eq_iff_iff]; simp only [beq_iff_eq]
      exact ⟨fun h => UInt8.toNat_inj.1 (by simp; omega), fun h => by subst h; rfl⟩
    generalize (s.take i).count 10 = K at hct hcl ⊢
    have hk1 : IntKind.i64.wrap ((K : Int) + 1) = ((K + 1 : Nat) : Int) := by rw [i64_in _ (by omega)]; omega
    simp only [c0, hi1, hk1, hc, k1, indexA, Int.toNat_natCast, Nat.reduceBEq, Tryz.underlying1, sz1, by1, ze1, Tryz.underlying3, sz3, by3, ze3, Tryz.underlying4, sz4, by4, ze4, Tryz.underlying5, sz5, by5, ze5, Tryz.underlying9, sz9, by9, ze9, Tryz.underlying23, sz23, by23, ze23, Tryz.underlying29, sz29, by29, ze29, fa29_0, fa29_1, fa29_2, fa29_3, fa29_4, Tryz.underlying32, sz32, by32, ze32, planV, go_sem, ↓reduceIte, reduceCtorEq, Nat.reduceEqDiff, Nat.reduceLT, ↓all_qV, Int.reduceToNat, Int.reduceLT, Int.reduceLE, Nat.reduceAdd, Nat.reduceLeDiff, Nat.reduceMul, ev_callG, gcallK_b, gcallK_w, callGc_true, callGc_false]
    refine ⟨⟨by omega, by omega⟩, fun h9 => ⟨i + 1, by omega, by omega, ⟨by rw [hct, h9]; simp [fitR, look], trivial, rfl, rfl, rfl⟩⟩, fun h9 => ⟨i + 1, by omega, by omega, ⟨by rw [hct, h9]; simp [fitR, look], trivial, rfl, rfl, rfl⟩⟩⟩
  have c0 : decide ((i : Int) < (s.length : Int)) = false := by simp; omega
  rw [List.take_of_length_le (by omega)]
  simp only [c0, Nat.reduceBEq, Tryz.underlying1, sz1, by1, ze1, Tryz.underlying3, sz3, by3, ze3, Tryz.underlying4, sz4, by4, ze4, Tryz.underlying5, sz5, by5, ze5, Tryz.underlying9, sz9, by9, ze9, Tryz.underlying23, sz23, by23, ze23, Tryz.underlying29, sz29, by29, ze29, fa29_0, fa29_1, fa29_2, fa29_3, fa29_4, Tryz.underlying32, sz32, by32, ze32, planV, go_sem, ↓reduceIte, reduceCtorEq, Nat.reduceEqDiff, Nat.reduceLT, ↓all_qV, Int.reduceToNat, Int.reduceLT, Int.reduceLE, Nat.reduceAdd, Nat.reduceLeDiff, Nat.reduceMul, ev_callG, gcallK_b, gcallK_w, callGc_true, callGc_false]
  refine ⟨fun h9 => by unfold prs; rw [h9]; rfl, fun h9 => ?_⟩
  have hprs : prs s = prsG [] (linesOf s) := by unfold prs; rw [h9]; rfl
  rw [hprs]
  clear h9 hprs g1 hi1 hlt c0
  refine AWp.adoptS (s := 7) (κ := 86) (k := 5) (by simp [look]) rfl (by decide) ?_
  refine AWp.loop (T := planV) (α := List Bid × List UInt8) (fun z => ([(0, .pv (.str z.2)), (7, .rs 86 z.1.length), (8, .pv (.int .i64 (z.1.length + 1 : Nat)))], [(86, .row 5 (z.1.map bidV))]))
    (fun z => prsG [] (linesOf s) = prsG z.1 (linesOf z.2) ∧ z.1.length + z.2.length ≤ s.length) (fun z => z.2.length)
    ⟨([], s), ⟨rfl, by simp⟩, ⟨by simp [fitR, look, upd], by simp [fitH, hget, hset], rfl, rfl, rfl⟩⟩ ?_
  rintro ⟨acc, cur⟩ ⟨g1, g2⟩
  simp only at g1 g2
  have hn1 : IntKind.i64.wrap (((acc.length + 1 : Nat) : Int) + 1) = ((acc.length + 1 + 1 : Nat) : Int) := by rw [i64_in _ (by omega)]; omega
  by_cases hcur : cur = []
  · subst hcur
    have c0 : (([] : List UInt8) != []) = false := rfl
    rw [linesOf_nil, prsG] at g1
    simp only [c0, g1, Nat.reduceBEq, Tryz.underlying1, sz1, by1, ze1, Tryz.underlying3, sz3, by3, ze3, Tryz.underlying4, sz4, by4, ze4, Tryz.underlying5, sz5, by5, ze5, Tryz.underlying9, sz9, by9, ze9, Tryz.underlying23, sz23, by23, ze23, Tryz.underlying29, sz29, by29, ze29, fa29_0, fa29_1, fa29_2, fa29_3, fa29_4, Tryz.underlying32, sz32, by32, ze32, planV, go_sem, ↓reduceIte, reduceCtorEq, Nat.reduceEqDiff, Nat.reduceLT, ↓all_qV, Int.reduceToNat, Int.reduceLT, Int.reduceLE, Nat.reduceAdd, Nat.reduceLeDiff, Nat.reduceMul, ev_callG, gcallK_b, gcallK_w, callGc_true, callGc_false]
    have ht : (acc.map bidV).take acc.length = acc.map bidV := List.take_of_length_le (by rw [List.length_map]; exact Nat.le_refl _)
    exact ⟨by rw [List.length_map]; exact Nat.le_refl _, by rw [ht]⟩
  have c0 : (cur == []) = false := by simpa using hcur
  simp only [c0, Bool.not_false, Nat.reduceBEq, Tryz.underlying1, sz1, by1, ze1, Tryz.underlying3, sz3, by3, ze3, Tryz.underlying4, sz4, by4, ze4, Tryz.underlying5, sz5, by5, ze5, Tryz.underlying9, sz9, by9, ze9, Tryz.underlying23, sz23, by23, ze23, Tryz.underlying29, sz29, by29, ze29, fa29_0, fa29_1, fa29_2, fa29_3, fa29_4, Tryz.underlying32, sz32, by32, ze32, planV, go_sem, ↓reduceIte, reduceCtorEq, Nat.reduceEqDiff, Nat.reduceLT, ↓all_qV, Int.reduceToNat, Int.reduceLT, Int.reduceLE, Nat.reduceAdd, Nat.reduceLeDiff, Nat.reduceMul, ev_callG, gcallK_b, gcallK_w, callGc_true, callGc_false]
  refine AWp.loop (T := planV) (α := Nat) (fun j => ([(0, .pv (.str cur)), (7, .rs 86 acc.length), (8, .pv (.int .i64 (acc.length + 1 : Nat))), (9, .pv (.int .i64 j))], [(86, .row 5 (acc.map bidV))]))
    (fun j => j ≤ cur.length ∧ (10 : UInt8) ∉ cur.take j) (fun j => cur.length - j)
    ⟨0, ⟨Nat.zero_le _, by simp⟩, ⟨by simp [fitR, look], by simp [fitH, hget], rfl, rfl, rfl⟩⟩ ?_
  rintro j ⟨f1, f2⟩
  have hj1 : IntKind.i64.wrap ((j : Int) + 1) = ((j + 1 : Nat) : Int) := by rw [i64_in _ (by omega)]; omega
  by_cases hjt : j < cur.length
  · have c1 : decide ((j : Int) < (cur.length : Int)) = true := by simp; omega
    have hne : ((j : Int) == (cur.length : Int)) = false := by simp; omega
    have htk : cur.take (j + 1) = cur.take j ++ [cur.getD j 0] := by rw [List.take_add_one]; simp [List.getElem?_eq_getElem hjt, List.getD_eq_getElem?_getD]
    have hline := line_at hjt f2
    obtain ⟨c, hc⟩ : ∃ c, cur.getD j 0 = c := ⟨_, rfl⟩
    rw [hc] at htk hline
    have k1 : ((c.toNat : Int) != 10) = !(c == 10) := by
      rw [Bool.eq_iff_iff]; simp only [bne_iff_ne, Bool.not_eq_true', beq_eq_false_iff_ne, ne_eq]
      exact not_congr ⟨fun h => UInt8.toNat_inj.1 (by simp; omega), fun h => by subst h; rfl⟩
    cases h10 : c == 10 with
    | false =>
      simp only [c1, hj1, hc, k1, h10, Bool.not_false, Bool.and_self, indexA, Int.toNat_natCast, Nat.reduceBEq, Tryz.underlying1, sz1, by1, ze1, Tryz.underlying3, sz3, by3, ze3, Tryz.underlying4, sz4, by4, ze4, Tryz.underlying5, sz5, by5, ze5, Tryz.underlying9, sz9, by9, ze9, Tryz.underlying23, sz23, by23, ze23, Tryz.underlying29, sz29, by29, ze29, fa29_0, fa29_1, fa29_2, fa29_3, fa29_4, Tryz.underlying32, sz32, by32, ze32, planV, go_sem, ↓reduceIte, reduceCtorEq, Nat.reduceEqDiff, Nat.reduceLT, ↓all_qV, Int.reduceToNat, Int.reduceLT, Int.reduceLE, Nat.reduceAdd, Nat.reduceLeDiff, Nat.reduceMul, ev_callG, gcallK_b, gcallK_w, callGc_true, callGc_false]
      refine ⟨⟨by omega, by omega⟩, j + 1, ⟨by omega, ?_⟩, by omega, ⟨by simp [fitR, look], by simp [fitH, hget], rfl, rfl, rfl⟩⟩
      rw [htk, List.mem_append, List.mem_singleton, not_or]
      exact ⟨f2, fun e => by rw [← e] at h10; simp at h10⟩
    | true =>
      have hline := hline (by simpa using h10)
      have g3 : prsG [] (linesOf s) = bif rcond acc (rreadL (cur.take j)) (cur.take j) then ([], (acc.length : Int) + 1, 4) else prsG (acc ++ [rreadL (cur.take j)]) (linesOf (cur.drop (j + 1))) := by
        rw [g1]; conv => lhs; rw [hline]
        rw [prsG_step f2]
      have hal : (cur.take j).length = j := by rw [List.length_take]; omega
      have hdl : (cur.drop (j + 1)).length = cur.length - (j + 1) := List.length_drop
      obtain ⟨x, hx⟩ : ∃ x, rreadL (cur.take j) = x := ⟨_, rfl⟩
      rw [hx] at g3
      obtain ⟨b, n, p, a, f⟩ := x
      rcases List.eq_nil_or_concat acc with rfl | ⟨pre, y, hacc⟩
      · rw [rcond_nil] at g3
        simp only [c1, hj1, hne, hc, k1, h10, hx, bidV, bidOf_agg, Bool.not_true, Bool.and_false, List.length_nil, List.map_nil, List.take_succ_cons, List.take_nil, decide_false, indexA, Int.toNat_natCast, Nat.reduceBEq, k_rparseS_20, rvalS, on_p_eq, k_rparseS_22, rbefS, on_pp_eq, k_rparseS_32, rlineS, k_rparseS_44, rreadS, on_s_eq, Tryz.underlying1, sz1, by1, ze1, Tryz.underlying3, sz3, by3, ze3, Tryz.underlying4, sz4, by4, ze4, Tryz.underlying5, sz5, by5, ze5, Tryz.underlying9, sz9, by9, ze9, Tryz.underlying23, sz23, by23, ze23, Tryz.underlying29, sz29, by29, ze29, fa29_0, fa29_1, fa29_2, fa29_3, fa29_4, Tryz.underlying32, sz32, by32, ze32, planV, go_sem, ↓reduceIte, reduceCtorEq, Nat.reduceEqDiff, Nat.reduceLT, ↓all_qV, Int.reduceToNat, Int.reduceLT, Int.reduceLE, Nat.reduceAdd, Nat.reduceLeDiff, Nat.reduceMul, ev_callG, gcallK_b, gcallK_w, callGc_true, callGc_false]
        refine ⟨⟨by omega, by omega⟩, ?_⟩
        refine AWp.seqc (T := plan0) ?_
        simp only [c1, hj1, hne, hc, k1, h10, hx, bidV, bidOf_agg, Bool.not_true, Bool.and_false, List.length_nil, List.map_nil, List.take_succ_cons, List.take_nil, decide_false, indexA, Int.toNat_natCast, Nat.reduceBEq, k_rparseS_20, rvalS, on_p_eq, k_rparseS_22, rbefS, on_pp_eq, k_rparseS_32, rlineS, k_rparseS_44, rreadS, on_s_eq, Tryz.underlying1, sz1, by1, ze1, Tryz.underlying3, sz3, by3, ze3, Tryz.underlying4, sz4, by4, ze4, Tryz.underlying5, sz5, by5, ze5, Tryz.underlying9, sz9, by9, ze9, Tryz.underlying23, sz23, by23, ze23, Tryz.underlying29, sz29, by29, ze29, fa29_0, fa29_1, fa29_2, fa29_3, fa29_4, Tryz.underlying32, sz32, by32, ze32, plan0, go_sem, ↓reduceIte, reduceCtorEq, Nat.reduceEqDiff, Nat.reduceLT, ↓all_qV, Int.reduceToNat, Int.reduceLT, Int.reduceLE, Nat.reduceAdd, Nat.reduceLeDiff, Nat.reduceMul, ev_callG, gcallK_b, gcallK_w, callGc_true, callGc_false]
        refine ⟨⟨by omega, by omega⟩, by omega, ?_⟩
        refine AWp.seqc (T := plan0) ?_
        simp only [c1, hj1, hne, hc, k1, h10, hx, bidV, bidOf_agg, Bool.not_true, Bool.and_false, List.length_nil, List.map_nil, List.take_succ_cons, List.take_nil, decide_false, indexA, Int.toNat_natCast, Nat.reduceBEq, k_rparseS_20, rvalS, on_p_eq, k_rparseS_22, rbefS, on_pp_eq, k_rparseS_32, rlineS, k_rparseS_44, rreadS, on_s_eq, Tryz.underlying1, sz1, by1, ze1, Tryz.underlying3, sz3, by3, ze3, Tryz.underlying4, sz4, by4, ze4, Tryz.underlying5, sz5, by5, ze5, Tryz.underlying9, sz9, by9, ze9, Tryz.underlying23, sz23, by23, ze23, Tryz.underlying29, sz29, by29, ze29, fa29_0, fa29_1, fa29_2, fa29_3, fa29_4, Tryz.underlying32, sz32, by32, ze32, plan0, go_sem, ↓reduceIte, reduceCtorEq, Nat.reduceEqDiff, Nat.reduceLT, ↓all_qV, Int.reduceToNat, Int.reduceLT, Int.reduceLE, Nat.reduceAdd, Nat.reduceLeDiff, Nat.reduceMul, ev_callG, gcallK_b, gcallK_w, callGc_true, callGc_false]
        refine ⟨by kernel_rfl, ⟨okBid, isBid_agg⟩, fun h => ⟨okBid, ⟨b, n, p, a, f⟩, rfl, h⟩, fun _ => ⟨by omega, by omega⟩, fun h => by simpa using h, fun h9 => by rw [g3, h9]; rfl, fun h9 => ?_⟩
        have w12 : IntKind.i64.wrap (1 + 1) = 2 := by decide
        refine AWp.perm0 [0, 1, 2, 3, 4, 5, 6, 7, 8, 9] (by kernel_rfl) rfl ?_
        simp only [opsOf, List.filterMap_cons, List.filterMap_nil, List.getElem?_toArray, List.getElem?_cons_succ, List.getElem?_cons_zero, w12, hj1, List.take_length, List.length_nil, List.take_succ_cons, List.take_nil, k_rparseS_20, rvalS, on_p_eq, k_rparseS_22, rbefS, on_pp_eq, k_rparseS_32, rlineS, k_rparseS_44, rreadS, on_s_eq, Tryz.underlying1, sz1, by1, ze1, Tryz.underlying3, sz3, by3, ze3, Tryz.underlying4, sz4, by4, ze4, Tryz.underlying5, sz5, by5, ze5, Tryz.underlying9, sz9, by9, ze9, Tryz.underlying23, sz23, by23, ze23, Tryz.underlying29, sz29, by29, ze29, fa29_0, fa29_1, fa29_2, fa29_3, fa29_4, Tryz.underlying32, sz32, by32, ze32, plan0, go_sem, ↓reduceIte, reduceCtorEq, Nat.reduceEqDiff, Nat.reduceLT, ↓all_qV, Int.reduceToNat, Int.reduceLT, Int.reduceLE, Nat.reduceAdd, Nat.reduceLeDiff, Nat.reduceMul, ev_callG, gcallK_b, gcallK_w, callGc_true, callGc_false]
        refine ⟨okBid, rfl, fun e he => by rw [List.mem_singleton] at he; subst he; rfl, by simp only [maxLen]; omega, ⟨by omega, by omega⟩, ([⟨b, n, p, a, f⟩], cur.drop (j + 1)), ⟨by rw [g3, h9]; rfl, by simp only [List.length_cons, List.length_nil, hdl]; omega⟩, by simp only [hdl]; omega, ⟨by simp [fitR, look], by simp [fitH, hget, hset, bidV], rfl, rfl, rfl⟩⟩
      · rw [List.concat_eq_append] at hacc
        subst hacc
        obtain ⟨b', n', p', a', f'⟩ := y
        have e1 : ((pre ++ [(⟨b', n', p', a', f'⟩ : Bid)]).map bidV).getD pre.length default = .agg [.int .i64 b', .int .i64 n', .int .i64 p', .int .i64 a', .bool f'] := by simp [List.getD_eq_getElem?_getD, bidV]
        have hal2 : (pre ++ [(⟨b', n', p', a', f'⟩ : Bid)]).length = pre.length + 1 := by simp
        have cp : decide ((0 : Int) < ((pre.length + 1 : Nat) : Int)) = true := by simp
        have wp : IntKind.i64.wrap (((pre.length + 1 : Nat) : Int) - 1) = (pre.length : Int) := by rw [i64_in _ (by omega)]; omega
        rw [rcond_snoc] at g3
        have hb : befB ⟨b', n', p', a', f'⟩ ⟨b, n, p, a, f⟩ = decide (cmpB ⟨b', n', p', a', f'⟩ ⟨b, n, p, a, f⟩ < 0) := befB_lt _ _
        have hml : ((pre ++ [(⟨b', n', p', a', f'⟩ : Bid)]).map bidV).length = pre.length + 1 := by simp
        rw [hal2] at g3 g2 hn1 ⊢
        obtain ⟨A, hA⟩ : ∃ A, (pre ++ [(⟨b', n', p', a', f'⟩ : Bid)]).map bidV = A := ⟨_, rfl⟩
        rw [hA] at e1 hml ⊢
        simp only [c1, hj1, hne, hc, k1, h10, hx, cp, wp, e1, hb, hn1, hml, bidV, bidOf_agg, Bool.not_true, Bool.and_false, List.take_succ_cons, List.take_nil, decide_true, decide_false, indexA, Int.toNat_natCast, Nat.reduceBEq, k_rparseS_20, rvalS, on_p_eq, k_rparseS_22, rbefS, on_pp_eq, k_rparseS_32, rlineS, k_rparseS_44, rreadS, on_s_eq, Tryz.underlying1, sz1, by1, ze1, Tryz.underlying3, sz3, by3, ze3, Tryz.underlying4, sz4, by4, ze4, Tryz.underlying5, sz5, by5, ze5, Tryz.underlying9, sz9, by9, ze9, Tryz.underlying23, sz23, by23, ze23, Tryz.underlying29, sz29, by29, ze29, fa29_0, fa29_1, fa29_2, fa29_3, fa29_4, Tryz.underlying32, sz32, by32, ze32, planV, go_sem, ↓reduceIte, reduceCtorEq, Nat.reduceEqDiff, Nat.reduceLT, ↓all_qV, Int.reduceToNat, Int.reduceLT, Int.reduceLE, Nat.reduceAdd, Nat.reduceLeDiff, Nat.reduceMul, ev_callG, gcallK_b, gcallK_w, callGc_true, callGc_false]
        refine ⟨⟨by omega, by omega⟩, ?_⟩
        refine AWp.seqc (T := plan0) ?_
        simp only [c1, hj1, hne, hc, k1, h10, hx, cp, wp, e1, hb, hn1, hml, bidV, bidOf_agg, Bool.not_true, Bool.and_false, List.take_succ_cons, List.take_nil, decide_true, decide_false, indexA, Int.toNat_natCast, Nat.reduceBEq, k_rparseS_20, rvalS, on_p_eq, k_rparseS_22, rbefS, on_pp_eq, k_rparseS_32, rlineS, k_rparseS_44, rreadS, on_s_eq, Tryz.underlying1, sz1, by1, ze1, Tryz.underlying3, sz3, by3, ze3, Tryz.underlying4, sz4, by4, ze4, Tryz.underlying5, sz5, by5, ze5, Tryz.underlying9, sz9, by9, ze9, Tryz.underlying23, sz23, by23, ze23, Tryz.underlying29, sz29, by29, ze29, fa29_0, fa29_1, fa29_2, fa29_3, fa29_4, Tryz.underlying32, sz32, by32, ze32, plan0, go_sem, ↓reduceIte, reduceCtorEq, Nat.reduceEqDiff, Nat.reduceLT, ↓all_qV, Int.reduceToNat, Int.reduceLT, Int.reduceLE, Nat.reduceAdd, Nat.reduceLeDiff, Nat.reduceMul, ev_callG, gcallK_b, gcallK_w, callGc_true, callGc_false]
        refine ⟨⟨by omega, by omega⟩, by omega, ?_⟩
        refine AWp.seqc (T := plan0) ?_
        simp only [c1, hj1, hne, hc, k1, h10, hx, cp, wp, e1, hb, hn1, hml, bidV, bidOf_agg, Bool.not_true, Bool.and_false, List.take_succ_cons, List.take_nil, decide_true, decide_false, indexA, Int.toNat_natCast, Nat.reduceBEq, k_rparseS_20, rvalS, on_p_eq, k_rparseS_22, rbefS, on_pp_eq, k_rparseS_32, rlineS, k_rparseS_44, rreadS, on_s_eq, Tryz.underlying1, sz1, by1, ze1, Tryz.underlying3, sz3, by3, ze3, Tryz.underlying4, sz4, by4, ze4, Tryz.underlying5, sz5, by5, ze5, Tryz.underlying9, sz9, by9, ze9, Tryz.underlying23, sz23, by23, ze23, Tryz.underlying29, sz29, by29, ze29, fa29_0, fa29_1, fa29_2, fa29_3, fa29_4, Tryz.underlying32, sz32, by32, ze32, plan0, go_sem, ↓reduceIte, reduceCtorEq, Nat.reduceEqDiff, Nat.reduceLT, ↓all_qV, Int.reduceToNat, Int.reduceLT, Int.reduceLE, Nat.reduceAdd, Nat.reduceLeDiff, Nat.reduceMul, ev_callG, gcallK_b, gcallK_w, callGc_true, callGc_false]
        refine ⟨by kernel_rfl, ⟨okBid, isBid_agg⟩, fun h => ⟨okBid, ⟨b, n, p, a, f⟩, rfl, h⟩, fun _ => ⟨by omega, by omega⟩, fun h => by simpa using h, fun _ => ⟨by omega, by omega⟩, fun _ => by omega, fun _ => ⟨okBid, isBid_agg, isBid_agg⟩, fun h9 => ?_, fun h9 => ?_⟩
        · rw [Bool.or_assoc] at h9
          rw [g3, h9, show ((pre.length + 1 + 1 : Nat) : Int) = ((pre.length + 1 : Nat) : Int) + 1 by omega]; rfl
        rw [Bool.or_assoc] at h9
        have hwA : ∀ e, e ∈ A → e.cells.length = 5 := fun e he => by rw [← hA] at he; obtain ⟨z, _, rfl⟩ := List.mem_map.1 he; rfl
        have tA : A.take (pre.length + 1) = A := List.take_of_length_le (by omega)
        refine AWp.perm0 [0, 1, 2, 3, 4, 5, 6, 7, 8, 9] (by kernel_rfl) rfl ?_
        simp only [opsOf, List.filterMap_cons, List.filterMap_nil, List.getElem?_toArray, List.getElem?_cons_succ, List.getElem?_cons_zero, hn1, hml, tA, hj1, List.take_length, List.length_nil, List.take_succ_cons, List.take_nil, k_rparseS_20, rvalS, on_p_eq, k_rparseS_22, rbefS, on_pp_eq, k_rparseS_32, rlineS, k_rparseS_44, rreadS, on_s_eq, Tryz.underlying1, sz1, by1, ze1, Tryz.underlying3, sz3, by3, ze3, Tryz.underlying4, sz4, by4, ze4, Tryz.underlying5, sz5, by5, ze5, Tryz.underlying9, sz9, by9, ze9, Tryz.underlying23, sz23, by23, ze23, Tryz.underlying29, sz29, by29, ze29, fa29_0, fa29_1, fa29_2, fa29_3, fa29_4, Tryz.underlying32, sz32, by32, ze32, plan0, go_sem, ↓reduceIte, reduceCtorEq, Nat.reduceEqDiff, Nat.reduceLT, ↓all_qV, Int.reduceToNat, Int.reduceLT, Int.reduceLE, Nat.reduceAdd, Nat.reduceLeDiff, Nat.reduceMul, ev_callG, gcallK_b, gcallK_w, callGc_true, callGc_false]
        have hw1 : ∀ e, e ∈ [PV.agg [.int .i64 b, .int .i64 n, .int .i64 p, .int .i64 a, .bool f]] → e.cells.length = 5 := fun e he => by rw [List.mem_singleton] at he; subst he; rfl
        refine ⟨okBid, rfl, hw1, Nat.le_refl _, by omega, by simp only [maxLen]; omega, ⟨by omega, by omega⟩, (pre ++ [⟨b', n', p', a', f'⟩] ++ [⟨b, n, p, a, f⟩], cur.drop (j + 1)), ⟨by rw [g3, h9]; rfl, by simp only [List.length_append, List.length_cons, List.length_nil, hdl]; omega⟩, by simp only [hdl]; omega, ⟨by simp [fitR, look]; omega, by simp [fitH, hget, hset, bidV, ← hA], rfl, rfl, rfl⟩⟩
  · have c1 : decide ((j : Int) < (cur.length : Int)) = false := by simp; omega
    have heq : ((j : Int) == (cur.length : Int)) = true := by simp; omega
    rw [List.take_of_length_le (by omega)] at f2
    rw [g1, prsG_end f2 hcur]
    simp only [c1, heq, indexA, Int.toNat_natCast, Nat.reduceBEq, Tryz.underlying1, sz1, by1, ze1, Tryz.underlying3, sz3, by3, ze3, Tryz.underlying4, sz4, by4, ze4, Tryz.underlying5, sz5, by5, ze5, Tryz.underlying9, sz9, by9, ze9, Tryz.underlying23, sz23, by23, ze23, Tryz.underlying29, sz29, by29, ze29, fa29_0, fa29_1, fa29_2, fa29_3, fa29_4, Tryz.underlying32, sz32, by32, ze32, planV, go_sem, ↓reduceIte, reduceCtorEq, Nat.reduceEqDiff, Nat.reduceLT, ↓all_qV, Int.reduceToNat, Int.reduceLT, Int.reduceLE, Nat.reduceAdd, Nat.reduceLeDiff, Nat.reduceMul, ev_callG, gcallK_b, gcallK_w, callGc_true, callGc_false]
    rw [show ((acc.length + 1 : Nat) : Int) = (acc.length : Int) + 1 by omega]
noncomputable def Ci (g : FuncId) : PSpec := (putΦ Ch 26 rparseS) g
theorem hCi : TabSound GG Ci := (hCh.put w_rparseS)
end Go.AM
