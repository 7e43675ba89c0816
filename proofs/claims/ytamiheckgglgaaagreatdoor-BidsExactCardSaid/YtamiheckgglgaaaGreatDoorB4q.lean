/-
  A part of a proof: see the last text of this claim for what is proved.
-/
import Derived.Test.YtamiheckgglgaaaGreatDoorBI
import Derived.Test.YtamiheckgglgaaaGreatDoorNE
import Derived.Test.YtamiheckgglgaaaGreatDoorZMa
/-! the reference's Sort -/
namespace Go.AM
open Go Go.Proofs Go.IntWalk
set_option maxRecDepth 100000
set_option maxHeartbeats 1000000
set_option linter.unusedSimpArgs false
set_option linter.unusedVariables false
theorem befB_lt (x y : Bid) : befB x y = ltB x y := by
  rw [Bool.eq_iff_iff, ltB_iff]
  unfold befB
  simp
/-- A bid put into a list from behind. -/
def insF (b : Bid) (out : List Bid) : List Bid := (rins ltB b out.reverse).reverse
theorem insF_nil (b : Bid) : insF b [] = [b] := rfl
theorem insF_snoc (b y : Bid) (p : List Bid) : insF b (p ++ [y]) = bif ltB b y then insF b p ++ [y] else p ++ [y, b] := by
  unfold insF
  rw [List.reverse_append]
  show (rins ltB b (y :: p.reverse)).reverse = _
  rw [rins]
  cases ltB b y <;> simp
theorem isort_snoc (l : List Bid) (x : Bid) : isort ltB (l ++ [x]) = insF x (isort ltB l) := by
  unfold isort insF
  rw [rsort_snoc, List.reverse_reverse]
noncomputable def rsortS : PSpec := on_l (fun es => (∃ l : List Bid, es = l.map bidV) ∧ es.length ≤ 100000) (fun es => .sl ((srtL (es.map bidOf)).map bidV))
def planR : Plan := { keep := fun _ => none, cut := fun _ => false, stop := fun i => i == 3 }
def planS : Plan := { keep := fun _ => none, cut := fun _ => false, stop := fun i => i == 5 }
theorem k_rsortS_22 {args : List PV} : Bi 22 args = rbefS args := rfl
theorem w_rsortS : PSound GG 14 rsortS := by
  refine PSound.of_wpc (C := cxQ Tryz.prog Bi noΘ noΨ [] [] 41) (T := planR) Tryz.func14 rfl rfl rfl (Fit.all (G := GG) hBi hnoΘ hnoΨ mixed) (fun args h => ?_)
  unfold rsortS at h
  obtain ⟨es, rfl, ⟨l, rfl⟩, hl⟩ := on_l_inv h
  refine ⟨by simp [cxQ], ?_⟩
  simp only [List.length_map] at hl
  simp only [rsortS, map_bidOf, on_l_eq, List.length_map, Nat.reduceBEq, k_rsortS_22, rbefS, on_pp_eq, Tryz.f14, argL, Tryz.underlying1, sz1, by1, ze1, Tryz.underlying3, sz3, by3, ze3, Tryz.underlying4, sz4, by4, ze4, Tryz.underlying23, sz23, by23, ze23, Tryz.underlying29, sz29, by29, ze29, fa29_0, fa29_1, fa29_2, fa29_3, fa29_4, planR, go_sem, ↓reduceIte, reduceCtorEq, Nat.reduceEqDiff, Nat.reduceLT, ↓all_qV, Int.reduceToNat, Int.reduceLT, Int.reduceLE, Nat.reduceAdd, Nat.reduceLeDiff, Nat.reduceMul, ev_callG, gcallK_b, gcallK_w, callGc_true, callGc_false]
  refine AWp.adoptS (s := 3) (κ := 31) (k := 5) (by simp [look]) rfl (by decide) ?_
  have hsl : ∀ i, i ≤ l.length → (srtL (l.take i)).length = i := fun i hi => by rw [srtL_length, List.length_take]; omega
  refine AWp.loop (T := planR) (α := Nat) (fun i => ([(3, .rs 31 i), (7, .pv (.sl (l.map bidV))), (8, .pv (.int .i64 l.length)), (9, .pv (.int .i64 i))], [(31, .row 5 ((srtL (l.take i)).map bidV))])) (fun i => i ≤ l.length) (fun i => l.length - i)
    ⟨0, Nat.zero_le _, ⟨by simp [fitR, look, upd], by simp [fitH, hget, hset, srtL, isort, rsort], rfl, rfl, rfl⟩⟩ ?_
  intro i hi
  have hi1 : IntKind.i64.wrap ((i : Int) + 1) = ((i + 1 : Nat) : Int) := by rw [i64_in _ (by omega)]; omega
  have hlen := hsl i hi
  simp only [Nat.reduceBEq, planR, go_sem, ↓reduceIte, reduceCtorEq, Nat.reduceEqDiff, Nat.reduceLT, ↓all_qV, Int.reduceToNat, Int.reduceLT, Int.reduceLE, Nat.reduceAdd, Nat.reduceLeDiff, Nat.reduceMul, ev_callG, gcallK_b, gcallK_w, callGc_true, callGc_false]
  refine AWp.freeze (T := planS) 31 5 (α := Unit) (fun _ => (srtL (l.take i)).map bidV) (fun _ => ([(3, .pv (.sl ((srtL (l.take i)).map bidV))), (7, .pv (.sl (l.map bidV))), (8, .pv (.int .i64 l.length)), (9, .pv (.int .i64 i))], [])) (fun _ => True) ⟨(), trivial, ⟨by simp [hget], rfl, ?_, trivial, rfl, rfl, rfl⟩⟩ ?_
  · have tkS : ((srtL (l.take i)).map bidV).take i = (srtL (l.take i)).map bidV := List.take_of_length_le (by rw [List.length_map, hlen]; exact Nat.le_refl _)
    refine ⟨.inr ⟨i, by simp [look], by simp [hlen], by rw [tkS]⟩, .inl (by simp [look]), .inl (by simp [look]), .inl (by simp [look]), trivial⟩
  rintro _ _
  by_cases hlt : i < l.length
  · have c0 : decide ((i : Int) < (l.length : Int)) = true := by simp; omega
    have e1 := getD_bid hlt
    have hst : srtL (l.take (i + 1)) = insF (l.getD i default) (srtL (l.take i)) := by rw [take_succ' hlt]; exact isort_snoc _ _
    generalize l.getD i default = x at e1 hst
    generalize srtL (l.take i) = out at hlen hst ⊢
    obtain ⟨b, n, p, a, f⟩ := x
    simp only [bidV] at e1
    simp only [c0, e1, hi1, Nat.reduceBEq, List.length_map, List.take_succ_cons, List.take_nil, k_rsortS_22, rbefS, on_pp_eq, Tryz.underlying1, sz1, by1, ze1, Tryz.underlying3, sz3, by3, ze3, Tryz.underlying4, sz4, by4, ze4, Tryz.underlying23, sz23, by23, ze23, Tryz.underlying29, sz29, by29, ze29, fa29_0, fa29_1, fa29_2, fa29_3, fa29_4, planS, go_sem, ↓reduceIte, reduceCtorEq, Nat.reduceEqDiff, Nat.reduceLT, ↓all_qV, Int.reduceToNat, Int.reduceLT, Int.reduceLE, Nat.reduceAdd, Nat.reduceLeDiff, Nat.reduceMul, ev_callG, gcallK_b, gcallK_w, callGc_true, callGc_false]
    refine ⟨⟨by omega, by omega⟩, ?_⟩
    refine AWp.seqc (T := plan0) ?_
    simp only [List.length_map, hlen, Tryz.underlying1, sz1, by1, ze1, Tryz.underlying3, sz3, by3, ze3, Tryz.underlying4, sz4, by4, ze4, Tryz.underlying23, sz23, by23, ze23, Tryz.underlying29, sz29, by29, ze29, fa29_0, fa29_1, fa29_2, fa29_3, fa29_4, plan0, go_sem, ↓reduceIte, reduceCtorEq, Nat.reduceEqDiff, Nat.reduceLT, ↓all_qV, Int.reduceToNat, Int.reduceLT, Int.reduceLE, Nat.reduceAdd, Nat.reduceLeDiff, Nat.reduceMul, ev_callG, gcallK_b, gcallK_w, callGc_true, callGc_false]
    refine AWp.seqc (T := plan0) ?_
    simp only [plan0, go_sem, ↓reduceIte, reduceCtorEq, Nat.reduceEqDiff, Nat.reduceLT, ↓all_qV, Int.reduceToNat, Int.reduceLT, Int.reduceLE, Nat.reduceAdd, Nat.reduceLeDiff, Nat.reduceMul, ev_callG, gcallK_b, gcallK_w, callGc_true, callGc_false]
    refine AWp.loop (T := plan0) (α := Nat) (fun k => ([(3, .pv (.sl (out.map bidV))), (5, .ptr 5 0), (6, .pv (.int .i64 k)), (7, .pv (.sl (l.map bidV))), (8, .pv (.int .i64 l.length)), (9, .pv (.int .i64 i))], [(5, .cells [.pv (.int .i64 b), .pv (.int .i64 n), .pv (.int .i64 p), .pv (.int .i64 a), .pv (.bool f)])]))
      (fun k => k ≤ i ∧ insF ⟨b, n, p, a, f⟩ out = insF ⟨b, n, p, a, f⟩ (out.take k) ++ out.drop k) (fun k => k)
      ⟨i, ⟨Nat.le_refl _, by rw [List.take_of_length_le (by omega), List.drop_of_length_le (by omega), List.append_nil]⟩, ⟨by simp [fitR, look], by simp [fitH, hget], rfl, rfl, rfl⟩⟩ ?_
    rintro k ⟨k1, k2⟩
    have tki : (out.map bidV).take i = out.map bidV := List.take_of_length_le (by simp [hlen])
    have hwo : ∀ e, e ∈ out.map bidV → 5 = e.cells.length := fun e he => by obtain ⟨z, _, rfl⟩ := List.mem_map.1 he; rfl
    have hwx : ∀ e, e ∈ [PV.agg [.int .i64 b, .int .i64 n, .int .i64 p, .int .i64 a, .bool f]] → e.cells.length = 5 := fun e he => by rw [List.mem_singleton] at he; subst he; rfl
    have hwn : ∀ e, e ∈ ([] : List PV) → e.cells.length = 5 := fun e he => by cases he
    cases k with
    | zero =>
      have q1 : decide ((0 : Int) < 0) = false := by decide
      simp only [q1, List.length_map, hlen, List.take_succ_cons, List.take_nil, k_rsortS_22, rbefS, on_pp_eq, Tryz.underlying1, sz1, by1, ze1, Tryz.underlying3, sz3, by3, ze3, Tryz.underlying4, sz4, by4, ze4, Tryz.underlying23, sz23, by23, ze23, Tryz.underlying29, sz29, by29, ze29, fa29_0, fa29_1, fa29_2, fa29_3, fa29_4, plan0, go_sem, ↓reduceIte, reduceCtorEq, Nat.reduceEqDiff, Nat.reduceLT, ↓all_qV, Int.reduceToNat, Int.reduceLT, Int.reduceLE, Nat.reduceAdd, Nat.reduceLeDiff, Nat.reduceMul, ev_callG, gcallK_b, gcallK_w, callGc_true, callGc_false]
      have nf : ∀ {p : Prop}, decide False = true → p := fun h => by simp at h
      refine ⟨by kernel_rfl, nf, nf, nf, fun h => by simp at h, fun _ => ?_⟩
      refine AWp.perm0 [0, 1, 2, 4, 5, 3, 6, 7, 8, 9, 10, 11] (by kernel_rfl) rfl ?_
      simp only [opsOf, List.filterMap_cons, List.filterMap_nil, List.getElem?_toArray, List.getElem?_cons_succ, List.getElem?_cons_zero, hi1, hlen, tki, List.length_map, List.take_succ_cons, List.take_nil, Tryz.underlying1, sz1, by1, ze1, Tryz.underlying3, sz3, by3, ze3, Tryz.underlying4, sz4, by4, ze4, Tryz.underlying23, sz23, by23, ze23, Tryz.underlying29, sz29, by29, ze29, fa29_0, fa29_1, fa29_2, fa29_3, fa29_4, plan0, go_sem, ↓reduceIte, reduceCtorEq, Nat.reduceEqDiff, Nat.reduceLT, ↓all_qV, Int.reduceToNat, Int.reduceLT, Int.reduceLE, Nat.reduceAdd, Nat.reduceLeDiff, Nat.reduceMul, ev_callG, gcallK_b, gcallK_w, callGc_true, callGc_false]
      refine ⟨⟨by omega, hwo⟩, okBid, rfl, hwn, by simp only [maxLen]; omega, rfl, hwx, by simp only [maxLen]; omega, ⟨by omega, hwo⟩, rfl, fun e he => (hwo e he).symm, by omega, by simp only [maxLen]; omega, i + 1, by omega, by omega, ⟨by simp [fitR, look]; omega, ?_, rfl, rfl, rfl⟩⟩
      rw [hst, k2, List.take_zero, List.drop_zero, insF_nil]
      simp [fitH, hget, bidV]
    | succ j =>
      have q1 : decide (0 < ((j + 1 : Nat) : Int)) = true := by simp
      have w2 : IntKind.i64.wrap (((j + 1 : Nat) : Int) - 1) = (j : Int) := by rw [i64_in _ (by omega)]; omega
      have e2 := getD_bid (l := out) (i := j) (by omega)
      have hst2 : insF ⟨b, n, p, a, f⟩ (out.take (j + 1)) = bif ltB ⟨b, n, p, a, f⟩ (out.getD j default) then insF ⟨b, n, p, a, f⟩ (out.take j) ++ [out.getD j default] else out.take j ++ [out.getD j default, ⟨b, n, p, a, f⟩] := by rw [take_succ' (by omega), insF_snoc]
      have hd := drop_cons' (l := out) (i := j) (by omega)
      have ht := take_succ' (l := out) (i := j) (by omega)
      generalize out.getD j default = y at e2 hst2 hd ht
      obtain ⟨b', n', p', a', f'⟩ := y
      simp only [bidV] at e2
      simp only [q1, w2, e2, bidOf_agg, befB_lt, List.length_map, hlen, List.take_succ_cons, List.take_nil, k_rsortS_22, rbefS, on_pp_eq, Tryz.underlying1, sz1, by1, ze1, Tryz.underlying3, sz3, by3, ze3, Tryz.underlying4, sz4, by4, ze4, Tryz.underlying23, sz23, by23, ze23, Tryz.underlying29, sz29, by29, ze29, fa29_0, fa29_1, fa29_2, fa29_3, fa29_4, plan0, go_sem, ↓reduceIte, reduceCtorEq, Nat.reduceEqDiff, Nat.reduceLT, ↓all_qV, Int.reduceToNat, Int.reduceLT, Int.reduceLE, Nat.reduceAdd, Nat.reduceLeDiff, Nat.reduceMul, ev_callG, gcallK_b, gcallK_w, callGc_true, callGc_false]
      refine ⟨by kernel_rfl, ⟨by omega, by omega⟩, ⟨okBid, isBid_agg, isBid_agg⟩, fun h9 => ⟨j, ⟨by omega, ?_⟩, by omega, ⟨by simp [fitR, look], by simp [fitH, hget], rfl, rfl, rfl⟩⟩, fun h9 => ?_⟩
      · rw [k2, hst2, h9, hd]; simp
      refine AWp.perm0 [0, 1, 2, 4, 5, 3, 6, 7, 8, 9, 10, 11] (by kernel_rfl) rfl ?_
      obtain ⟨A, hA⟩ : ∃ A, (out.take (j + 1)).map bidV = A := ⟨_, rfl⟩
      obtain ⟨D, hD⟩ : ∃ D, (out.drop (j + 1)).map bidV = D := ⟨_, rfl⟩
      have hA1 : (out.map bidV).take (j + 1) = A := by rw [← hA]; exact (List.map_take ..).symm
      have hD1 : (out.map bidV).drop (j + 1) = D := by rw [← hD]; exact (List.map_drop ..).symm
      have hAl : A.length = j + 1 := by rw [← hA, List.length_map, List.length_take]; omega
      have hDl : D.length = i - (j + 1) := by rw [← hD, List.length_map, List.length_drop]; omega
      have tA : A.take (j + 1) = A := List.take_of_length_le (by omega)
      have tB : ∀ z : PV, (A ++ [z]).take (j + 1 + 1) = A ++ [z] := fun z => List.take_of_length_le (by simp; omega)
      have hwA : ∀ e, e ∈ A → e.cells.length = 5 := fun e he => (hwo e (by rw [← hA1] at he; exact List.mem_of_mem_take he)).symm
      have hwD : ∀ e, e ∈ D → e.cells.length = 5 := fun e he => (hwo e (by rw [← hD1] at he; exact List.mem_of_mem_drop he)).symm
      have lB : ∀ z : PV, (A ++ [z]).length = j + 1 + 1 := fun z => by simp; omega
      simp only [opsOf, List.filterMap_cons, List.filterMap_nil, List.getElem?_toArray, List.getElem?_cons_succ, List.getElem?_cons_zero, hi1, hlen, tki, hA1, hD1, hAl, hDl, tA, tB, lB, List.length_map, List.take_succ_cons, List.take_nil, Tryz.underlying1, sz1, by1, ze1, Tryz.underlying3, sz3, by3, ze3, Tryz.underlying4, sz4, by4, ze4, Tryz.underlying23, sz23, by23, ze23, Tryz.underlying29, sz29, by29, ze29, fa29_0, fa29_1, fa29_2, fa29_3, fa29_4, plan0, go_sem, ↓reduceIte, reduceCtorEq, Nat.reduceEqDiff, Nat.reduceLT, ↓all_qV, Int.reduceToNat, Int.reduceLT, Int.reduceLE, Nat.reduceAdd, Nat.reduceLeDiff, Nat.reduceMul, ev_callG, gcallK_b, gcallK_w, callGc_true, callGc_false]
      refine ⟨⟨by omega, by omega, hwo⟩, okBid, rfl, hwA, by omega, by simp only [maxLen]; omega, rfl, hwx, Nat.le_refl _, by omega, by simp only [maxLen]; omega, ⟨by omega, by omega, hwo⟩, rfl, hwD, Nat.le_refl _, by omega, by simp only [maxLen]; omega, i + 1, by omega, by omega, ⟨by simp [fitR, look]; omega, ?_, rfl, rfl, rfl⟩⟩
      rw [hst, k2, hst2, h9]
      simp [fitH, hget, ← hA, ← hD, ht, bidV]
  · have c0 : decide ((i : Int) < (l.length : Int)) = false := by simp; omega
    have hil : i = l.length := by omega
    subst hil
    rw [List.take_length]
    simp only [c0, Nat.reduceBEq, Tryz.underlying1, sz1, by1, ze1, Tryz.underlying3, sz3, by3, ze3, Tryz.underlying4, sz4, by4, ze4, Tryz.underlying23, sz23, by23, ze23, Tryz.underlying29, sz29, by29, ze29, fa29_0, fa29_1, fa29_2, fa29_3, fa29_4, planS, go_sem, ↓reduceIte, reduceCtorEq, Nat.reduceEqDiff, Nat.reduceLT, ↓all_qV, Int.reduceToNat, Int.reduceLT, Int.reduceLE, Nat.reduceAdd, Nat.reduceLeDiff, Nat.reduceMul, ev_callG, gcallK_b, gcallK_w, callGc_true, callGc_false]
noncomputable def Bj (g : FuncId) : PSpec := (putΦ Bi 14 rsortS) g
theorem hBj : TabSound GG Bj := (hBi.put w_rsortS)
end Go.AM
