/-
  A part of a proof: see the last text of this claim for what is proved.
-/
import Derived.Test.YtamiheckgglgaaaGreatDoorB4y
import Derived.Test.YtamiheckgglgaaaGreatDoorPN
import Derived.Test.YtamiheckgglgaaaGreatDoorZMa
/-! BidsExact -/
namespace Go.AM
open Go Go.Proofs Go.IntWalk
set_option maxRecDepth 100000
set_option maxHeartbeats 8000000
set_option linter.unusedSimpArgs false
set_option linter.unusedVariables false
def on_lps (p : List PV → PV → List UInt8 → Prop) (f : List PV → PV → List UInt8 → PV) : PSpec
  | [.sl a0, a1, .str a2] => (p a0 a1 a2, f a0 a1 a2)
  | _ => (False, default)
theorem on_lps_eq {p : List PV → PV → List UInt8 → Prop} {f : List PV → PV → List UInt8 → PV} {a0 : List PV} {a1 : PV} {a2 : List UInt8} : on_lps p f [.sl a0, a1, .str a2] = (p a0 a1 a2, f a0 a1 a2) := rfl
theorem on_lps_inv {p : List PV → PV → List UInt8 → Prop} {f : List PV → PV → List UInt8 → PV} {args : List PV} (h : (on_lps p f args).1) : ∃ a0 : List PV, ∃ a1 : PV, ∃ a2 : List UInt8, args = [.sl a0, a1, .str a2] ∧ p a0 a1 a2 := by
  unfold on_lps at h
  split at h
  · exact ⟨_, _, _, rfl, h⟩
  · exact h.elim
noncomputable def sortVS : PSpec := on_l (fun es => (∃ l : List Bid, es = l.map bidV) ∧ es.length ≤ 100000) (fun es => .sl ((srtL (es.map bidOf)).map bidV))
theorem w_sortVS : PSound GG 13 sortVS := by
  refine PSound.of_wpc (C := cxQ Tryz.prog B5 noΘ Ψt4 [] [] 9) (T := plan0) Tryz.func13 rfl rfl rfl (Fit.all (G := GG) hB5 hnoΘ hΨt4 mixed) (fun args h => ?_)
  unfold sortVS at h
  obtain ⟨es, rfl, ⟨l, rfl⟩, hl⟩ := on_l_inv h
  refine ⟨by simp [cxQ], ?_⟩
  simp only [List.length_map] at hl
  simp only [sortVS, map_bidOf, Ψt4, Ψt3, psiRow_eq, psiPut_eq, all_sl, cloneQ, on_l_eq, sort2P_eq, sortQ_map, List.length_map, Tryz.f13, argL, Tryz.underlying3, sz3, by3, ze3, Tryz.underlying4, sz4, by4, ze4, Tryz.underlying23, sz23, by23, ze23, Tryz.underlying29, sz29, by29, ze29, fa29_0, fa29_1, fa29_2, fa29_3, fa29_4, Tryz.underlying66, sz66, by66, ze66, plan0, go_sem, ↓reduceIte, reduceCtorEq, Nat.reduceEqDiff, Nat.reduceLT, ↓all_qV, Int.reduceToNat, Int.reduceLT, Int.reduceLE, Nat.reduceAdd, Nat.reduceLeDiff, Nat.reduceMul, ev_callG, gcallK_b, gcallK_w, callGc_true, callGc_false, List.forall_mem_cons, List.not_mem_nil, PV.one, AV.one]
  exact ⟨⟨bidV_one, by omega⟩, ⟨hl, isBid_map⟩, srtL_length l, by rw [srtL_length]; exact Nat.le_refl _, by rw [List.take_of_length_le (by rw [List.length_map, srtL_length]; exact Nat.le_refl _)]⟩
noncomputable def Cj (g : FuncId) : PSpec := (putΦ Ci 13 sortVS) g
theorem hCj : TabSound GG Cj := (hCi.put w_sortVS)
noncomputable def Ψn (g : FuncId) : Option ESpec := putΨ noΨ 5 newS g
theorem hΨn : ETab GG Ψn := hnoΨ.put w_newS psiNew_mono
def planAt (n : Nat) : Plan := { keep := fun _ => none, cut := fun _ => false, stop := fun i => i == n }
theorem fmt_any (x : List Bid) : ∃ S E, (bif chkF x == 0 then [PV.str (fmtL (srtL x)), PV.int .i64 0] else [PV.str [], PV.int .i64 (chkF x)]) = [PV.str S, PV.int .i64 E] ∧ S.length ≤ 8900 := by
  cases h : chkF x == 0 with
  | false => exact ⟨[], chkF x, rfl, by simp⟩
  | true =>
    have h0 : chkF x = 0 := by simpa using h
    have hv : ∀ y, y ∈ srtL x → vB y = true := fun y hy => chkF_vB h0 y ((isort_perm ltB x).mem_iff.1 hy)
    have hn : (srtL x).length ≤ 60 := by
      rw [srtL_length]
      unfold chkF at h0
      by_cases h : 60 < x.length
      · rw [decide_eq_true (by omega)] at h0; cases h0
      · omega
    have := fmtL_len (srtL x) hv
    exact ⟨fmtL (srtL x), 0, rfl, by omega⟩
theorem line_any (y : Bid) : ∃ S E, (bif vB y then [PV.str (lineL y), PV.int .i64 0] else [PV.str [], PV.int .i64 74]) = [PV.str S, PV.int .i64 E] := by
  cases vB y
  · exact ⟨_, _, rfl⟩
  · exact ⟨_, _, rfl⟩
theorem AWp.join4 {C : Ctx} {T : Plan} {c : Code} {Q : AX → ASt → Prop} {p q R X : Prop} {s2 : ASt} {α : Type} (I : α → List (Nat × AV) × AHeap) (P : α → Prop)
    (h1 : p → (∀ z st, P z → Fits C.pins (I z).1 (I z).2 st → AWp C c Q st) → R) (h2 : q → X ∧ ∃ z, P z ∧ Fits C.pins (I z).1 (I z).2 s2) (rest : ∀ z, P z → wpc C T c Q ⟨look (I z).1, (I z).2⟩) : (p → R) ∧ (q → X ∧ AWp C c Q s2) :=
  ⟨fun hp => h1 hp (fun z _ hz h => AWp.here I P ⟨z, hz, h⟩ rest), fun hq => ⟨(h2 hq).1, AWp.here I P (h2 hq).2 rest⟩⟩
theorem prsG_len : ∀ (t : List (List UInt8)) (acc : List Bid), (prsG acc t).1.length ≤ acc.length + t.length
  | [], acc => by simp [prsG]
  | x :: t, acc => by
    rw [prsG]
    cases condB acc (readL (Lib.trimSuffix x [10])) x with
    | true => simp
    | false =>
      have := prsG_len t (acc ++ [readL (Lib.trimSuffix x [10])])
      simp only [cond_false, List.length_append, List.length_cons, List.length_nil] at this ⊢
      omega
theorem prs_len (s : List UInt8) : (prs s).1.length ≤ s.length := by
  have h1 := (linesOf_len s.length s (Nat.le_refl _)).1
  have h2 := prsG_len (linesOf s) []
  rw [List.length_nil] at h2
  unfold prs
  cases (decide (12000 < (s.length : Int)) || decide (60 < ((s.count 10 : Nat) : Int))) with
  | true => simp
  | false => simp only [cond_false]; omega
noncomputable def exS : PSpec := on_lps (fun es rw _ => (es.length ≤ 9223372036854775807 ∧ ∀ e, e ∈ es → isI e) ∧ ∃ l : List Bid, rw = .sl (l.map bidV)) (fun _ _ _ => .bool true)
theorem k_exL_4 {args : List PV} : Cj 4 args = saneS args := rfl
theorem k_exL_8 {args : List PV} : Cj 8 args = formatS args := rfl
theorem k_exL_9 {args : List PV} : Cj 9 args = rfmtS args := rfl
theorem k_exL_10 {args : List PV} : Cj 10 args = checkS args := rfl
theorem k_exL_11 {args : List PV} : Cj 11 args = rchkS args := rfl
theorem k_exL_12 {args : List PV} : Cj 12 args = sameG args := rfl
theorem k_exL_13 {args : List PV} : Cj 13 args = sortVS args := rfl
theorem k_exL_14 {args : List PV} : Cj 14 args = rsortS args := rfl
theorem k_exL_15 {args : List PV} : Cj 15 args = totalS args := rfl
theorem k_exL_16 {args : List PV} : Cj 16 args = rtotS args := rfl
theorem k_exL_17 {args : List PV} : Cj 17 args = LineS args := rfl
theorem k_exL_18 {args : List PV} : Cj 18 args = rLineS args := rfl
theorem k_exL_19 {args : List PV} : Cj 19 args = validS args := rfl
theorem k_exL_20 {args : List PV} : Cj 20 args = rvalS args := rfl
theorem k_exL_21 {args : List PV} : Cj 21 args = beforeS args := rfl
theorem k_exL_22 {args : List PV} : Cj 22 args = rbefS args := rfl
theorem k_exL_25 {args : List PV} : Cj 25 args = parseS args := rfl
theorem k_exL_26 {args : List PV} : Cj 26 args = rparseS args := rfl
theorem w_exS : PSound GG 3 exS := by
  refine PSound.of_wpc (C := cxQ Tryz.prog Cj Θ6 Ψn [] [] 214) (T := planAt 4) Tryz.func3 rfl rfl rfl (Fit.all (G := GG) hCj hΘ6 hΨn mixed) (fun args h => ?_)
  unfold exS at h
  obtain ⟨es0, rw0, text, rfl, ⟨he1, he2⟩, ⟨raw, rfl⟩⟩ := on_lps_inv h
  refine ⟨by simp [cxQ], ?_⟩
  simp (config := {maxSteps := 1000000}) only [exS, on_lps_eq, k_exL_4, saneS, on__eq, k_exL_8, formatS, on_l_eq, k_exL_9, rfmtS, k_exL_10, checkS, k_exL_11, rchkS, k_exL_12, sameG, on_ll_eq, k_exL_13, sortVS, k_exL_14, rsortS, k_exL_15, totalS, on_lb_eq, k_exL_16, rtotS, k_exL_17, LineS, on_p_eq, k_exL_18, rLineS, k_exL_19, validS, k_exL_20, rvalS, k_exL_21, beforeS, on_pp_eq, k_exL_22, rbefS, k_exL_25, parseS, on_s_eq, k_exL_26, rparseS, Ψn, Θ6, Θ5, Θ4, Θ3, Θ2, Θ1, Ψ1, newS, preT_eq, nS, preN_eq, preB_eq, preX_eq, preO_eq, okX_eq, okN, arg1, arg2, intV, strV, bidsV, map_bidOf, bidOf_agg, Nat.reduceBEq, psiNew_eq, on_l_eq, List.length_map, List.take_succ_cons, List.take_nil, Tryz.underlying1, sz1, by1, ze1, Tryz.underlying2, sz2, by2, ze2, Tryz.underlying3, sz3, by3, ze3, Tryz.underlying4, sz4, by4, ze4, Tryz.underlying6, sz6, by6, ze6, Tryz.underlying9, sz9, by9, ze9, Tryz.underlying22, sz22, by22, ze22, Tryz.underlying23, sz23, by23, ze23, Tryz.underlying25, sz25, by25, ze25, Tryz.underlying29, sz29, by29, ze29, fa29_0, fa29_1, fa29_2, fa29_3, fa29_4, Tryz.underlying31, sz31, by31, ze31, Tryz.underlying32, sz32, by32, ze32, Tryz.underlying33, sz33, by33, ze33, Tryz.underlying44, sz44, by44, ze44, Tryz.underlying45, sz45, by45, ze45, Tryz.underlying69, sz69, by69, ze69, Tryz.f3, argL, planAt, go_sem, ↓reduceIte, reduceCtorEq, Nat.reduceEqDiff, Nat.reduceLT, ↓all_qVz, ↓all_qVz', Int.reduceToNat, Int.reduceLT, Int.reduceLE, Nat.reduceAdd, Nat.reduceLeDiff, Nat.reduceMul, ev_callG, gcallK_b, gcallK_w, callGc_true, callGc_false]
  refine fun hsm => ⟨⟨he1, he2⟩, ?_⟩
  have hsm : raw.length ≤ 70 ∧ text.length ≤ 600 := by
    simp only [Bool.or_eq_false_iff, decide_eq_false_iff_not] at hsm; omega
  obtain ⟨hrl, htl⟩ := hsm
  refine AWp.here (T := planAt 5) (α := Unit) (fun _ => ([(1, .pv (.sl (raw.map bidV))), (2, .pv (.str text)), (6, .pv (.bool false)), (7, .ptr 42 0)], [(42, .obj Tp)])) (fun _ => True) ⟨(), trivial, ⟨by simp [fitR, look, upd], by simp [fitH, hget, hset], rfl, rfl, rfl⟩⟩ ?_
  intro _ _
  simp (config := {maxSteps := 1000000}) only [Ψn, Θ6, Θ5, Θ4, Θ3, Θ2, Θ1, Ψ1, newS, preT_eq, nS, preN_eq, preB_eq, preX_eq, preO_eq, okX_eq, okN, arg1, arg2, intV, strV, bidsV, map_bidOf, bidOf_agg, Nat.reduceBEq, psiNew_eq, on_l_eq, List.length_map, List.take_succ_cons, List.take_nil, Tryz.underlying1, sz1, by1, ze1, Tryz.underlying2, sz2, by2, ze2, Tryz.underlying3, sz3, by3, ze3, Tryz.underlying4, sz4, by4, ze4, Tryz.underlying6, sz6, by6, ze6, Tryz.underlying9, sz9, by9, ze9, Tryz.underlying22, sz22, by22, ze22, Tryz.underlying23, sz23, by23, ze23, Tryz.underlying25, sz25, by25, ze25, Tryz.underlying29, sz29, by29, ze29, fa29_0, fa29_1, fa29_2, fa29_3, fa29_4, Tryz.underlying31, sz31, by31, ze31, Tryz.underlying32, sz32, by32, ze32, Tryz.underlying33, sz33, by33, ze33, Tryz.underlying44, sz44, by44, ze44, Tryz.underlying45, sz45, by45, ze45, Tryz.underlying69, sz69, by69, ze69, planAt, go_sem, ↓reduceIte, reduceCtorEq, Nat.reduceEqDiff, Nat.reduceLT, ↓all_qVz, ↓all_qVz', Int.reduceToNat, Int.reduceLT, Int.reduceLE, Nat.reduceAdd, Nat.reduceLeDiff, Nat.reduceMul, ev_callG, gcallK_b, gcallK_w, callGc_true, callGc_false]
  intro own hown
  rw [Stop_eq]
  simp (config := {maxSteps := 1000000}) only [Ψn, Θ6, Θ5, Θ4, Θ3, Θ2, Θ1, Ψ1, newS, preT_eq, nS, preN_eq, preB_eq, preX_eq, preO_eq, okX_eq, okN, arg1, arg2, intV, strV, bidsV, map_bidOf, bidOf_agg, Nat.reduceBEq, psiNew_eq, on_l_eq, List.length_map, List.take_succ_cons, List.take_nil, Tryz.underlying1, sz1, by1, ze1, Tryz.underlying2, sz2, by2, ze2, Tryz.underlying3, sz3, by3, ze3, Tryz.underlying4, sz4, by4, ze4, Tryz.underlying6, sz6, by6, ze6, Tryz.underlying9, sz9, by9, ze9, Tryz.underlying22, sz22, by22, ze22, Tryz.underlying23, sz23, by23, ze23, Tryz.underlying25, sz25, by25, ze25, Tryz.underlying29, sz29, by29, ze29, fa29_0, fa29_1, fa29_2, fa29_3, fa29_4, Tryz.underlying31, sz31, by31, ze31, Tryz.underlying32, sz32, by32, ze32, Tryz.underlying33, sz33, by33, ze33, Tryz.underlying44, sz44, by44, ze44, Tryz.underlying45, sz45, by45, ze45, Tryz.underlying69, sz69, by69, ze69, planAt, go_sem, ↓reduceIte, reduceCtorEq, Nat.reduceEqDiff, Nat.reduceLT, ↓all_qVz, ↓all_qVz', Int.reduceToNat, Int.reduceLT, Int.reduceLE, Nat.reduceAdd, Nat.reduceLeDiff, Nat.reduceMul, ev_callG, gcallK_b, gcallK_w, callGc_true, callGc_false]
  have hol : own.length ≤ 8 := by have := hown.1; simp only [arg1] at this; omega
  refine AWp.here (T := planAt 6) (α := Unit) (fun _ => ([(1, .pv (.sl (raw.map bidV))), (2, .pv (.str text)), (6, .pv (.bool false)), (7, .ptr 42 0), (8, .pv (.sl (own.map bidV)))], [(42, .obj Tp)])) (fun _ => True) ⟨(), trivial, ⟨by simp [fitR, look, upd], by simp [fitH, hget, hset], rfl, rfl, rfl⟩⟩ ?_
  intro _ _
  simp (config := {maxSteps := 1000000}) only [Ψn, Θ6, Θ5, Θ4, Θ3, Θ2, Θ1, Ψ1, newS, preT_eq, nS, preN_eq, preB_eq, preX_eq, preO_eq, okX_eq, okN, arg1, arg2, intV, strV, bidsV, map_bidOf, bidOf_agg, Nat.reduceBEq, psiNew_eq, on_l_eq, List.length_map, List.take_succ_cons, List.take_nil, Tryz.underlying1, sz1, by1, ze1, Tryz.underlying2, sz2, by2, ze2, Tryz.underlying3, sz3, by3, ze3, Tryz.underlying4, sz4, by4, ze4, Tryz.underlying6, sz6, by6, ze6, Tryz.underlying9, sz9, by9, ze9, Tryz.underlying22, sz22, by22, ze22, Tryz.underlying23, sz23, by23, ze23, Tryz.underlying25, sz25, by25, ze25, Tryz.underlying29, sz29, by29, ze29, fa29_0, fa29_1, fa29_2, fa29_3, fa29_4, Tryz.underlying31, sz31, by31, ze31, Tryz.underlying32, sz32, by32, ze32, Tryz.underlying33, sz33, by33, ze33, Tryz.underlying44, sz44, by44, ze44, Tryz.underlying45, sz45, by45, ze45, Tryz.underlying69, sz69, by69, ze69, planAt, go_sem, ↓reduceIte, reduceCtorEq, Nat.reduceEqDiff, Nat.reduceLT, ↓all_qV, Int.reduceToNat, Int.reduceLT, Int.reduceLE, Nat.reduceAdd, Nat.reduceLeDiff, Nat.reduceMul, ev_callG, gcallK_b, gcallK_w, callGc_true, callGc_false]
  rintro ⟨ob, on, op, oa, of⟩ _
  refine ⟨rfl, rfl, ?_⟩
  have hwo : ∀ e, e ∈ own.map bidV → e.cells.length = 5 := fun e he => by obtain ⟨z, _, rfl⟩ := List.mem_map.1 he; rfl
  have hw1 : ∀ e, e ∈ [PV.agg [.int .i64 ob, .int .i64 on, .int .i64 op, .int .i64 oa, .bool of]] → e.cells.length = 5 := fun e he => by rw [List.mem_singleton] at he; subst he; rfl
  have tk0 : (own.map bidV).take own.length = own.map bidV := List.take_of_length_le (by simp)
  refine AWp.perm (T := planAt 0) [2, 4, 5, 3, 6, 0, 1, 8, 7] (by kernel_rfl) rfl ?_
  simp (config := {maxSteps := 1000000}) only [opsOf, List.filterMap_cons, List.filterMap_nil, List.getElem?_toArray, List.getElem?_cons_succ, List.getElem?_cons_zero, tk0, bidV, List.map_cons, List.map_nil, Ψn, Θ6, Θ5, Θ4, Θ3, Θ2, Θ1, Ψ1, newS, preT_eq, nS, preN_eq, preB_eq, preX_eq, preO_eq, okX_eq, okN, arg1, arg2, intV, strV, bidsV, map_bidOf, bidOf_agg, Nat.reduceBEq, psiNew_eq, on_l_eq, List.length_map, List.take_succ_cons, List.take_nil, Tryz.underlying1, sz1, by1, ze1, Tryz.underlying2, sz2, by2, ze2, Tryz.underlying3, sz3, by3, ze3, Tryz.underlying4, sz4, by4, ze4, Tryz.underlying6, sz6, by6, ze6, Tryz.underlying9, sz9, by9, ze9, Tryz.underlying22, sz22, by22, ze22, Tryz.underlying23, sz23, by23, ze23, Tryz.underlying25, sz25, by25, ze25, Tryz.underlying29, sz29, by29, ze29, fa29_0, fa29_1, fa29_2, fa29_3, fa29_4, Tryz.underlying31, sz31, by31, ze31, Tryz.underlying32, sz32, by32, ze32, Tryz.underlying33, sz33, by33, ze33, Tryz.underlying44, sz44, by44, ze44, Tryz.underlying45, sz45, by45, ze45, Tryz.underlying69, sz69, by69, ze69, planAt, go_sem, ↓reduceIte, reduceCtorEq, Nat.reduceEqDiff, Nat.reduceLT, ↓all_qV, Int.reduceToNat, Int.reduceLT, Int.reduceLE, Nat.reduceAdd, Nat.reduceLeDiff, Nat.reduceMul, ev_callG, gcallK_b, gcallK_w, callGc_true, callGc_false]
  refine ⟨okBid, rfl, hwo, by omega, by simp only [maxLen]; omega, rfl, hw1, Nat.le_refl _, by omega, by simp only [maxLen]; omega, ?_⟩
  obtain ⟨E3, hE3⟩ : ∃ E3, own.map bidV ++ [PV.agg [.int .i64 ob, .int .i64 on, .int .i64 op, .int .i64 oa, .bool of]] = E3 := ⟨_, rfl⟩
  have hE3l : E3.length = own.length + 1 := by rw [← hE3]; simp
  have hE3m : E3 = (own ++ [(⟨ob, on, op, oa, of⟩ : Bid)]).map bidV := by rw [← hE3]; simp [bidV]
  rw [hE3]
  refine AWp.freezeA (T := planAt 0) 50 5 (α := Unit) (fun _ => E3) (fun _ => ([(2, .pv (.str text)), (6, .pv (.bool false)), (7, .ptr 42 0), (9, .ptr 9 0), (54, .pv (.agg [.sl (own.map bidV), .sl (raw.map bidV), .sl (E3.take (own.length + 1))])), (55, .pv (.int .i64 0))],
    [(9, .cells [.pv (.int .i64 ob), .pv (.int .i64 on), .pv (.int .i64 op), .pv (.int .i64 oa), .pv (.bool of)]), (42, .obj Tp)])) (fun _ => True)
    ⟨(), trivial, ⟨by simp [hget], rfl, ⟨.inl (by simp [look]), .inl (by simp [look]), .inl (by simp [look]), .inl (by simp [look]), .inr (.inr ⟨[.pv (.sl (own.map bidV)), .pv (.sl (raw.map bidV)), .rs 50 (own.length + 1)], _, by simp [look], ⟨by simp [frzC, pvL, hE3l], fun p hp => by simp only [List.mem_cons, List.not_mem_nil, or_false] at hp; rcases hp with rfl | rfl | rfl <;> rfl⟩, rfl⟩), .inl (by simp [look]), trivial⟩, by simp [fitHF, hget, frzC], rfl, rfl, rfl⟩⟩ ?_
  intro _ _
  have htk3 : E3.take (own.length + 1) = E3 := List.take_of_length_le (by omega)
  rw [htk3]
  have hx : ∀ k : Nat, k < 3 → ∃ x : List Bid, (([.sl (own.map bidV), .sl (raw.map bidV), .sl E3] : List PV).getD k default) = .sl (x.map bidV) ∧ x.length ≤ 100 := fun k hk => by
    have : k = 0 ∨ k = 1 ∨ k = 2 := by omega
    rcases this with rfl | rfl | rfl
    · exact ⟨own, rfl, by omega⟩
    · exact ⟨raw, rfl, by omega⟩
    · exact ⟨own ++ [⟨ob, on, op, oa, of⟩], by rw [hE3m]; rfl, by simp; omega⟩
  have hxl : ([.sl (own.map bidV), .sl (raw.map bidV), .sl E3] : List PV).length = 3 := rfl
  generalize ([.sl (own.map bidV), .sl (raw.map bidV), .sl E3] : List PV) = A at hx hxl ⊢
  simp (config := {maxSteps := 1000000}) only [Ψn, Θ6, Θ5, Θ4, Θ3, Θ2, Θ1, Ψ1, newS, preT_eq, nS, preN_eq, preB_eq, preX_eq, preO_eq, okX_eq, okN, arg1, arg2, intV, strV, bidsV, map_bidOf, bidOf_agg, Nat.reduceBEq, psiNew_eq, on_l_eq, List.length_map, List.take_succ_cons, List.take_nil, Tryz.underlying1, sz1, by1, ze1, Tryz.underlying2, sz2, by2, ze2, Tryz.underlying3, sz3, by3, ze3, Tryz.underlying4, sz4, by4, ze4, Tryz.underlying6, sz6, by6, ze6, Tryz.underlying9, sz9, by9, ze9, Tryz.underlying22, sz22, by22, ze22, Tryz.underlying23, sz23, by23, ze23, Tryz.underlying25, sz25, by25, ze25, Tryz.underlying29, sz29, by29, ze29, fa29_0, fa29_1, fa29_2, fa29_3, fa29_4, Tryz.underlying31, sz31, by31, ze31, Tryz.underlying32, sz32, by32, ze32, Tryz.underlying33, sz33, by33, ze33, Tryz.underlying44, sz44, by44, ze44, Tryz.underlying45, sz45, by45, ze45, Tryz.underlying69, sz69, by69, ze69, planAt, go_sem, ↓reduceIte, reduceCtorEq, Nat.reduceEqDiff, Nat.reduceLT, ↓all_qV, Int.reduceToNat, Int.reduceLT, Int.reduceLE, Nat.reduceAdd, Nat.reduceLeDiff, Nat.reduceMul, ev_callG, gcallK_b, gcallK_w, callGc_true, callGc_false]
  refine AWp.loop (T := planAt 0) (α := Nat) (fun k => ([(2, .pv (.str text)), (6, .pv (.bool false)), (7, .ptr 42 0), (9, .ptr 9 0), (54, .pv (.agg A)), (55, .pv (.int .i64 k))],
    [(9, .cells [.pv (.int .i64 ob), .pv (.int .i64 on), .pv (.int .i64 op), .pv (.int .i64 oa), .pv (.bool of)]), (42, .obj Tp)])) (fun k => k ≤ 3) (fun k => 3 - k)
    ⟨0, Nat.zero_le _, ⟨by simp [fitR, look], by simp [fitH, hget], rfl, rfl, rfl⟩⟩ ?_
  intro k hk
  have hi1 : IntKind.i64.wrap ((k : Int) + 1) = ((k + 1 : Nat) : Int) := by rw [i64_in _ (by omega)]; omega
  by_cases hlt : k < 3
  · have c0 : decide ((k : Int) < 3) = true := by simp; omega
    obtain ⟨x, e1, hxn⟩ := hx k hlt
    obtain ⟨S, E, hfm, hS⟩ := fmt_any x
    simp (config := {maxSteps := 1000000}) only [c0, e1, hi1, hxl, hfm, indexA, Int.toNat_natCast, Nat.mul_one, bne_self_eq_false, Bool.or_false, Bool.false_or, decide_true, Bool.not_true, k_exL_4, saneS, on__eq, k_exL_8, formatS, on_l_eq, k_exL_9, rfmtS, k_exL_10, checkS, k_exL_11, rchkS, k_exL_12, sameG, on_ll_eq, k_exL_13, sortVS, k_exL_14, rsortS, k_exL_15, totalS, on_lb_eq, k_exL_16, rtotS, k_exL_17, LineS, on_p_eq, k_exL_18, rLineS, k_exL_19, validS, k_exL_20, rvalS, k_exL_21, beforeS, on_pp_eq, k_exL_22, rbefS, k_exL_25, parseS, on_s_eq, k_exL_26, rparseS, Ψn, Θ6, Θ5, Θ4, Θ3, Θ2, Θ1, Ψ1, newS, preT_eq, nS, preN_eq, preB_eq, preX_eq, preO_eq, okX_eq, okN, arg1, arg2, intV, strV, bidsV, map_bidOf, bidOf_agg, Nat.reduceBEq, psiNew_eq, on_l_eq, List.length_map, List.take_succ_cons, List.take_nil, Tryz.underlying1, sz1, by1, ze1, Tryz.underlying2, sz2, by2, ze2, Tryz.underlying3, sz3, by3, ze3, Tryz.underlying4, sz4, by4, ze4, Tryz.underlying6, sz6, by6, ze6, Tryz.underlying9, sz9, by9, ze9, Tryz.underlying22, sz22, by22, ze22, Tryz.underlying23, sz23, by23, ze23, Tryz.underlying25, sz25, by25, ze25, Tryz.underlying29, sz29, by29, ze29, fa29_0, fa29_1, fa29_2, fa29_3, fa29_4, Tryz.underlying31, sz31, by31, ze31, Tryz.underlying32, sz32, by32, ze32, Tryz.underlying33, sz33, by33, ze33, Tryz.underlying44, sz44, by44, ze44, Tryz.underlying45, sz45, by45, ze45, Tryz.underlying69, sz69, by69, ze69, planAt, go_sem, ↓reduceIte, reduceCtorEq, Nat.reduceEqDiff, Nat.reduceLT, ↓all_qV, Int.reduceToNat, Int.reduceLT, Int.reduceLE, Nat.reduceAdd, Nat.reduceLeDiff, Nat.reduceMul, ev_callG, gcallK_b, gcallK_w, callGc_true, callGc_false]
    have px : (∃ l, x.map bidV = List.map bidV l) := ⟨x, rfl⟩
    refine ⟨⟨by omega, by omega, by omega⟩, ⟨px, by omega⟩, ⟨px, by omega⟩, ⟨px, by omega⟩, ⟨px, by omega⟩, ⟨px, by omega⟩, ⟨px, by omega⟩, ⟨⟨_, rfl⟩, ⟨_, rfl⟩, by rw [srtL_length]; omega⟩, ⟨px, by omega⟩, ⟨px, by omega⟩, ⟨px, by omega⟩, ⟨px, by omega⟩, ?_⟩
    refine AWp.loop (T := planAt 0) (α := Nat) (fun j => ([(2, .pv (.str text)), (6, .pv (.bool false)), (7, .ptr 42 0), (9, .ptr 9 0), (14, .pv (.str S)), (54, .pv (.agg A)), (55, .pv (.int .i64 k)), (105, .pv (.sl (x.map bidV))), (106, .pv (.int .i64 x.length)), (107, .pv (.int .i64 j))],
      [(9, .cells [.pv (.int .i64 ob), .pv (.int .i64 on), .pv (.int .i64 op), .pv (.int .i64 oa), .pv (.bool of)]), (42, .obj Tp)])) (fun j => j ≤ x.length) (fun j => x.length - j)
      ⟨0, Nat.zero_le _, ⟨by simp [fitR, look], by simp [fitH, hget], rfl, rfl, rfl⟩⟩ ?_
    intro j hj
    have hj1 : IntKind.i64.wrap ((j : Int) + 1) = ((j + 1 : Nat) : Int) := by rw [i64_in _ (by omega)]; omega
    by_cases hjt : j < x.length
    · have c1 : decide ((j : Int) < (x.length : Int)) = true := by simp; omega
      have e2 := getD_bid hjt
      generalize x.getD j default = y at e2
      obtain ⟨L1, L2, hln⟩ := line_any y
      obtain ⟨b, n, p, a, f⟩ := y
      simp only [bidV] at e2
      have hb1 : befB ⟨b, n, p, a, f⟩ ⟨ob, on, op, oa, of⟩ = decide (cmpB ⟨b, n, p, a, f⟩ ⟨ob, on, op, oa, of⟩ < 0) := befB_lt _ _
      have hb2 : befB ⟨ob, on, op, oa, of⟩ ⟨b, n, p, a, f⟩ = decide (cmpB ⟨ob, on, op, oa, of⟩ ⟨b, n, p, a, f⟩ < 0) := befB_lt _ _
      have q1 : (cmpB ⟨b, n, p, a, f⟩ ⟨ob, on, op, oa, of⟩ < 0) = True ∨ (cmpB ⟨b, n, p, a, f⟩ ⟨ob, on, op, oa, of⟩ < 0) = False := by
        by_cases h : cmpB ⟨b, n, p, a, f⟩ ⟨ob, on, op, oa, of⟩ < 0
        · exact .inl (eq_true h)
        · exact .inr (eq_false h)
      have q2 : (cmpB ⟨ob, on, op, oa, of⟩ ⟨b, n, p, a, f⟩ < 0) = True ∨ (cmpB ⟨ob, on, op, oa, of⟩ ⟨b, n, p, a, f⟩ < 0) = False := by
        by_cases h : cmpB ⟨ob, on, op, oa, of⟩ ⟨b, n, p, a, f⟩ < 0
        · exact .inl (eq_true h)
        · exact .inr (eq_false h)
      rcases q1 with q1 | q1 <;> rcases q2 with q2 | q2
      all_goals
        simp (config := {maxSteps := 1000000}) only [c1, e2, hj1, hln, hb1, hb2, q1, q2, decide_true, decide_false, bne_self_eq_false, beq_self_eq_true, Bool.or_false, Bool.false_or, Bool.not_true, true_implies, forall_const, k_exL_4, saneS, on__eq, k_exL_8, formatS, on_l_eq, k_exL_9, rfmtS, k_exL_10, checkS, k_exL_11, rchkS, k_exL_12, sameG, on_ll_eq, k_exL_13, sortVS, k_exL_14, rsortS, k_exL_15, totalS, on_lb_eq, k_exL_16, rtotS, k_exL_17, LineS, on_p_eq, k_exL_18, rLineS, k_exL_19, validS, k_exL_20, rvalS, k_exL_21, beforeS, on_pp_eq, k_exL_22, rbefS, k_exL_25, parseS, on_s_eq, k_exL_26, rparseS, Ψn, Θ6, Θ5, Θ4, Θ3, Θ2, Θ1, Ψ1, newS, preT_eq, nS, preN_eq, preB_eq, preX_eq, preO_eq, okX_eq, okN, arg1, arg2, intV, strV, bidsV, map_bidOf, bidOf_agg, Nat.reduceBEq, psiNew_eq, on_l_eq, List.length_map, List.take_succ_cons, List.take_nil, Tryz.underlying1, sz1, by1, ze1, Tryz.underlying2, sz2, by2, ze2, Tryz.underlying3, sz3, by3, ze3, Tryz.underlying4, sz4, by4, ze4, Tryz.underlying6, sz6, by6, ze6, Tryz.underlying9, sz9, by9, ze9, Tryz.underlying22, sz22, by22, ze22, Tryz.underlying23, sz23, by23, ze23, Tryz.underlying25, sz25, by25, ze25, Tryz.underlying29, sz29, by29, ze29, fa29_0, fa29_1, fa29_2, fa29_3, fa29_4, Tryz.underlying31, sz31, by31, ze31, Tryz.underlying32, sz32, by32, ze32, Tryz.underlying33, sz33, by33, ze33, Tryz.underlying44, sz44, by44, ze44, Tryz.underlying45, sz45, by45, ze45, Tryz.underlying69, sz69, by69, ze69, planAt, go_sem, ↓reduceIte, reduceCtorEq, Nat.reduceEqDiff, Nat.reduceLT, ↓all_qV, Int.reduceToNat, Int.reduceLT, Int.reduceLE, Nat.reduceAdd, Nat.reduceLeDiff, Nat.reduceMul, ev_callG, gcallK_b, gcallK_w, callGc_true, callGc_false]
        and_intros
        all_goals try first | (show checkD _ _ _ = true; kernel_rfl) | omega | exact okBid | exact isBid_agg | rfl | exact fun _ => ⟨⟨okBid, okBid⟩, isBid_agg, isBid_agg⟩
        exact ⟨j + 1, by omega, by omega, ⟨by simp [fitR, look], by simp [fitH, hget], rfl, rfl, rfl⟩⟩
    · have c1 : decide ((j : Int) < (x.length : Int)) = false := by simp; omega
      simp (config := {maxSteps := 1000000}) only [c1, k_exL_4, saneS, on__eq, k_exL_8, formatS, on_l_eq, k_exL_9, rfmtS, k_exL_10, checkS, k_exL_11, rchkS, k_exL_12, sameG, on_ll_eq, k_exL_13, sortVS, k_exL_14, rsortS, k_exL_15, totalS, on_lb_eq, k_exL_16, rtotS, k_exL_17, LineS, on_p_eq, k_exL_18, rLineS, k_exL_19, validS, k_exL_20, rvalS, k_exL_21, beforeS, on_pp_eq, k_exL_22, rbefS, k_exL_25, parseS, on_s_eq, k_exL_26, rparseS, Ψn, Θ6, Θ5, Θ4, Θ3, Θ2, Θ1, Ψ1, newS, preT_eq, nS, preN_eq, preB_eq, preX_eq, preO_eq, okX_eq, okN, arg1, arg2, intV, strV, bidsV, map_bidOf, bidOf_agg, Nat.reduceBEq, psiNew_eq, on_l_eq, List.length_map, List.take_succ_cons, List.take_nil, Tryz.underlying1, sz1, by1, ze1, Tryz.underlying2, sz2, by2, ze2, Tryz.underlying3, sz3, by3, ze3, Tryz.underlying4, sz4, by4, ze4, Tryz.underlying6, sz6, by6, ze6, Tryz.underlying9, sz9, by9, ze9, Tryz.underlying22, sz22, by22, ze22, Tryz.underlying23, sz23, by23, ze23, Tryz.underlying25, sz25, by25, ze25, Tryz.underlying29, sz29, by29, ze29, fa29_0, fa29_1, fa29_2, fa29_3, fa29_4, Tryz.underlying31, sz31, by31, ze31, Tryz.underlying32, sz32, by32, ze32, Tryz.underlying33, sz33, by33, ze33, Tryz.underlying44, sz44, by44, ze44, Tryz.underlying45, sz45, by45, ze45, Tryz.underlying69, sz69, by69, ze69, planAt, go_sem, ↓reduceIte, reduceCtorEq, Nat.reduceEqDiff, Nat.reduceLT, ↓all_qV, Int.reduceToNat, Int.reduceLT, Int.reduceLE, Nat.reduceAdd, Nat.reduceLeDiff, Nat.reduceMul, ev_callG, gcallK_b, gcallK_w, callGc_true, callGc_false]
      refine AWp.join4 (T := planAt 0) (α := List UInt8) (fun bt => ([(2, .pv (.str text)), (6, .pv (.bool false)), (7, .ptr 42 0), (9, .ptr 9 0), (54, .pv (.agg A)), (55, .pv (.int .i64 k)), (181, .pv (.agg [.str S, .str bt, .str text, .str (S ++ S)])), (182, .pv (.int .i64 0))],
        [(9, .cells [.pv (.int .i64 ob), .pv (.int .i64 on), .pv (.int .i64 op), .pv (.int .i64 oa), .pv (.bool of)]), (42, .obj Tp)])) (fun bt => bt.length ≤ 20000) (fun h9 H => ?_) (fun h9 => ⟨by omega, S, by omega, ⟨by simp [fitR, look], by simp [fitH, hget], rfl, rfl, rfl⟩⟩) (fun bt hbt => ?_)
      · have h9 := of_decide_eq_true h9
        refine ⟨⟨by omega, by omega⟩, fun n hn => ⟨by kernel_rfl, ⟨by omega, by omega⟩, fun e he => ?_, fun t ht => ?_⟩⟩
        · simp only [List.mem_cons, List.not_mem_nil, or_false] at he
          rcases he with rfl | rfl | rfl | rfl | rfl | rfl <;> exact ⟨_, rfl⟩
        · have htl4 : t.length ≤ 4 := by
            simp only [List.mem_cons, List.not_mem_nil, or_false, PV.str.injEq] at ht
            rcases ht with rfl | rfl | rfl | rfl | rfl | rfl <;> simp
          have w1 : IntKind.i64.wrap (n + 1) = n + 1 := i64_in _ (by omega)
          rw [w1]
          have l1 : (S.take n.toNat).length ≤ S.length := by rw [List.length_take]; omega
          have l2 : ((S.take S.length).drop (n + 1).toNat).length ≤ S.length := by rw [List.length_drop, List.take_length]; omega
          refine ⟨by omega, ⟨by omega, by omega⟩, by rw [List.length_append]; omega, by omega, ?_⟩
          exact H (S.take n.toNat ++ t ++ (S.take S.length).drop (n + 1).toNat) _ (by rw [List.length_append, List.length_append]; omega) ⟨by simp [fitR, look], by simp [fitH, hget], rfl, rfl, rfl⟩
      · have hy : ∀ m : Nat, m < 4 → ∃ y : List UInt8, (([.str S, .str bt, .str text, .str (S ++ S)] : List PV).getD m default) = .str y ∧ y.length ≤ 20000 := fun m hm => by
          have : m = 0 ∨ m = 1 ∨ m = 2 ∨ m = 3 := by omega
          rcases this with rfl | rfl | rfl | rfl
          · exact ⟨S, rfl, by omega⟩
          · exact ⟨bt, rfl, hbt⟩
          · exact ⟨text, rfl, by omega⟩
          · exact ⟨S ++ S, rfl, by rw [List.length_append]; omega⟩
        have hyl : ([.str S, .str bt, .str text, .str (S ++ S)] : List PV).length = 4 := rfl
        generalize ([.str S, .str bt, .str text, .str (S ++ S)] : List PV) = B at hy hyl ⊢
        simp (config := {maxSteps := 1000000}) only [Ψn, Θ6, Θ5, Θ4, Θ3, Θ2, Θ1, Ψ1, newS, preT_eq, nS, preN_eq, preB_eq, preX_eq, preO_eq, okX_eq, okN, arg1, arg2, intV, strV, bidsV, map_bidOf, bidOf_agg, Nat.reduceBEq, psiNew_eq, on_l_eq, List.length_map, List.take_succ_cons, List.take_nil, Tryz.underlying1, sz1, by1, ze1, Tryz.underlying2, sz2, by2, ze2, Tryz.underlying3, sz3, by3, ze3, Tryz.underlying4, sz4, by4, ze4, Tryz.underlying6, sz6, by6, ze6, Tryz.underlying9, sz9, by9, ze9, Tryz.underlying22, sz22, by22, ze22, Tryz.underlying23, sz23, by23, ze23, Tryz.underlying25, sz25, by25, ze25, Tryz.underlying29, sz29, by29, ze29, fa29_0, fa29_1, fa29_2, fa29_3, fa29_4, Tryz.underlying31, sz31, by31, ze31, Tryz.underlying32, sz32, by32, ze32, Tryz.underlying33, sz33, by33, ze33, Tryz.underlying44, sz44, by44, ze44, Tryz.underlying45, sz45, by45, ze45, Tryz.underlying69, sz69, by69, ze69, planAt, go_sem, ↓reduceIte, reduceCtorEq, Nat.reduceEqDiff, Nat.reduceLT, ↓all_qV, Int.reduceToNat, Int.reduceLT, Int.reduceLE, Nat.reduceAdd, Nat.reduceLeDiff, Nat.reduceMul, ev_callG, gcallK_b, gcallK_w, callGc_true, callGc_false]
        refine AWp.loop (T := planAt 0) (α := Nat) (fun m => ([(2, .pv (.str text)), (6, .pv (.bool false)), (7, .ptr 42 0), (9, .ptr 9 0), (54, .pv (.agg A)), (55, .pv (.int .i64 k)), (181, .pv (.agg B)), (182, .pv (.int .i64 m))],
          [(9, .cells [.pv (.int .i64 ob), .pv (.int .i64 on), .pv (.int .i64 op), .pv (.int .i64 oa), .pv (.bool of)]), (42, .obj Tp)])) (fun m => m ≤ 4) (fun m => 4 - m)
          ⟨0, Nat.zero_le _, ⟨by simp [fitR, look], by simp [fitH, hget], rfl, rfl, rfl⟩⟩ ?_
        intro m hm
        have hm1 : IntKind.i64.wrap ((m : Int) + 1) = ((m + 1 : Nat) : Int) := by rw [i64_in _ (by omega)]; omega
        by_cases hmt : m < 4
        · have c2 : decide ((m : Int) < 4) = true := by simp; omega
          obtain ⟨y, e3, hyn⟩ := hy m hmt
          have hpl := prs_len y
          simp (config := {maxSteps := 1000000}) only [c2, e3, hm1, hyl, indexA, Int.toNat_natCast, Nat.mul_one, bne_self_eq_false, beq_self_eq_true, decide_true, Bool.not_true, Bool.or_false, Bool.false_or, true_implies, forall_const, k_exL_4, saneS, on__eq, k_exL_8, formatS, on_l_eq, k_exL_9, rfmtS, k_exL_10, checkS, k_exL_11, rchkS, k_exL_12, sameG, on_ll_eq, k_exL_13, sortVS, k_exL_14, rsortS, k_exL_15, totalS, on_lb_eq, k_exL_16, rtotS, k_exL_17, LineS, on_p_eq, k_exL_18, rLineS, k_exL_19, validS, k_exL_20, rvalS, k_exL_21, beforeS, on_pp_eq, k_exL_22, rbefS, k_exL_25, parseS, on_s_eq, k_exL_26, rparseS, Ψn, Θ6, Θ5, Θ4, Θ3, Θ2, Θ1, Ψ1, newS, preT_eq, nS, preN_eq, preB_eq, preX_eq, preO_eq, okX_eq, okN, arg1, arg2, intV, strV, bidsV, map_bidOf, bidOf_agg, Nat.reduceBEq, psiNew_eq, on_l_eq, List.length_map, List.take_succ_cons, List.take_nil, Tryz.underlying1, sz1, by1, ze1, Tryz.underlying2, sz2, by2, ze2, Tryz.underlying3, sz3, by3, ze3, Tryz.underlying4, sz4, by4, ze4, Tryz.underlying6, sz6, by6, ze6, Tryz.underlying9, sz9, by9, ze9, Tryz.underlying22, sz22, by22, ze22, Tryz.underlying23, sz23, by23, ze23, Tryz.underlying25, sz25, by25, ze25, Tryz.underlying29, sz29, by29, ze29, fa29_0, fa29_1, fa29_2, fa29_3, fa29_4, Tryz.underlying31, sz31, by31, ze31, Tryz.underlying32, sz32, by32, ze32, Tryz.underlying33, sz33, by33, ze33, Tryz.underlying44, sz44, by44, ze44, Tryz.underlying45, sz45, by45, ze45, Tryz.underlying69, sz69, by69, ze69, planAt, go_sem, ↓reduceIte, reduceCtorEq, Nat.reduceEqDiff, Nat.reduceLT, ↓all_qV, Int.reduceToNat, Int.reduceLT, Int.reduceLE, Nat.reduceAdd, Nat.reduceLeDiff, Nat.reduceMul, ev_callG, gcallK_b, gcallK_w, callGc_true, callGc_false]
          exact ⟨⟨by omega, by omega, by omega⟩, by omega, by omega, ⟨⟨_, rfl⟩, ⟨_, rfl⟩, by omega⟩, m + 1, by omega, by omega, ⟨by simp [fitR, look], by simp [fitH, hget], rfl, rfl, rfl⟩⟩
        · have c2 : decide ((m : Int) < 4) = false := by simp; omega
          simp (config := {maxSteps := 1000000}) only [c2, hi1, k_exL_4, saneS, on__eq, k_exL_8, formatS, on_l_eq, k_exL_9, rfmtS, k_exL_10, checkS, k_exL_11, rchkS, k_exL_12, sameG, on_ll_eq, k_exL_13, sortVS, k_exL_14, rsortS, k_exL_15, totalS, on_lb_eq, k_exL_16, rtotS, k_exL_17, LineS, on_p_eq, k_exL_18, rLineS, k_exL_19, validS, k_exL_20, rvalS, k_exL_21, beforeS, on_pp_eq, k_exL_22, rbefS, k_exL_25, parseS, on_s_eq, k_exL_26, rparseS, Ψn, Θ6, Θ5, Θ4, Θ3, Θ2, Θ1, Ψ1, newS, preT_eq, nS, preN_eq, preB_eq, preX_eq, preO_eq, okX_eq, okN, arg1, arg2, intV, strV, bidsV, map_bidOf, bidOf_agg, Nat.reduceBEq, psiNew_eq, on_l_eq, List.length_map, List.take_succ_cons, List.take_nil, Tryz.underlying1, sz1, by1, ze1, Tryz.underlying2, sz2, by2, ze2, Tryz.underlying3, sz3, by3, ze3, Tryz.underlying4, sz4, by4, ze4, Tryz.underlying6, sz6, by6, ze6, Tryz.underlying9, sz9, by9, ze9, Tryz.underlying22, sz22, by22, ze22, Tryz.underlying23, sz23, by23, ze23, Tryz.underlying25, sz25, by25, ze25, Tryz.underlying29, sz29, by29, ze29, fa29_0, fa29_1, fa29_2, fa29_3, fa29_4, Tryz.underlying31, sz31, by31, ze31, Tryz.underlying32, sz32, by32, ze32, Tryz.underlying33, sz33, by33, ze33, Tryz.underlying44, sz44, by44, ze44, Tryz.underlying45, sz45, by45, ze45, Tryz.underlying69, sz69, by69, ze69, planAt, go_sem, ↓reduceIte, reduceCtorEq, Nat.reduceEqDiff, Nat.reduceLT, ↓all_qV, Int.reduceToNat, Int.reduceLT, Int.reduceLE, Nat.reduceAdd, Nat.reduceLeDiff, Nat.reduceMul, ev_callG, gcallK_b, gcallK_w, callGc_true, callGc_false]
          exact ⟨k + 1, by omega, by omega, ⟨by simp [fitR, look], by simp [fitH, hget], rfl, rfl, rfl⟩⟩
  · have c0 : decide ((k : Int) < 3) = false := by simp; omega
    simp (config := {maxSteps := 1000000}) only [c0, k_exL_4, saneS, on__eq, k_exL_8, formatS, on_l_eq, k_exL_9, rfmtS, k_exL_10, checkS, k_exL_11, rchkS, k_exL_12, sameG, on_ll_eq, k_exL_13, sortVS, k_exL_14, rsortS, k_exL_15, totalS, on_lb_eq, k_exL_16, rtotS, k_exL_17, LineS, on_p_eq, k_exL_18, rLineS, k_exL_19, validS, k_exL_20, rvalS, k_exL_21, beforeS, on_pp_eq, k_exL_22, rbefS, k_exL_25, parseS, on_s_eq, k_exL_26, rparseS, Ψn, Θ6, Θ5, Θ4, Θ3, Θ2, Θ1, Ψ1, newS, preT_eq, nS, preN_eq, preB_eq, preX_eq, preO_eq, okX_eq, okN, arg1, arg2, intV, strV, bidsV, map_bidOf, bidOf_agg, Nat.reduceBEq, psiNew_eq, on_l_eq, List.length_map, List.take_succ_cons, List.take_nil, Tryz.underlying1, sz1, by1, ze1, Tryz.underlying2, sz2, by2, ze2, Tryz.underlying3, sz3, by3, ze3, Tryz.underlying4, sz4, by4, ze4, Tryz.underlying6, sz6, by6, ze6, Tryz.underlying9, sz9, by9, ze9, Tryz.underlying22, sz22, by22, ze22, Tryz.underlying23, sz23, by23, ze23, Tryz.underlying25, sz25, by25, ze25, Tryz.underlying29, sz29, by29, ze29, fa29_0, fa29_1, fa29_2, fa29_3, fa29_4, Tryz.underlying31, sz31, by31, ze31, Tryz.underlying32, sz32, by32, ze32, Tryz.underlying33, sz33, by33, ze33, Tryz.underlying44, sz44, by44, ze44, Tryz.underlying45, sz45, by45, ze45, Tryz.underlying69, sz69, by69, ze69, planAt, go_sem, ↓reduceIte, reduceCtorEq, Nat.reduceEqDiff, Nat.reduceLT, ↓all_qV, Int.reduceToNat, Int.reduceLT, Int.reduceLE, Nat.reduceAdd, Nat.reduceLeDiff, Nat.reduceMul, ev_callG, gcallK_b, gcallK_w, callGc_true, callGc_false]
end Go.AM
