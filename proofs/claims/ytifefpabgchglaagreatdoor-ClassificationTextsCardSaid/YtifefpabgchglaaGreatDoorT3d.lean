/-
  A part of a proof: see the last text of this claim for what is proved.
-/
import Derived.Test.YtifefpabgchglaaGreatDoorTB
import Derived.Test.YtifefpabgchglaaGreatDoorZMa
/-! ClassificationTexts -/
namespace Go.AM
open Go Go.Proofs Go.IntWalk
set_option maxRecDepth 100000
set_option maxHeartbeats 4000000
set_option linter.unusedSimpArgs false
set_option linter.unusedVariables false
theorem Td_valid {args : List PV} : Td 16 args = validCS args := rfl
theorem Td_text {args : List PV} : Td 14 args = textS args := rfl
theorem Td_parse {args : List PV} : Td 13 args = parseCS args := rfl
theorem Td_same {args : List PV} : Td 15 args = sameHS args := rfl
theorem Td_ch {args : List PV} : Td 17 args = chS args := rfl
theorem Td_awake {args : List PV} : Td 12 args = awake3S args := rfl
theorem preT_eq {es : List PV} : preT [.sl es] = (es.length ≤ 9223372036854775807 ∧ ∀ e, e ∈ es → isI e) := propext ⟨fun ⟨es', e, h⟩ => by simp only [List.cons.injEq, PV.sl.injEq, and_true] at e; subst e; exact h, fun h => ⟨es, rfl, h⟩⟩
theorem preTr_eq {n : Int} : preTr [.int .i64 n] = (0 ≤ n ∧ n ≤ 50) := propext ⟨fun ⟨m, e, h⟩ => by simp only [List.cons.injEq, PV.int.injEq, and_true, true_and] at e; subst e; exact h, fun h => ⟨n, rfl, h⟩⟩
def planA : Plan := { keep := fun _ => none, cut := fun _ => false, stop := fun i => i == 2 }
def planG : Plan := { keep := fun _ => none, cut := fun _ => false, stop := fun i => i == 7 }
theorem nameP.isHs {l : List PV} (hn : nameP l) : ∀ e, e ∈ l → isHs e := fun e he => by
  obtain ⟨c, n, rfl, hc, h5⟩ := hn e he
  have := (nm5_ok n h5).2.1
  exact ⟨c, n, rfl, by omega, by omega⟩
noncomputable def textsLS : PSpec := on_l (fun es => es.length ≤ 9223372036854775807 ∧ ∀ e, e ∈ es → isI e) (fun _ => .bool true)
theorem w_textsLS : PSound GG 4 textsLS := by
  refine PSound.of_wpc (C := cxQ Tryz.prog Td Θ5 Ψ1 [51] [] 77) (T := planA) Tryz.func4 rfl rfl rfl (Fit.all (G := GG) hTd hΘ5 hΨ1 mixed) (fun args h => ?_)
  unfold textsLS at h
  obtain ⟨es0, rfl, he1, he2⟩ := on_l_inv h
  refine ⟨by simp [cxQ], ?_⟩
  simp (config := {maxSteps := 1000000}) only [textsLS, on_l_eq, Θ5, Θ4, Θ3, Θ2, Θ1, Ψ1, newS, preN_eq, okN, arg1, preT_eq, preTr_eq, Td_valid, Td_text, Td_parse, Td_same, Td_ch, Td_awake, validCS, textS, parseCS, sameHS, chS, awake3S, on_s_eq, on_l_eq, on_ll_eq, on_ls_eq, on__eq, slV, psiNew_eq, List.length_map, List.take_succ_cons, List.take_nil, Tryz.underlying1, sz1, by1, ze1, Tryz.underlying2, sz2, by2, ze2, Tryz.underlying3, sz3, by3, ze3, Tryz.underlying4, sz4, by4, ze4, Tryz.underlying9, sz9, by9, ze9, Tryz.underlying22, sz22, by22, ze22, Tryz.underlying23, sz23, by23, ze23, Tryz.underlying25, sz25, by25, ze25, Tryz.underlying28, sz28, by28, ze28, fa28_0, fa28_1, Tryz.underlying36, sz36, by36, ze36, Tryz.underlying37, sz37, by37, ze37, Tryz.underlying42, sz42, by42, ze42, Tryz.f4, argL, planA, go_sem, ↓reduceIte, reduceCtorEq, Nat.reduceEqDiff, Nat.reduceLT, ↓all_qVz, ↓all_qVz', Int.reduceToNat, Int.reduceLT, Int.reduceLE, Nat.reduceAdd, Nat.reduceLeDiff, Nat.reduceMul, ev_callG, gcallK_b, gcallK_w, callGc_true, callGc_false]
  refine ⟨⟨he1, he2⟩, ?_⟩
  refine AWp.here (T := planG) (α := Unit) (fun _ => ([(2, .pv (.bool false)), (3, .ptr 12 0)], [(12, .obj Tp)])) (fun _ => True) ⟨(), trivial, ⟨by simp [fitR, look], by simp [fitH, hget], rfl, rfl, rfl⟩⟩ ?_
  intro _ _
  simp (config := {maxSteps := 1000000}) only [Θ5, Θ4, Θ3, Θ2, Θ1, Ψ1, newS, preN_eq, okN, arg1, preT_eq, preTr_eq, Td_valid, Td_text, Td_parse, Td_same, Td_ch, Td_awake, validCS, textS, parseCS, sameHS, chS, awake3S, on_s_eq, on_l_eq, on_ll_eq, on_ls_eq, on__eq, slV, psiNew_eq, List.length_map, List.take_succ_cons, List.take_nil, Tryz.underlying1, sz1, by1, ze1, Tryz.underlying2, sz2, by2, ze2, Tryz.underlying3, sz3, by3, ze3, Tryz.underlying4, sz4, by4, ze4, Tryz.underlying9, sz9, by9, ze9, Tryz.underlying22, sz22, by22, ze22, Tryz.underlying23, sz23, by23, ze23, Tryz.underlying25, sz25, by25, ze25, Tryz.underlying28, sz28, by28, ze28, fa28_0, fa28_1, Tryz.underlying36, sz36, by36, ze36, Tryz.underlying37, sz37, by37, ze37, Tryz.underlying42, sz42, by42, ze42, planG, go_sem, ↓reduceIte, reduceCtorEq, Nat.reduceEqDiff, Nat.reduceLT, ↓all_qVz, ↓all_qVz', Int.reduceToNat, Int.reduceLT, Int.reduceLE, Nat.reduceAdd, Nat.reduceLeDiff, Nat.reduceMul, ev_callG, gcallK_b, gcallK_w, callGc_true, callGc_false]
  intro l hl
  obtain ⟨htl, ⟨e9, he9, _⟩, _, hlc, hln, _⟩ := hl
  rw [Stop_eq]
  simp (config := {maxSteps := 1000000}) only [Θ5, Θ4, Θ3, Θ2, Θ1, Ψ1, newS, preN_eq, okN, arg1, preT_eq, preTr_eq, Td_valid, Td_text, Td_parse, Td_same, Td_ch, Td_awake, validCS, textS, parseCS, sameHS, chS, awake3S, on_s_eq, on_l_eq, on_ll_eq, on_ls_eq, on__eq, slV, psiNew_eq, List.length_map, List.take_succ_cons, List.take_nil, Tryz.underlying1, sz1, by1, ze1, Tryz.underlying2, sz2, by2, ze2, Tryz.underlying3, sz3, by3, ze3, Tryz.underlying4, sz4, by4, ze4, Tryz.underlying9, sz9, by9, ze9, Tryz.underlying22, sz22, by22, ze22, Tryz.underlying23, sz23, by23, ze23, Tryz.underlying25, sz25, by25, ze25, Tryz.underlying28, sz28, by28, ze28, fa28_0, fa28_1, Tryz.underlying36, sz36, by36, ze36, Tryz.underlying37, sz37, by37, ze37, Tryz.underlying42, sz42, by42, ze42, planG, go_sem, ↓reduceIte, reduceCtorEq, Nat.reduceEqDiff, Nat.reduceLT, ↓all_qVz, ↓all_qVz', Int.reduceToNat, Int.reduceLT, Int.reduceLE, Nat.reduceAdd, Nat.reduceLeDiff, Nat.reduceMul, ev_callG, gcallK_b, gcallK_w, callGc_true, callGc_false]
  intro m hm
  obtain ⟨htm, _, _, hmc, hmn, _⟩ := hm
  rw [Stop_eq]
  obtain ⟨gl, cl⟩ := tree_good hlc hln
  obtain ⟨gm, cm⟩ := tree_good hmc hmn
  have hll := gl.len
  have hml := gm.len
  have vl : ((fstF l).2 != 0) = false := by rw [gl.valid.2 cl]; rfl
  have vm : ((fstF m).2 != 0) = false := by rw [gm.valid.2 cm]; rfl
  have hp := hpF_txt gl cl
  have hsl := hln.isHs
  have hsm := hmn.isHs
  have s1 : sameB l l = true := (sameB_iff hsl hsl).2 rfl
  have hEq : (txtL l == txtL m) = sameB l m := by
    rw [Bool.eq_iff_iff, sameB_iff hsl hsm, beq_iff_eq]
    exact ⟨txt_inj gl cl gm cm, fun e => by rw [e]⟩
  have htxl := txt_len l gl.line
  have hpos : 0 < l.length := List.length_pos_of_mem he9
  have z0 : ((0 : Int) != 0) = false := rfl
  simp (config := {maxSteps := 1000000}) only [vl, vm, hp, s1, hEq, z0, cond_false, bne_self_eq_false, Θ5, Θ4, Θ3, Θ2, Θ1, Ψ1, newS, preN_eq, okN, arg1, preT_eq, preTr_eq, Td_valid, Td_text, Td_parse, Td_same, Td_ch, Td_awake, validCS, textS, parseCS, sameHS, chS, awake3S, on_s_eq, on_l_eq, on_ll_eq, on_ls_eq, on__eq, slV, psiNew_eq, List.length_map, List.take_succ_cons, List.take_nil, Tryz.underlying1, sz1, by1, ze1, Tryz.underlying2, sz2, by2, ze2, Tryz.underlying3, sz3, by3, ze3, Tryz.underlying4, sz4, by4, ze4, Tryz.underlying9, sz9, by9, ze9, Tryz.underlying22, sz22, by22, ze22, Tryz.underlying23, sz23, by23, ze23, Tryz.underlying25, sz25, by25, ze25, Tryz.underlying28, sz28, by28, ze28, fa28_0, fa28_1, Tryz.underlying36, sz36, by36, ze36, Tryz.underlying37, sz37, by37, ze37, Tryz.underlying42, sz42, by42, ze42, planG, go_sem, ↓reduceIte, reduceCtorEq, Nat.reduceEqDiff, Nat.reduceLT, ↓all_qVz, ↓all_qVz', Int.reduceToNat, Int.reduceLT, Int.reduceLE, Nat.reduceAdd, Nat.reduceLeDiff, Nat.reduceMul, ev_callG, gcallK_b, gcallK_w, callGc_true, callGc_false]
  refine ⟨⟨hsl, by omega⟩, by omega, ⟨hsl, hsl, by omega⟩, ⟨hsl, by omega⟩, ⟨hsm, by omega⟩, ⟨hsl, hsm, by omega, by omega⟩, rfl, ⟨by omega, by omega⟩, fun x hx => ?_⟩
  obtain ⟨k, rfl⟩ := Int.eq_ofNat_of_zero_le hx.1
  have hk : k < l.length := by omega
  have hlv := less_valid gl cl hk
  have hlg := (less_good gl hk).1
  obtain ⟨c, nm, hgk, hcl, hnm⟩ := hln _ (getD_mem hk)
  have hgk2 : l.getD k default = .agg [.str c, .str nm] := hgk
  have hck : hCode (l.getD k default) = c := by rw [hgk]; rfl
  rw [hck] at hlv
  have hk1 : IntKind.i64.wrap ((k : Int) + 1) = ((k + 1 : Nat) : Int) := by rw [i64_in _ (by omega)]; omega
  rw [Stop_eq]
  simp (config := {maxSteps := 1000000}) only [Θ5, Θ4, Θ3, Θ2, Θ1, Ψ1, newS, preN_eq, okN, arg1, preT_eq, preTr_eq, Td_valid, Td_text, Td_parse, Td_same, Td_ch, Td_awake, validCS, textS, parseCS, sameHS, chS, awake3S, on_s_eq, on_l_eq, on_ll_eq, on_ls_eq, on__eq, slV, psiNew_eq, List.length_map, List.take_succ_cons, List.take_nil, Tryz.underlying1, sz1, by1, ze1, Tryz.underlying2, sz2, by2, ze2, Tryz.underlying3, sz3, by3, ze3, Tryz.underlying4, sz4, by4, ze4, Tryz.underlying9, sz9, by9, ze9, Tryz.underlying22, sz22, by22, ze22, Tryz.underlying23, sz23, by23, ze23, Tryz.underlying25, sz25, by25, ze25, Tryz.underlying28, sz28, by28, ze28, fa28_0, fa28_1, Tryz.underlying36, sz36, by36, ze36, Tryz.underlying37, sz37, by37, ze37, Tryz.underlying42, sz42, by42, ze42, intV, planG, go_sem, ↓reduceIte, reduceCtorEq, Nat.reduceEqDiff, Nat.reduceLT, ↓all_qV, Int.reduceToNat, Int.reduceLT, Int.reduceLE, Nat.reduceAdd, Nat.reduceLeDiff, Nat.reduceMul, ev_callG, gcallK_b, gcallK_w, callGc_true, callGc_false]
  refine AWp.perm (T := plan0) [1, 2, 3, 0, 4, 5, 6, 7, 8, 9, 10] (by kernel_rfl) rfl ?_
  have hls : ∀ e, e ∈ l.take k ++ l.drop (k + 1) → isHs e := hlg.1.isHs
  have hw2 : ∀ e, e ∈ l → 2 = e.cells.length := fun e he => by obtain ⟨c, n, rfl, _⟩ := hsl e he; rfl
  obtain ⟨A, hA⟩ : ∃ A, l.take k = A := ⟨_, rfl⟩
  obtain ⟨B, hB⟩ : ∃ B, l.drop (k + 1) = B := ⟨_, rfl⟩
  have hAl : A.length = k := by rw [← hA, List.length_take]; omega
  have hBl : B.length = l.length - (k + 1) := by rw [← hB, List.length_drop]
  have tl : l.take l.length = l := List.take_length
  have tA : A.take k = A := List.take_of_length_le (by omega)
  have hwA : ∀ e, e ∈ A → e.cells.length = 2 := fun e he => (hw2 e (by rw [← hA] at he; exact List.mem_of_mem_take he)).symm
  have hwB : ∀ e, e ∈ B → e.cells.length = 2 := fun e he => (hw2 e (by rw [← hB] at he; exact List.mem_of_mem_drop he)).symm
  have tAB : (A ++ B).take (k + B.length) = A ++ B := List.take_of_length_le (by simp; omega)
  rw [hA, hB] at hlv hlg hls
  simp (config := {maxSteps := 1000000}) only [opsOf, List.filterMap_cons, List.filterMap_nil, List.getElem?_toArray, List.getElem?_cons_succ, List.getElem?_cons_zero, ev_rowlit0, hk1, hA, hB, hAl, tl, tA, tAB, hgk2, hlv, List.nil_append, List.take_nil, Nat.zero_add, Θ5, Θ4, Θ3, Θ2, Θ1, Ψ1, newS, preN_eq, okN, arg1, preT_eq, preTr_eq, Td_valid, Td_text, Td_parse, Td_same, Td_ch, Td_awake, validCS, textS, parseCS, sameHS, chS, awake3S, on_s_eq, on_l_eq, on_ll_eq, on_ls_eq, on__eq, slV, psiNew_eq, List.length_map, List.take_succ_cons, List.take_nil, Tryz.underlying1, sz1, by1, ze1, Tryz.underlying2, sz2, by2, ze2, Tryz.underlying3, sz3, by3, ze3, Tryz.underlying4, sz4, by4, ze4, Tryz.underlying9, sz9, by9, ze9, Tryz.underlying22, sz22, by22, ze22, Tryz.underlying23, sz23, by23, ze23, Tryz.underlying25, sz25, by25, ze25, Tryz.underlying28, sz28, by28, ze28, fa28_0, fa28_1, Tryz.underlying36, sz36, by36, ze36, Tryz.underlying37, sz37, by37, ze37, Tryz.underlying42, sz42, by42, ze42, intV, plan0, go_sem, ↓reduceIte, reduceCtorEq, Nat.reduceEqDiff, Nat.reduceLT, ↓all_qV, Int.reduceToNat, Int.reduceLT, Int.reduceLE, Nat.reduceAdd, Nat.reduceLeDiff, Nat.reduceMul, ev_callG, gcallK_b, gcallK_w, callGc_true, callGc_false, List.forall_mem_cons, List.not_mem_nil, PV.one, AV.one]
  have hAB : (A ++ B).length = k + B.length := by rw [List.length_append, hAl]
  exact ⟨⟨by omega, by omega, hw2⟩, rfl, hwA, by omega, by simp only [maxLen]; omega, ⟨by omega, by omega, hw2⟩, rfl, hwB, Nat.le_refl _, by omega, by simp only [maxLen]; omega, by kernel_rfl, ⟨by omega, fun e he => (hls e he).isHn, by omega⟩, ⟨by omega, by omega⟩, ⟨fun e he => (hsl e he).isHn.isH, by omega, by omega⟩, rfl⟩
end Go.AM
