/-
  A part of a proof: see the last text of this claim for what is proved.
-/
import Derived.Test.YtdbnifmcikljdaaGreatDoorDC
import Derived.Test.YtdbnifmcikljdaaGreatDoorZMa
namespace Go.AM
open Go Go.Proofs Go.IntWalk
set_option maxRecDepth 100000
set_option maxHeartbeats 1000000
set_option linter.unusedSimpArgs false
set_option linter.unusedVariables false
theorem pI_partsR (s : List UInt8) : pI s = partsR s := by
  unfold pI
  rw [parts_partsR, List.map_map]
  exact (List.map_congr_left (fun x _ => rfl)).trans (List.map_id _)
theorem cmpF_C (a b : List UInt8) : cmpF a b = cmpC a b := by
  unfold cmpF cmpC cmpS
  rw [pI_partsR, pI_partsR]
  generalize partsR a = p
  generalize partsR b = q
  have h : ∀ n : Nat, (((n : Int) + 1) == 0) = false := fun n => by simp; omega
  cases p <;> cases q <;> simp [cmpL, h]
theorem befO_lt (x y : Opn) : befO x y = ltO x y := by
  unfold befO ltO cmpO
  rw [cmpF_C]
  generalize cmpC x.k y.k = A
  unfold cmpI
  simp only [orF]
  by_cases h0 : A = 0
  · subst h0
    by_cases h4 : x.o < y.o
    · simp [h4]
    by_cases h5 : y.o < x.o
    · simp [h4, h5]; omega
    have h6 : x.o = y.o := by omega
    by_cases h7 : x.c < y.c
    · simp [h6, h7]
    by_cases h8 : y.c < x.c
    · simp [h6, h7, h8]
    · simp [h6, h7, h8]
  · have : (A != 0) = true := by simpa using h0
    simp only [this, cond_true]
theorem namB_snoc (x : Opn) (s : List Opn) (y : Opn) : namB x (s ++ [y]) = (namB x s || (y.o == x.o && y.c == x.c)) := by
  unfold namB; simp
noncomputable def rchkS : PSpec := on_ll (fun a b => (∃ l : List Opn, a = l.map opV ∧ isOps l) ∧ (∃ l : List Lft, b = l.map lfV ∧ isLfs l) ∧ a.length ≤ 1000000000000 ∧ b.length ≤ 1000000000000)
  (fun a b => .int .i64 (chkF (a.map opOf) (b.map lfOf)))
theorem k_rchkS_34 {args : List PV} : V1 34 args = oneS args := rfl
theorem k_rchkS_35 {args : List PV} : V1 35 args = rPartsS args := rfl
theorem k_rchkS_36 {args : List PV} : V1 36 args = rCmpS args := rfl
theorem w_rchkS : PSound GG 15 rchkS := by
  refine PSound.of_wpc (C := cxP Tryz.prog V1 [] 99) (T := plan0) Tryz.func15 rfl rfl rfl (Fit.pure (G := GG) hV1 mixed) (fun args h => ?_)
  unfold rchkS at h
  obtain ⟨p, q, rfl, hp⟩ := on_ll_inv h
  refine ⟨by simp [cxP], ?_⟩
  simp only [rchkS, on_ll_eq, Tryz.f15, argL, plan0]
  obtain ⟨⟨l, rfl, hl⟩, ⟨left, rfl, hf⟩, hn, hm⟩ := hp
  simp only [List.length_map] at hn hm
  simp only [map_opOf, map_lfOf, List.length_map, k_rchkS_34, oneS, on_p_eq, k_rchkS_35, rPartsS, on_s_eq, k_rchkS_36, rCmpS, on_ss_eq, Tryz.underlying1, sz1, by1, ze1, Tryz.underlying3, sz3, by3, ze3, Tryz.underlying4, sz4, by4, ze4, Tryz.underlying9, sz9, by9, ze9, Tryz.underlying22, sz22, by22, ze22, Tryz.underlying23, sz23, by23, ze23, Tryz.underlying24, sz24, by24, ze24, Tryz.underlying37, sz37, by37, ze37, fa37_0, fa37_1, fa37_2, fa37_3, fa37_4, Tryz.underlying40, sz40, by40, ze40, fa40_0, fa40_1, Tryz.underlying42, sz42, by42, ze42, go_sem, ↓reduceIte, reduceCtorEq, Nat.reduceEqDiff, Nat.reduceLT, ↓all_qV, Int.reduceToNat, Int.reduceLT, Int.reduceLE, Nat.reduceAdd, Nat.reduceLeDiff, Nat.reduceMul]
  refine ⟨fun h1 => by unfold chkF; rw [h1]; rfl, fun h1 => ?_⟩
  have hs : l.length ≤ 60 ∧ left.length ≤ 60 := by
    simp only [Bool.or_eq_false_iff, decide_eq_false_iff_not] at h1; omega
  have hres : chkF l left = bif okOs (l.headD default).y [] l && okLs none left then 0 else 88 := by unfold chkF; rw [h1]; rfl
  rw [hres]
  refine AWp.loop (T := plan0) (α := Nat) (fun i => ([(0, .pv (.sl (l.map opV))), (1, .pv (.sl (left.map lfV))), (19, .pv (.sl (l.map opV))), (20, .pv (.int .i64 l.length)), (21, .pv (.int .i64 i))], []))
    (fun i => i ≤ l.length ∧ okOs (l.headD default).y [] l = okOs (l.headD default).y (l.take i) (l.drop i)) (fun i => l.length - i)
    ⟨0, ⟨Nat.zero_le _, by simp⟩, ⟨by simp [fitR, look], trivial, rfl, rfl, rfl⟩⟩ ?_
  rintro i ⟨g1, g2⟩
  have hi1 : IntKind.i64.wrap ((i : Int) + 1) = ((i + 1 : Nat) : Int) := by rw [i64_in _ (by omega)]; omega
  by_cases hlt : i < l.length
  · have c0 : decide ((i : Int) < (l.length : Int)) = true := by simp; omega
    have e1 := getD_op hlt
    have e0 : (l.map opV).getD 0 default = opV (l.headD default) := by
      cases l with
      | nil => simp at hlt
      | cons y r => rfl
    have hk := hl _ (mem_getD' hlt)
    rw [drop_cons' hlt, okOs] at g2
    have htk := take_succ' hlt
    generalize l.getD i default = x at e1 hk g2 htk
    generalize l.headD default = x0 at e0 g2 ⊢
    obtain ⟨o, c, k, y, a⟩ := x
    obtain ⟨o0, c0', k0, y0, a0⟩ := x0
    have iop : isOp (.agg [.int .i64 o, .int .i64 c, .str k, .int .i64 y, .int .i64 a]) := ⟨⟨o, c, k, y, a⟩, rfl, hk⟩
    simp only [opV] at e1 e0
    simp only [c0, e1, e0, hi1, opOf_agg, List.length_map, List.take_succ_cons, List.take_nil, k_rchkS_34, oneS, on_p_eq, k_rchkS_35, rPartsS, on_s_eq, k_rchkS_36, rCmpS, on_ss_eq, Tryz.underlying1, sz1, by1, ze1, Tryz.underlying3, sz3, by3, ze3, Tryz.underlying4, sz4, by4, ze4, Tryz.underlying9, sz9, by9, ze9, Tryz.underlying22, sz22, by22, ze22, Tryz.underlying23, sz23, by23, ze23, Tryz.underlying24, sz24, by24, ze24, Tryz.underlying37, sz37, by37, ze37, fa37_0, fa37_1, fa37_2, fa37_3, fa37_4, Tryz.underlying40, sz40, by40, ze40, fa40_0, fa40_1, Tryz.underlying42, sz42, by42, ze42, plan0, go_sem, ↓reduceIte, reduceCtorEq, Nat.reduceEqDiff, Nat.reduceLT, ↓all_qV, Int.reduceToNat, Int.reduceLT, Int.reduceLE, Nat.reduceAdd, Nat.reduceLeDiff, Nat.reduceMul, ev_callG, gcallK_b, gcallK_w, callGc_true, callGc_false, List.forall_mem_cons, List.not_mem_nil, PV.one, AV.one]
    have hwd : ∀ p, p ∈ l.map opV → 5 = p.cells.length := fun p hp => by obtain ⟨z, _, rfl⟩ := List.mem_map.1 hp; rfl
    refine ⟨⟨by omega, by omega⟩, by kernel_rfl, iop, fun _ => by omega, fun h9 => by simpa using h9, fun h9 => ?_, fun h9 => ⟨⟨by omega, by omega, hwd⟩, ?_⟩⟩
    · have : (opB ⟨o, c, k, y, a⟩ && !namB ⟨o, c, k, y, a⟩ (l.take i) && y == y0) = false := by
        rw [Bool.eq_false_iff]; intro h8
        simp only [Bool.and_eq_true, Bool.not_eq_true', beq_iff_eq] at h8
        rw [h8.1.1, h8.2] at h9
        simp at h9
      rw [g2, this]; rfl
    simp only [Bool.or_eq_false_iff, Bool.not_eq_false', bne_eq_false_iff_eq] at h9
    obtain ⟨h8, rfl⟩ := h9
    rw [h8] at g2
    simp only [Bool.true_and, beq_self_eq_true, Bool.and_true] at g2
    have hrow : (l.map opV).take i = (l.take i).map opV := (List.map_take ..).symm
    have hri : (l.take i).length = i := by rw [List.length_take]; omega
    refine AWp.loop (T := plan0) (α := Nat) (fun j => ([(0, .pv (.sl (l.map opV))), (1, .pv (.sl (left.map lfV))), (6, .ptr 6 0), (19, .pv (.sl (l.map opV))), (20, .pv (.int .i64 l.length)), (21, .pv (.int .i64 i)), (40, .pv (.sl ((l.take i).map opV))), (41, .pv (.int .i64 i)), (42, .pv (.int .i64 j))], [(6, .cells [.pv (.int .i64 o), .pv (.int .i64 c), .pv (.str k), .pv (.int .i64 y), .pv (.int .i64 a)])]))
      (fun j => j ≤ i ∧ namB ⟨o, c, k, y, a⟩ (l.take j) = false) (fun j => i - j)
      ⟨0, ⟨Nat.zero_le _, rfl⟩, ⟨by simp [fitR, look, hri, Nat.min_eq_left (Nat.le_of_lt hlt)], by simp [fitH, hget], rfl, rfl, rfl⟩⟩ ?_
    rintro j ⟨j1, j2⟩
    have hj1 : IntKind.i64.wrap ((j : Int) + 1) = ((j + 1 : Nat) : Int) := by rw [i64_in _ (by omega)]; omega
    by_cases hjt : j < i
    · have q0 : decide ((j : Int) < (i : Int)) = true := by simp; omega
      have e3 : ((l.take i).map opV).getD j default = opV (l.getD j default) := by
        rw [getD_op (by omega)]; simp [List.getD_eq_getElem?_getD, List.getElem?_take, hjt]
      have hns : namB ⟨o, c, k, y, a⟩ (l.take (j + 1)) = ((l.getD j default).o == o && (l.getD j default).c == c) := by
        rw [take_succ' (by omega), namB_snoc, j2, Bool.false_or]
      have hni : ((l.getD j default).o == o && (l.getD j default).c == c) = true → namB ⟨o, c, k, y, a⟩ (l.take i) = true := fun h => by
        refine List.any_eq_true.2 ⟨l.getD j default, ?_, h⟩
        have : (l.take i).getD j default ∈ l.take i := mem_getD' (by omega)
        rwa [show (l.take i).getD j default = l.getD j default by simp [List.getD_eq_getElem?_getD, List.getElem?_take, hjt]] at this
      generalize l.getD j default = z at e3 hns hni
      obtain ⟨o', c', k', y', a'⟩ := z
      simp only [opV] at e3
      simp only at hns hni
      simp only [q0, e3, hj1, hri, List.length_map, List.take_succ_cons, List.take_nil, k_rchkS_34, oneS, on_p_eq, k_rchkS_35, rPartsS, on_s_eq, k_rchkS_36, rCmpS, on_ss_eq, Tryz.underlying1, sz1, by1, ze1, Tryz.underlying3, sz3, by3, ze3, Tryz.underlying4, sz4, by4, ze4, Tryz.underlying9, sz9, by9, ze9, Tryz.underlying22, sz22, by22, ze22, Tryz.underlying23, sz23, by23, ze23, Tryz.underlying24, sz24, by24, ze24, Tryz.underlying37, sz37, by37, ze37, fa37_0, fa37_1, fa37_2, fa37_3, fa37_4, Tryz.underlying40, sz40, by40, ze40, fa40_0, fa40_1, Tryz.underlying42, sz42, by42, ze42, plan0, go_sem, ↓reduceIte, reduceCtorEq, Nat.reduceEqDiff, Nat.reduceLT, ↓all_qV, Int.reduceToNat, Int.reduceLT, Int.reduceLE, Nat.reduceAdd, Nat.reduceLeDiff, Nat.reduceMul, ev_callG, gcallK_b, gcallK_w, callGc_true, callGc_false, List.forall_mem_cons, List.not_mem_nil, PV.one, AV.one]
      and_intros
      all_goals try first | (show checkD _ _ _ = true; kernel_rfl) | omega | (intros; omega) | rfl | trivial | assumption
      · intro h7
        rw [g2, hni h7]; rfl
      · intro h7
        exact ⟨j + 1, ⟨by omega, by rw [hns, h7]⟩, by omega, ⟨by simp [fitR, look], by simp [fitH, hget], rfl, rfl, rfl⟩⟩
    · have q0 : decide ((j : Int) < (i : Int)) = false := by simp; omega
      have hji : j = i := by omega
      rw [hji] at j2
      rw [j2] at g2
      simp only [q0, hi1, hri, List.length_map, List.take_succ_cons, List.take_nil, k_rchkS_34, oneS, on_p_eq, k_rchkS_35, rPartsS, on_s_eq, k_rchkS_36, rCmpS, on_ss_eq, Tryz.underlying1, sz1, by1, ze1, Tryz.underlying3, sz3, by3, ze3, Tryz.underlying4, sz4, by4, ze4, Tryz.underlying9, sz9, by9, ze9, Tryz.underlying22, sz22, by22, ze22, Tryz.underlying23, sz23, by23, ze23, Tryz.underlying24, sz24, by24, ze24, Tryz.underlying37, sz37, by37, ze37, fa37_0, fa37_1, fa37_2, fa37_3, fa37_4, Tryz.underlying40, sz40, by40, ze40, fa40_0, fa40_1, Tryz.underlying42, sz42, by42, ze42, plan0, go_sem, ↓reduceIte, reduceCtorEq, Nat.reduceEqDiff, Nat.reduceLT, ↓all_qV, Int.reduceToNat, Int.reduceLT, Int.reduceLE, Nat.reduceAdd, Nat.reduceLeDiff, Nat.reduceMul, ev_callG, gcallK_b, gcallK_w, callGc_true, callGc_false, List.forall_mem_cons, List.not_mem_nil, PV.one, AV.one]
      exact ⟨i + 1, ⟨by omega, by rw [g2, htk]; rfl⟩, by omega, ⟨by simp [fitR, look], trivial, rfl, rfl, rfl⟩⟩
  · have c0 : decide ((i : Int) < (l.length : Int)) = false := by simp; omega
    rw [show l.drop i = [] from List.drop_eq_nil_of_le (by omega), okOs] at g2
    rw [g2, Bool.true_and]
    simp only [c0, List.length_map, Tryz.underlying1, sz1, by1, ze1, Tryz.underlying3, sz3, by3, ze3, Tryz.underlying4, sz4, by4, ze4, Tryz.underlying9, sz9, by9, ze9, Tryz.underlying22, sz22, by22, ze22, Tryz.underlying23, sz23, by23, ze23, Tryz.underlying24, sz24, by24, ze24, Tryz.underlying37, sz37, by37, ze37, fa37_0, fa37_1, fa37_2, fa37_3, fa37_4, Tryz.underlying40, sz40, by40, ze40, fa40_0, fa40_1, Tryz.underlying42, sz42, by42, ze42, plan0, go_sem, ↓reduceIte, reduceCtorEq, Nat.reduceEqDiff, Nat.reduceLT, ↓all_qV, Int.reduceToNat, Int.reduceLT, Int.reduceLE, Nat.reduceAdd, Nat.reduceLeDiff, Nat.reduceMul]
    refine AWp.loop (T := plan0) (α := Nat) (fun i => ([(1, .pv (.sl (left.map lfV))), (60, .pv (.sl (left.map lfV))), (61, .pv (.int .i64 left.length)), (62, .pv (.int .i64 i))], []))
      (fun i => i ≤ left.length ∧ okLs none left = okLs (if i = 0 then none else some (left.getD (i - 1) default).k) (left.drop i)) (fun i => left.length - i)
      ⟨0, ⟨Nat.zero_le _, by simp⟩, ⟨by simp [fitR, look], by simp [fitH], rfl, rfl, rfl⟩⟩ ?_
    clear g1 g2 hi1 c0 hlt
    rintro i ⟨g1, g2⟩
    have hi1 : IntKind.i64.wrap ((i : Int) + 1) = ((i + 1 : Nat) : Int) := by rw [i64_in _ (by omega)]; omega
    by_cases hlt : i < left.length
    · have c0 : decide ((i : Int) < (left.length : Int)) = true := by simp; omega
      have e1 := getD_lf hlt
      have hk := hf _ (mem_getD' hlt)
      rw [drop_cons' hlt, okLs_cons] at g2
      have hstep : ∀ j, i + 1 = j → okLs (some (left.getD i default).k) (left.drop (i + 1)) = okLs (if j = 0 then none else some (left.getD (j - 1) default).k) (left.drop j) := fun j hj => by
        subst hj; rw [if_neg (by omega)]; rfl
      cases i with
      | zero =>
        have c0 : decide ((0 : Int) < (left.length : Int)) = true := by simp; omega
        have w1 : IntKind.i64.wrap (0 - 1) = -1 := by decide
        generalize left.getD 0 default = x at e1 hk g2 hstep
        obtain ⟨k, a⟩ := x
        have hpp := parts_partsR k
        simp only at hk
        simp only [lfV] at e1
        simp only [if_true, ltK, Bool.and_true] at g2
        simp only [c0, decide_false, w1, e1, hi1, neg1, hpp, lfOf_agg, List.length_map, List.take_succ_cons, List.take_nil, k_rchkS_34, oneS, on_p_eq, k_rchkS_35, rPartsS, on_s_eq, k_rchkS_36, rCmpS, on_ss_eq, Tryz.underlying1, sz1, by1, ze1, Tryz.underlying3, sz3, by3, ze3, Tryz.underlying4, sz4, by4, ze4, Tryz.underlying9, sz9, by9, ze9, Tryz.underlying22, sz22, by22, ze22, Tryz.underlying23, sz23, by23, ze23, Tryz.underlying24, sz24, by24, ze24, Tryz.underlying37, sz37, by37, ze37, fa37_0, fa37_1, fa37_2, fa37_3, fa37_4, Tryz.underlying40, sz40, by40, ze40, fa40_0, fa40_1, Tryz.underlying42, sz42, by42, ze42, plan0, go_sem, ↓reduceIte, reduceCtorEq, Nat.reduceEqDiff, Nat.reduceLT, ↓all_qV, Int.reduceToNat, Int.reduceLT, Int.reduceLE, Nat.reduceAdd, Nat.reduceLeDiff, Nat.reduceMul, ev_callG, gcallK_b, gcallK_w, callGc_true, callGc_false, List.forall_mem_cons, List.not_mem_nil, PV.one, AV.one]
        have hcd : ((((partsR k).length : Int) == 0) || decide (a < 0) || decide (1000000000000000 < a)) = !(decide ((0 : Int) < (partsR k).length) && amg a 0 1000000000000000) := by
          rw [Bool.eq_iff_iff]
          simp only [amg, Bool.not_eq_true', Bool.or_eq_true, Bool.and_eq_false_iff, decide_eq_true_eq, decide_eq_false_iff_not, beq_iff_eq]
          omega
        rw [hcd]
        refine ⟨by omega, by kernel_rfl, by omega, fun h9 => ?_, fun h9 => ⟨0 + 1, ⟨by omega, ?_⟩, by omega, ⟨by simp [fitR, look, show IntKind.i64.wrap (0 + 1) = 1 by decide, show IntKind.i64.wrap 1 = 1 by decide], trivial, rfl, rfl, rfl⟩⟩⟩
        · rw [Bool.not_eq_true'] at h9; rw [g2, h9]; rfl
        · rw [Bool.not_eq_false'] at h9; rw [g2, h9, ← hstep _ rfl, Bool.true_and]
      | succ j =>
        have c1 : decide ((0 : Int) < ((j + 1 : Nat) : Int)) = true := by simp
        have w1 : IntKind.i64.wrap (((j + 1 : Nat) : Int) - 1) = (j : Int) := by rw [i64_in _ (by omega)]; omega
        have e2 := getD_lf (l := left) (i := j) (by omega)
        have hk2 := hf _ (mem_getD' (l := left) (i := j) (by omega))
        simp only [Nat.add_sub_cancel, ltK, if_neg (show ¬ j + 1 = 0 by omega)] at g2
        generalize left.getD (j + 1) default = x at e1 hk g2 hstep
        generalize left.getD j default = x' at e2 hk2 g2
        obtain ⟨k, a⟩ := x
        obtain ⟨k', a'⟩ := x'
        have hpp := parts_partsR k
        simp only at hk hk2
        simp only [lfV] at e1 e2
        simp only [c0, c1, w1, e1, e2, hi1, hpp, cmpF_C, lfOf_agg, List.length_map, List.take_succ_cons, List.take_nil, k_rchkS_34, oneS, on_p_eq, k_rchkS_35, rPartsS, on_s_eq, k_rchkS_36, rCmpS, on_ss_eq, Tryz.underlying1, sz1, by1, ze1, Tryz.underlying3, sz3, by3, ze3, Tryz.underlying4, sz4, by4, ze4, Tryz.underlying9, sz9, by9, ze9, Tryz.underlying22, sz22, by22, ze22, Tryz.underlying23, sz23, by23, ze23, Tryz.underlying24, sz24, by24, ze24, Tryz.underlying37, sz37, by37, ze37, fa37_0, fa37_1, fa37_2, fa37_3, fa37_4, Tryz.underlying40, sz40, by40, ze40, fa40_0, fa40_1, Tryz.underlying42, sz42, by42, ze42, plan0, go_sem, ↓reduceIte, reduceCtorEq, Nat.reduceEqDiff, Nat.reduceLT, ↓all_qV, Int.reduceToNat, Int.reduceLT, Int.reduceLE, Nat.reduceAdd, Nat.reduceLeDiff, Nat.reduceMul, ev_callG, gcallK_b, gcallK_w, callGc_true, callGc_false, List.forall_mem_cons, List.not_mem_nil, PV.one, AV.one]
        have hcd : ((((partsR k).length : Int) == 0) || decide (a < 0) || decide (1000000000000000 < a)) = !(decide ((0 : Int) < (partsR k).length) && amg a 0 1000000000000000) := by
          rw [Bool.eq_iff_iff]
          simp only [amg, Bool.not_eq_true', Bool.or_eq_true, Bool.and_eq_false_iff, decide_eq_true_eq, decide_eq_false_iff_not, beq_iff_eq]
          omega
        have hc2 : decide (0 ≤ cmpC k' k) = !decide (cmpC k' k < 0) := by
          rw [Bool.eq_iff_iff]; simp
        rw [hcd, hc2]
        refine ⟨⟨by omega, by omega⟩, by kernel_rfl, by omega, fun _ => ⟨by omega, by omega⟩, fun _ => ⟨by omega, by omega⟩, fun h9 => ?_, fun h9 => ⟨j + 1 + 1, ⟨by omega, ?_⟩, by omega, ⟨by simp [fitR, look], trivial, rfl, rfl, rfl⟩⟩⟩
        · rw [← Bool.not_and, Bool.not_eq_true'] at h9; rw [g2, h9]; rfl
        · rw [← Bool.not_and, Bool.not_eq_false'] at h9; rw [g2, h9, ← hstep _ rfl, Bool.true_and]
    · have c0 : decide ((i : Int) < (left.length : Int)) = false := by simp; omega
      rw [show left.drop i = [] from List.drop_eq_nil_of_le (by omega), okLs] at g2
      rw [g2]
      simp only [c0, List.length_map, Tryz.underlying1, sz1, by1, ze1, Tryz.underlying3, sz3, by3, ze3, Tryz.underlying4, sz4, by4, ze4, Tryz.underlying9, sz9, by9, ze9, Tryz.underlying22, sz22, by22, ze22, Tryz.underlying23, sz23, by23, ze23, Tryz.underlying24, sz24, by24, ze24, Tryz.underlying37, sz37, by37, ze37, fa37_0, fa37_1, fa37_2, fa37_3, fa37_4, Tryz.underlying40, sz40, by40, ze40, fa40_0, fa40_1, Tryz.underlying42, sz42, by42, ze42, plan0, go_sem, ↓reduceIte, reduceCtorEq, Nat.reduceEqDiff, Nat.reduceLT, ↓all_qV, Int.reduceToNat, Int.reduceLT, Int.reduceLE, Nat.reduceAdd, Nat.reduceLeDiff, Nat.reduceMul]
      try rfl
noncomputable def V2 (g : FuncId) : PSpec := (putΦ V1 15 rchkS) g
theorem hV2 : TabSound GG V2 := (hV1.put w_rchkS)
end Go.AM
