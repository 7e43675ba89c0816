/-
  A part of a proof: see the last text of this claim for what is proved.
-/
import Derived.Test.YtdbnifmcikljdaaGreatDoorD6h
import Derived.Test.YtdbnifmcikljdaaGreatDoorZMa
import Derived.Test.YtdbnifmcikljdaaGreatDoorCX
import Derived.Test.YtdbnifmcikljdaaGreatDoorPN
namespace Go.AM
open Go Go.Proofs Go.IntWalk
set_option maxRecDepth 100000
set_option maxHeartbeats 1000000
set_option linter.unusedSimpArgs false
set_option linter.unusedVariables false
def rsC (l : List Opn) (left : List Lft) : Car := ⟨(runC l left).2.1, (runC l left).2.2, lapF (runC l left).1 left⟩
def rigF (l : List Opn) (left : List Lft) (c : Car) : Bool := decide (chkF l left = 0) && decide (rsC l left = c)
theorem carF_ok {l : List Opn} {left : List Lft} (h : chkF l left = 0) : carF l left = .tup [caV (rsC l left), .int .i64 0] := by
  unfold carF; rw [h]; rfl
theorem carF_bad {l : List Opn} {left : List Lft} (h : ¬ chkF l left = 0) : carF l left = .tup [caV ⟨[], [], []⟩, .int .i64 (chkF l left)] := by
  unfold carF
  have : (chkF l left != 0) = true := by simpa using h
  rw [this]; rfl
theorem rsC_len (l : List Opn) (left : List Lft) : (rsC l left).a.length ≤ l.length ∧ (rsC l left).b.length ≤ l.length ∧ (rsC l left).c.length ≤ left.length :=
  ⟨(runC_len l left).1, (runC_len l left).2, lapF_len _ left⟩
noncomputable def rightG : PSpec := on_llp (fun a b c => (∃ l : List Opn, a = l.map opV ∧ isOps l) ∧ (∃ l : List Lft, b = l.map lfV ∧ isLfs l) ∧ a.length ≤ 1000 ∧ b.length ≤ 1000 ∧ isCar c) (fun a b c => .bool (rigF (a.map opOf) (b.map lfOf) (caOf c)))
theorem k_rightG_12 {args : List PV} : V9 12 args = carryG args := rfl
theorem k_rightG_39 {args : List PV} : V9 39 args = eqOG args := rfl
theorem k_rightG_40 {args : List PV} : V9 40 args = eqLG args := rfl
theorem w_rightG : PSound GG 17 rightG := by
  refine PSound.of_wpc (C := cxP Tryz.prog V9 [] 38) (T := plan0) Tryz.func17 rfl rfl rfl (Fit.pure (G := GG) hV9 mixed) (fun args h => ?_)
  unfold rightG at h
  obtain ⟨p, q, c, rfl, hp⟩ := on_llp_inv h
  refine ⟨by simp [cxP], ?_⟩
  simp only [rightG, on_llp_eq, Tryz.f17, argL, plan0]
  obtain ⟨⟨l, rfl, hl⟩, ⟨left, rfl, hf⟩, hn, hm, ⟨a, b, d⟩, rfl, ha, hb, hd⟩ := hp
  simp only [List.length_map] at hn hm
  simp only at ha hb hd
  have ep : (∃ l_1 : List Opn, l.map opV = l_1.map opV ∧ isOps l_1) ∧ (∃ l : List Lft, left.map lfV = l.map lfV ∧ isLfs l) := ⟨⟨l, rfl, hl⟩, ⟨left, rfl, hf⟩⟩
  obtain ⟨r1, r2, r3⟩ := rsC_len l left
  rw [map_opOf, map_lfOf, caOf_caV]
  by_cases hc : chkF l left = 0
  · have hr := carF_ok hc
    have hg : rigF l left ⟨a, b, d⟩ = decide (rsC l left = ⟨a, b, d⟩) := by unfold rigF; rw [decide_eq_true hc, Bool.true_and]
    rw [hg]
    generalize rsC l left = R at hr r1 r2 r3 ⊢
    obtain ⟨a', b', d'⟩ := R
    simp only at r1 r2 r3
    simp only [map_opOf, map_lfOf, hr, caV, carV, List.length_map, k_rightG_12, carryG, on_ll_eq, k_rightG_39, eqOG, k_rightG_40, eqLG, Tryz.underlying1, sz1, by1, ze1, Tryz.underlying2, sz2, by2, ze2, Tryz.underlying3, sz3, by3, ze3, Tryz.underlying4, sz4, by4, ze4, Tryz.underlying9, sz9, by9, ze9, Tryz.underlying23, sz23, by23, ze23, Tryz.underlying24, sz24, by24, ze24, Tryz.underlying26, sz26, by26, ze26, fa26_0, fa26_1, fa26_2, Tryz.underlying37, sz37, by37, ze37, fa37_0, fa37_1, fa37_2, fa37_3, fa37_4, Tryz.underlying40, sz40, by40, ze40, fa40_0, fa40_1, Tryz.underlying42, sz42, by42, ze42, Tryz.underlying43, sz43, by43, ze43, go_sem, ↓reduceIte, reduceCtorEq, Nat.reduceEqDiff, Nat.reduceLT, ↓all_qV, Int.reduceToNat, Int.reduceLT, Int.reduceLE, Nat.reduceAdd, Nat.reduceLeDiff, Nat.reduceMul, ev_callG, gcallK_b, gcallK_w, callGc_true, callGc_false, List.forall_mem_cons, List.not_mem_nil, PV.one, AV.one]
    refine ⟨⟨⟨l, rfl, hl⟩, ⟨left, rfl, hf⟩, by omega, by omega⟩, ⟨⟨_, rfl⟩, ⟨_, rfl⟩, by omega, by omega⟩, fun _ => ⟨⟨_, rfl⟩, ⟨_, rfl⟩, by omega, by omega⟩, fun _ => ⟨⟨_, rfl⟩, ⟨_, rfl⟩, by omega, by omega⟩, congrArg PV.bool ?_⟩
    rw [Bool.eq_iff_iff]
    simp [and_assoc]
  · have hr := carF_bad hc
    have hg : rigF l left ⟨a, b, d⟩ = false := by unfold rigF; rw [decide_eq_false hc, Bool.false_and]
    rw [hg]
    have hb0 : ((chkF l left) == 0) = false := by simpa using hc
    simp only [map_opOf, map_lfOf, hr, hb0, caV, carV, List.length_map, k_rightG_12, carryG, on_ll_eq, k_rightG_39, eqOG, k_rightG_40, eqLG, Tryz.underlying1, sz1, by1, ze1, Tryz.underlying2, sz2, by2, ze2, Tryz.underlying3, sz3, by3, ze3, Tryz.underlying4, sz4, by4, ze4, Tryz.underlying9, sz9, by9, ze9, Tryz.underlying23, sz23, by23, ze23, Tryz.underlying24, sz24, by24, ze24, Tryz.underlying26, sz26, by26, ze26, fa26_0, fa26_1, fa26_2, Tryz.underlying37, sz37, by37, ze37, fa37_0, fa37_1, fa37_2, fa37_3, fa37_4, Tryz.underlying40, sz40, by40, ze40, fa40_0, fa40_1, Tryz.underlying42, sz42, by42, ze42, Tryz.underlying43, sz43, by43, ze43, go_sem, ↓reduceIte, reduceCtorEq, Nat.reduceEqDiff, Nat.reduceLT, ↓all_qV, Int.reduceToNat, Int.reduceLT, Int.reduceLE, Nat.reduceAdd, Nat.reduceLeDiff, Nat.reduceMul, ev_callG, gcallK_b, gcallK_w, callGc_true, callGc_false, List.forall_mem_cons, List.not_mem_nil, PV.one, AV.one]
    and_intros
    all_goals first | exact ⟨l, rfl, hl⟩ | exact ⟨left, rfl, hf⟩ | omega | exact ⟨_, rfl⟩
noncomputable def rrigS : PSpec := on_llp (fun a b c => (∃ l : List Opn, a = l.map opV ∧ isOps l) ∧ (∃ l : List Lft, b = l.map lfV ∧ isLfs l) ∧ a.length ≤ 1000 ∧ b.length ≤ 1000 ∧ isCar c) (fun a b c => .bool (rigF (a.map opOf) (b.map lfOf) (caOf c)))
theorem k_rrigS_13 {args : List PV} : V9 13 args = rcarS args := rfl
theorem k_rrigS_16 {args : List PV} : V9 16 args = sameCG args := rfl
theorem w_rrigS : PSound GG 18 rrigS := by
  refine PSound.of_wpc (C := cxP Tryz.prog V9 [] 22) (T := plan0) Tryz.func18 rfl rfl rfl (Fit.pure (G := GG) hV9 mixed) (fun args h => ?_)
  unfold rrigS at h
  obtain ⟨p, q, c, rfl, hp⟩ := on_llp_inv h
  refine ⟨by simp [cxP], ?_⟩
  simp only [rrigS, on_llp_eq, Tryz.f18, argL, plan0]
  obtain ⟨⟨l, rfl, hl⟩, ⟨left, rfl, hf⟩, hn, hm, ⟨⟨a, b, d⟩, rfl, ha, hb, hd⟩⟩ := hp
  simp only [List.length_map] at hn hm
  simp only at ha hb hd
  obtain ⟨r1, r2, r3⟩ := rsC_len l left
  rw [map_opOf, map_lfOf, caOf_caV]
  have kc : ∀ x : Car, caOf (.agg [.sl (x.a.map opV), .sl (x.b.map opV), .sl (x.c.map lfV)]) = x := caOf_caV
  by_cases hc : chkF l left = 0
  · have hr := carF_ok hc
    have hg : rigF l left ⟨a, b, d⟩ = decide (rsC l left = ⟨a, b, d⟩) := by unfold rigF; rw [decide_eq_true hc, Bool.true_and]
    rw [hg]
    generalize rsC l left = R at hr r1 r2 r3 ⊢
    have k1 := kc R
    have k2 := kc ⟨a, b, d⟩
    simp only at k2
    simp only [map_opOf, map_lfOf, hr, k1, k2, caV, carV, List.length_map, List.take_succ_cons, List.take_nil, k_rrigS_13, rcarS, on_ll_eq, k_rrigS_16, sameCG, on_pp_eq, Tryz.underlying1, sz1, by1, ze1, Tryz.underlying3, sz3, by3, ze3, Tryz.underlying4, sz4, by4, ze4, Tryz.underlying9, sz9, by9, ze9, Tryz.underlying23, sz23, by23, ze23, Tryz.underlying24, sz24, by24, ze24, Tryz.underlying26, sz26, by26, ze26, fa26_0, fa26_1, fa26_2, Tryz.underlying37, sz37, by37, ze37, fa37_0, fa37_1, fa37_2, fa37_3, fa37_4, Tryz.underlying40, sz40, by40, ze40, fa40_0, fa40_1, Tryz.underlying42, sz42, by42, ze42, Tryz.underlying43, sz43, by43, ze43, go_sem, ↓reduceIte, reduceCtorEq, Nat.reduceEqDiff, Nat.reduceLT, ↓all_qV, Int.reduceToNat, Int.reduceLT, Int.reduceLE, Nat.reduceAdd, Nat.reduceLeDiff, Nat.reduceMul, ev_callG, gcallK_b, gcallK_w, callGc_true, callGc_false, List.forall_mem_cons, List.not_mem_nil, PV.one, AV.one]
    have ic : ∀ x : Car, x.a.length ≤ 1000 → x.b.length ≤ 1000 → x.c.length ≤ 1000 → isCar (.agg [.sl (x.a.map opV), .sl (x.b.map opV), .sl (x.c.map lfV)]) := fun x h1 h2 h3 => ⟨x, rfl, h1, h2, h3⟩
    and_intros
    all_goals first
      | exact ⟨l, rfl, hl⟩ | exact ⟨left, rfl, hf⟩ | omega
      | (intro c hc; simp only [List.mem_cons, List.not_mem_nil, or_false] at hc; rcases hc with rfl | rfl | rfl <;> exact ⟨rfl, trivial⟩)
      | exact ic R (by omega) (by omega) (by omega)
      | exact ic ⟨a, b, d⟩ ha hb hd
  · have hr := carF_bad hc
    have hg : rigF l left ⟨a, b, d⟩ = false := by unfold rigF; rw [decide_eq_false hc, Bool.false_and]
    rw [hg]
    have hb0 : ((chkF l left) == 0) = false := by simpa using hc
    simp only [map_opOf, map_lfOf, hr, hb0, caV, carV, List.length_map, k_rrigS_13, rcarS, on_ll_eq, k_rrigS_16, sameCG, on_pp_eq, Tryz.underlying1, sz1, by1, ze1, Tryz.underlying3, sz3, by3, ze3, Tryz.underlying4, sz4, by4, ze4, Tryz.underlying9, sz9, by9, ze9, Tryz.underlying23, sz23, by23, ze23, Tryz.underlying24, sz24, by24, ze24, Tryz.underlying26, sz26, by26, ze26, fa26_0, fa26_1, fa26_2, Tryz.underlying37, sz37, by37, ze37, fa37_0, fa37_1, fa37_2, fa37_3, fa37_4, Tryz.underlying40, sz40, by40, ze40, fa40_0, fa40_1, Tryz.underlying42, sz42, by42, ze42, Tryz.underlying43, sz43, by43, ze43, go_sem, ↓reduceIte, reduceCtorEq, Nat.reduceEqDiff, Nat.reduceLT, ↓all_qV, Int.reduceToNat, Int.reduceLT, Int.reduceLE, Nat.reduceAdd, Nat.reduceLeDiff, Nat.reduceMul, ev_callG, gcallK_b, gcallK_w, callGc_true, callGc_false, List.forall_mem_cons, List.not_mem_nil, PV.one, AV.one]
    exact ⟨⟨l, rfl, hl⟩, ⟨left, rfl, hf⟩, by omega, by omega⟩
noncomputable def Va (g : FuncId) : PSpec := (putΦ (putΦ V9 17 rightG) 18 rrigS) g
theorem hVa : TabSound GG Va := ((hV9.put w_rightG).put w_rrigS)
end Go.AM
namespace Go.AM
open Go Go.Proofs Go.IntWalk
set_option maxRecDepth 100000
set_option maxHeartbeats 1000000
set_option linter.unusedSimpArgs false
set_option linter.unusedVariables false
def smF (l : List Opn) (left : List Lft) : Bool := (l.all fun x => decide (x.k.length ≤ 30)) && (left.all fun x => decide (x.k.length ≤ 30)) && decide (l.length ≤ 65) && decide (left.length ≤ 65)
theorem smF_ok {l : List Opn} {left : List Lft} (h : smF l left = true) : (∀ x, x ∈ l → x.k.length ≤ 30) ∧ (∀ x, x ∈ left → x.k.length ≤ 30) ∧ l.length ≤ 65 ∧ left.length ≤ 65 := by
  unfold smF at h
  simp only [Bool.and_eq_true, List.all_eq_true, decide_eq_true_eq] at h
  exact ⟨h.1.1.1, h.1.1.2, h.1.2, h.2⟩
noncomputable def smallS : PSpec := on_ll (fun a b => (∃ l : List Opn, a = l.map opV) ∧ (∃ l : List Lft, b = l.map lfV) ∧ a.length ≤ 9223372036854775807 ∧ b.length ≤ 9223372036854775807) (fun a b => .bool (smF (a.map opOf) (b.map lfOf)))
theorem w_smallS : PSound GG 4 smallS := by
  refine PSound.of_wpc (C := cxP Tryz.prog Va [] 39) (T := plan0) Tryz.func4 rfl rfl rfl (Fit.pure (G := GG) hVa mixed) (fun args h => ?_)
  unfold smallS at h
  obtain ⟨p, q, rfl, hp⟩ := on_ll_inv h
  refine ⟨by simp [cxP], ?_⟩
  simp only [smallS, on_ll_eq, Tryz.f4, argL, plan0]
  obtain ⟨⟨l, rfl⟩, ⟨left, rfl⟩, hn, hm⟩ := hp
  simp only [List.length_map] at hn hm
  simp only [map_opOf, map_lfOf, List.length_map, true_and, Tryz.underlying2, sz2, by2, ze2, Tryz.underlying3, sz3, by3, ze3, Tryz.underlying4, sz4, by4, ze4, Tryz.underlying9, sz9, by9, ze9, Tryz.underlying23, sz23, by23, ze23, Tryz.underlying24, sz24, by24, ze24, Tryz.underlying37, sz37, by37, ze37, fa37_0, fa37_1, fa37_2, fa37_3, fa37_4, Tryz.underlying40, sz40, by40, ze40, fa40_0, fa40_1, go_sem, ↓reduceIte, reduceCtorEq, Nat.reduceEqDiff, Nat.reduceLT, ↓all_qV, Int.reduceToNat, Int.reduceLT, Int.reduceLE, Nat.reduceAdd, Nat.reduceLeDiff, Nat.reduceMul]
  refine AWp.loop (T := plan0) (α := Nat) (fun i => ([(0, .pv (.sl (l.map opV))), (1, .pv (.sl (left.map lfV))), (9, .pv (.sl (l.map opV))), (10, .pv (.int .i64 l.length)), (11, .pv (.int .i64 i))], [])) (fun i => i ≤ l.length ∧ ∀ x, x ∈ l.take i → x.k.length ≤ 30) (fun i => l.length - i)
    ⟨0, ⟨Nat.zero_le _, fun x hx => by cases hx⟩, ⟨by simp [fitR, look], trivial, rfl, rfl, rfl⟩⟩ ?_
  rintro i ⟨h1, h2⟩
  by_cases hlt : i < l.length
  · have hi1 : IntKind.i64.wrap ((i : Int) + 1) = ((i + 1 : Nat) : Int) := by rw [i64_in _ (by omega)]; omega
    have c0 : decide ((i : Int) < (l.length : Int)) = true := by simp; omega
    have e1 := getD_op hlt
    have hx := mem_getD' hlt
    have htk := take_succ' hlt
    generalize l.getD i default = x at e1 hx htk
    obtain ⟨o, c, k, y, a⟩ := x
    simp only [opV] at e1
    simp only [c0, e1, hi1, List.length_map, List.take_succ_cons, List.take_nil, true_and, Tryz.underlying2, sz2, by2, ze2, Tryz.underlying3, sz3, by3, ze3, Tryz.underlying4, sz4, by4, ze4, Tryz.underlying9, sz9, by9, ze9, Tryz.underlying23, sz23, by23, ze23, Tryz.underlying24, sz24, by24, ze24, Tryz.underlying37, sz37, by37, ze37, fa37_0, fa37_1, fa37_2, fa37_3, fa37_4, Tryz.underlying40, sz40, by40, ze40, fa40_0, fa40_1, plan0, go_sem, ↓reduceIte, reduceCtorEq, Nat.reduceEqDiff, Nat.reduceLT, ↓all_qV, Int.reduceToNat, Int.reduceLT, Int.reduceLE, Nat.reduceAdd, Nat.reduceLeDiff, Nat.reduceMul, ev_callG, gcallK_b, gcallK_w, callGc_true, callGc_false, List.forall_mem_cons, List.not_mem_nil, PV.one, AV.one]
    and_intros
    all_goals try first | (show checkD _ _ _ = true; kernel_rfl) | omega | (intros; omega) | rfl | trivial | assumption
    · intro h9
      have h9 := of_decide_eq_true h9
      refine congrArg PV.bool ?_
      have : smF l left = false := by
        rw [Bool.eq_false_iff]; intro h
        have := (smF_ok h).1 _ hx
        simp only at this; omega
      rw [this]
    · intro h9
      have h9 := of_decide_eq_false h9
      refine ⟨i + 1, ⟨by omega, fun x hx => ?_⟩, by omega, ⟨by simp [fitR, look], trivial, rfl, rfl, rfl⟩⟩
      rw [htk] at hx
      rcases List.mem_append.1 hx with hx | hx
      · exact h2 x hx
      · rw [List.mem_singleton] at hx; subst hx; simp only; omega
  have c0 : decide ((i : Int) < (l.length : Int)) = false := by simp; omega
  rw [List.take_of_length_le (by omega)] at h2
  simp only [c0, List.length_map, Tryz.underlying2, sz2, by2, ze2, Tryz.underlying3, sz3, by3, ze3, Tryz.underlying4, sz4, by4, ze4, Tryz.underlying9, sz9, by9, ze9, Tryz.underlying23, sz23, by23, ze23, Tryz.underlying24, sz24, by24, ze24, Tryz.underlying37, sz37, by37, ze37, fa37_0, fa37_1, fa37_2, fa37_3, fa37_4, Tryz.underlying40, sz40, by40, ze40, fa40_0, fa40_1, plan0, go_sem, ↓reduceIte, reduceCtorEq, Nat.reduceEqDiff, Nat.reduceLT, ↓all_qV, Int.reduceToNat, Int.reduceLT, Int.reduceLE, Nat.reduceAdd, Nat.reduceLeDiff, Nat.reduceMul]
  refine AWp.loop (T := plan0) (α := Nat) (fun i => ([(0, .pv (.sl (l.map opV))), (1, .pv (.sl (left.map lfV))), (20, .pv (.sl (left.map lfV))), (21, .pv (.int .i64 left.length)), (22, .pv (.int .i64 i))], [])) (fun i => i ≤ left.length ∧ ∀ x, x ∈ left.take i → x.k.length ≤ 30) (fun i => left.length - i)
    ⟨0, ⟨Nat.zero_le _, fun x hx => by cases hx⟩, ⟨by simp [fitR, look], trivial, rfl, rfl, rfl⟩⟩ ?_
  rintro i ⟨h3, h4⟩
  by_cases hlt : i < left.length
  · have hi1 : IntKind.i64.wrap ((i : Int) + 1) = ((i + 1 : Nat) : Int) := by rw [i64_in _ (by omega)]; omega
    have c0 : decide ((i : Int) < (left.length : Int)) = true := by simp; omega
    have e1 := getD_lf hlt
    have hx := mem_getD' hlt
    have htk := take_succ' hlt
    generalize left.getD i default = x at e1 hx htk
    obtain ⟨k, a⟩ := x
    simp only [lfV] at e1
    simp only [c0, e1, hi1, List.length_map, List.take_succ_cons, List.take_nil, true_and, Tryz.underlying2, sz2, by2, ze2, Tryz.underlying3, sz3, by3, ze3, Tryz.underlying4, sz4, by4, ze4, Tryz.underlying9, sz9, by9, ze9, Tryz.underlying23, sz23, by23, ze23, Tryz.underlying24, sz24, by24, ze24, Tryz.underlying37, sz37, by37, ze37, fa37_0, fa37_1, fa37_2, fa37_3, fa37_4, Tryz.underlying40, sz40, by40, ze40, fa40_0, fa40_1, plan0, go_sem, ↓reduceIte, reduceCtorEq, Nat.reduceEqDiff, Nat.reduceLT, ↓all_qV, Int.reduceToNat, Int.reduceLT, Int.reduceLE, Nat.reduceAdd, Nat.reduceLeDiff, Nat.reduceMul, ev_callG, gcallK_b, gcallK_w, callGc_true, callGc_false, List.forall_mem_cons, List.not_mem_nil, PV.one, AV.one]
    and_intros
    all_goals try first | (show checkD _ _ _ = true; kernel_rfl) | omega | (intros; omega) | rfl | trivial | assumption
    · intro h9
      have h9 := of_decide_eq_true h9
      refine congrArg PV.bool ?_
      have : smF l left = false := by
        rw [Bool.eq_false_iff]; intro h
        have := (smF_ok h).2.1 _ hx
        simp only at this; omega
      rw [this]
    · intro h9
      have h9 := of_decide_eq_false h9
      refine ⟨i + 1, ⟨by omega, fun x hx => ?_⟩, by omega, ⟨by simp [fitR, look], trivial, rfl, rfl, rfl⟩⟩
      rw [htk] at hx
      rcases List.mem_append.1 hx with hx | hx
      · exact h4 x hx
      · rw [List.mem_singleton] at hx; subst hx; simp only; omega
  have c0 : decide ((i : Int) < (left.length : Int)) = false := by simp; omega
  rw [List.take_of_length_le (by omega)] at h4
  simp only [c0, List.length_map, Tryz.underlying2, sz2, by2, ze2, Tryz.underlying3, sz3, by3, ze3, Tryz.underlying4, sz4, by4, ze4, Tryz.underlying9, sz9, by9, ze9, Tryz.underlying23, sz23, by23, ze23, Tryz.underlying24, sz24, by24, ze24, Tryz.underlying37, sz37, by37, ze37, fa37_0, fa37_1, fa37_2, fa37_3, fa37_4, Tryz.underlying40, sz40, by40, ze40, fa40_0, fa40_1, plan0, go_sem, ↓reduceIte, reduceCtorEq, Nat.reduceEqDiff, Nat.reduceLT, ↓all_qV, Int.reduceToNat, Int.reduceLT, Int.reduceLE, Nat.reduceAdd, Nat.reduceLeDiff, Nat.reduceMul]
  refine congrArg PV.bool ?_
  have a1 : (l.all fun x => decide (x.k.length ≤ 30)) = true := by simpa [List.all_eq_true] using h2
  have a2 : (left.all fun x => decide (x.k.length ≤ 30)) = true := by simpa [List.all_eq_true] using h4
  unfold smF
  rw [a1, a2, Bool.true_and, Bool.true_and]
  rw [Bool.eq_iff_iff]
  simp only [Bool.and_eq_true, decide_eq_true_eq]
  omega
noncomputable def Vb (g : FuncId) : PSpec := (putΦ Va 4 smallS) g
theorem hVb : TabSound GG Vb := (hVa.put w_smallS)
def preC (args : List PV) : Prop := args = []
theorem preC_eq : preC [] = True := propext ⟨fun _ => trivial, fun _ => rfl⟩
def okC (_ : List PV) (s : List UInt8) : Prop := s.length ≤ 30
noncomputable def codeQ : QSpec := qV Tp preC strV okC
theorem w_codeQ : QSound GG 22 codeQ := by
  unfold codeQ
  refine QSound.of_wpcV (C := cxQ Tryz.prog Φ0 Θ6 noΨ [] [9000] 6) 9000 Tryz.func22 rfl rfl rfl (Fit.all (G := GG) hΦ0 hΘ6 hnoΨ mixed) rfl (fun args h => ?_) (fun args h => ?_)
  · obtain rfl := h
    exact ⟨[], by show ([] : List UInt8).length ≤ 30; simp⟩
  · obtain rfl := h
    refine ⟨by simp [cxQ], ?_⟩
    refine wpc_sound (T := plan0) _ _ _ ?_
    simp only [Θ6, Θ5, Θ4, preX_eq, okX_eq, strV, Tryz.underlying2, sz2, by2, ze2, Tryz.underlying3, sz3, by3, ze3, Tryz.underlying4, sz4, by4, ze4, Tryz.underlying6, sz6, by6, ze6, Tryz.underlying7, sz7, by7, ze7, fa7_0, fa7_1, fa7_2, fa7_3, Tryz.underlying9, sz9, by9, ze9, Tryz.underlying29, sz29, by29, ze29, Tryz.underlying62, sz62, by62, ze62, Tryz.f22, plan0, go_sem, ↓reduceIte, reduceCtorEq, Nat.reduceEqDiff, Nat.reduceLT, ↓all_qV, Int.reduceToNat, Int.reduceLT, Int.reduceLE, Nat.reduceAdd, Nat.reduceLeDiff, Nat.reduceMul, ev_callG, gcallK_b, gcallK_w, callGc_true, callGc_false]
    refine ⟨fun e he => ?_, fun x hx => ⟨x, rfl, ?_⟩⟩
    · simp only [List.mem_cons, List.not_mem_nil, or_false] at he
      rcases he with rfl | rfl | rfl | rfl | rfl | rfl | rfl <;> exact ⟨_, rfl⟩
    · simp only [List.mem_cons, List.not_mem_nil, or_false, PV.str.injEq] at hx
      unfold okC
      rcases hx with rfl | rfl | rfl | rfl | rfl | rfl | rfl <;> decide
noncomputable def Θ7 (g : FuncId) : Option QSpec := putΘ Θ6 22 (qV Tp preC strV okC) g
theorem hΘ7 : QTab GG Θ7 := hΘ6.put w_codeQ
end Go.AM
namespace Go.AM
open Go Go.Proofs Go.IntWalk
set_option maxRecDepth 100000
set_option maxHeartbeats 8000000
set_option linter.unusedSimpArgs false
set_option linter.unusedVariables false
def postO (args : List PV) (ps : Option (List PV)) (es : List PV) : Prop := ps = none ∧ ∃ l : List Opn, es = l.map opV ∧ okO args l
theorem w_opnT : ESound GG 7 (psiT Tp preO 5 postO) := by
  refine ESound.of_tape (C := cxQ Tryz.prog Φ0 Θ4 noΨ [] [9000] 31) (r := .tmp 4) 9000 (by decide) Tryz.func7 rfl rfl rfl rfl (Fit.all (G := GG) hΦ0 hΘ4 hnoΨ mixed) rfl (fun args h => ?_)
  obtain ⟨k, rfl, h1, h2⟩ := h
  refine ⟨by simp [cxQ], ?_⟩
  refine wpc_sound (T := plan0) _ _ _ ?_
  have hw : IntKind.i64.wrap (k + 1) = k + 1 := i64_in _ (by omega)
  simp only [hw, FinT, tapeR, resA1, Θ4, Θ3, Θ2, Θ1, nS, preN_eq, preR_eq, preP_eq, preX_eq, okP_eq, okX_eq, okN, okR, arg1, arg2, intV, strV, Nat.reduceBEq, plan0, Tryz.underlying1, sz1, by1, ze1, Tryz.underlying3, sz3, by3, ze3, Tryz.underlying4, sz4, by4, ze4, Tryz.underlying9, sz9, by9, ze9, Tryz.underlying22, sz22, by22, ze22, Tryz.underlying23, sz23, by23, ze23, Tryz.underlying29, sz29, by29, ze29, Tryz.underlying37, sz37, by37, ze37, fa37_0, fa37_1, fa37_2, fa37_3, fa37_4, Tryz.underlying62, sz62, by62, ze62, Tryz.f7, go_sem, ↓reduceIte, reduceCtorEq, Nat.reduceEqDiff, Nat.reduceLT, ↓all_qV, Int.reduceToNat, Int.reduceLT, Int.reduceLE, Nat.reduceAdd, Nat.reduceLeDiff, Nat.reduceMul]
  refine ⟨⟨by omega, by omega⟩, fun n hn => ?_⟩
  refine AWp.adoptS (s := 5) (κ := 8000) (k := 5) (by simp [look]) rfl (by decide) ?_
  refine AWp.loop (T := plan0) (α := Int × List Opn) (fun z => ([(0, .ptr 9000 0), (5, .rs 8000 z.2.length), (6, .pv (.int .i64 z.1))], [(9000, .obj Tp), (8000, .row 5 (z.2.map opV))])) (fun z => 0 ≤ z.1 ∧ (z.2.length : Int) + z.1 ≤ k ∧ opsG z.2) (fun z => z.1.toNat)
    ⟨(n, []), ⟨by simpa using hn.1, by simp only [List.length_nil]; omega, fun i x hx => by simp at hx⟩, ⟨by simp [fitR, look, upd], by simp [fitH, hget, hset], rfl, rfl, rfl⟩⟩ ?_
  rintro ⟨i, l⟩ ⟨g1, g2, g3⟩
  simp only at g1 g2 g3
  have hi1 : 0 < i → IntKind.i64.wrap (i - 1) = i - 1 := fun _ => i64_in _ (by omega)
  have hl1 : IntKind.i64.wrap ((l.length : Int) + 1) = (l.length : Int) + 1 := i64_in _ (by omega)
  have tk : (l.map opV).take l.length = l.map opV := List.take_of_length_le (by simp)
  by_cases hlt : 0 < i
  · have c0 : decide (0 < i) = true := by simp; exact hlt
    simp only [c0, hi1 hlt, hl1, tk, FinT, tapeR, resA1, List.length_map, Θ4, Θ3, Θ2, Θ1, nS, preN_eq, preR_eq, preP_eq, preX_eq, okP_eq, okX_eq, okN, okR, arg1, arg2, intV, strV, Nat.reduceBEq, plan0, Tryz.underlying1, sz1, by1, ze1, Tryz.underlying3, sz3, by3, ze3, Tryz.underlying4, sz4, by4, ze4, Tryz.underlying9, sz9, by9, ze9, Tryz.underlying22, sz22, by22, ze22, Tryz.underlying23, sz23, by23, ze23, Tryz.underlying29, sz29, by29, ze29, Tryz.underlying37, sz37, by37, ze37, fa37_0, fa37_1, fa37_2, fa37_3, fa37_4, Tryz.underlying62, sz62, by62, ze62, go_sem, ↓reduceIte, reduceCtorEq, Nat.reduceEqDiff, Nat.reduceLT, ↓all_qV, Int.reduceToNat, Int.reduceLT, Int.reduceLE, Nat.reduceAdd, Nat.reduceLeDiff, Nat.reduceMul, ev_callG, gcallK_b, gcallK_w, callGc_true, callGc_false]
    intro x hx
    refine ⟨fun e he => ?_, fun s hs => ⟨fun e he => ?_, fun m hm => ?_⟩⟩
    · simp only [List.mem_cons, List.not_mem_nil, or_false] at he
      rcases he with rfl | rfl | rfl | rfl <;> exact ⟨_, rfl⟩
    · simp only [List.mem_cons, List.not_mem_nil, or_false] at he
      rcases he with rfl | rfl | rfl | rfl <;> exact ⟨_, rfl, by decide, by decide⟩
    have hs4 : s ∈ four := by simpa [four, k11, k12, k29, k210] using hs
    have hm4 : am4 m := by simpa [am4] using hm
    refine ⟨rfl, fun e he => by simp only [List.mem_singleton] at he; subst he; rfl, Nat.le_refl _, by omega, by simp only [maxLen]; omega, (i - 1, l ++ [⟨x, (l.length : Int) + 1, s, 3, m⟩]), ⟨by simp only; omega, by simp only [List.length_append, List.length_cons, List.length_nil]; omega, opsG_snoc g3 ⟨hx, rfl, hs4, rfl, hm4⟩⟩, by simp only; omega, ⟨by simp [fitR, look], by simp [fitH, hget, opV], rfl, rfl, rfl⟩⟩
  · have c0 : decide (0 < i) = false := by simp; omega
    simp only [c0, hl1, tk, FinT, tapeR, resA1, List.length_map, Θ4, Θ3, Θ2, Θ1, nS, preN_eq, preR_eq, preP_eq, preX_eq, okP_eq, okX_eq, okN, okR, arg1, arg2, intV, strV, Nat.reduceBEq, plan0, Tryz.underlying1, sz1, by1, ze1, Tryz.underlying3, sz3, by3, ze3, Tryz.underlying4, sz4, by4, ze4, Tryz.underlying9, sz9, by9, ze9, Tryz.underlying22, sz22, by22, ze22, Tryz.underlying23, sz23, by23, ze23, Tryz.underlying29, sz29, by29, ze29, Tryz.underlying37, sz37, by37, ze37, fa37_0, fa37_1, fa37_2, fa37_3, fa37_4, Tryz.underlying62, sz62, by62, ze62, go_sem, ↓reduceIte, reduceCtorEq, Nat.reduceEqDiff, Nat.reduceLT, ↓all_qV, Int.reduceToNat, Int.reduceLT, Int.reduceLE, Nat.reduceAdd, Nat.reduceLeDiff, Nat.reduceMul, ev_callG, gcallK_b, gcallK_w, callGc_true, callGc_false]
    exact ⟨.rs 8000 l.length, none, l.map opV, rfl, ⟨l.map opV, by simp [hget], by simp, tk.symm⟩, rfl, l, rfl, by simp only [arg1]; omega, g3⟩
noncomputable def ΨX (g : FuncId) : Option ESpec := putΨ Ψ1 7 (psiT Tp preO 5 postO) g
theorem hΨX : ETab GG ΨX := hΨ1.put w_opnT psiT_mono
theorem Ψ1_sub : ∀ f ψ, Ψ1 f = some ψ → ΨX f = some ψ := by
  intro f ψ h
  by_cases e : f = 7
  · subst e; cases h
  · show (if f = _ then _ else _) = _
    rw [if_neg e]; exact h
end Go.AM
