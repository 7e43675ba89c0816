/-
  A part of a proof: see the last text of this claim for what is proved.
-/
import Derived.Test.YtdbnifmcikljdaaGreatDoorDE
import Derived.Test.YtdbnifmcikljdaaGreatDoorZMa
namespace Go.AM
open Go Go.Proofs Go.IntWalk
set_option maxRecDepth 100000
set_option maxHeartbeats 1000000
set_option linter.unusedSimpArgs false
set_option linter.unusedVariables false
theorem linG_any (y : Int) : ∀ (o : List Lft) (n : Nat), ((linG y n o).map cyV).any notC = o.any fun z => !vldM z.a
  | [], _ => rfl
  | z :: r, n => by
    rw [linG, List.map_cons, List.any_cons, List.any_cons, linG_any y r]; rfl
theorem valK_len {s : List UInt8} (h : valK s) : s.length ≤ 11 := by
  have hw := words_len s
  unfold valK partsR at h
  cases hg : goP [] (wordsOf s) with
  | none => rw [hg] at h; simp at h
  | some l =>
    rw [hg] at h
    simp only at h
    split at h
    · simp at h
    · obtain ⟨h1, h2⟩ := goP_len _ _ _ hg
      simp only [List.length_nil] at h1
      omega
def rawV (y : Int) (z : Lft) : PV := cyV ⟨0, 360 * y, z.k, y, z.a⟩
theorem getD_raw {y : Int} {l : List Lft} {i : Nat} (h : i < l.length) : (l.map (rawV y)).getD i default = rawV y (l.getD i default) := by
  simp [List.getD_eq_getElem?_getD, h]
def numL (y : Int) (o : List Lft) (i : Nat) : List PV := (linG y 0 (o.take i)).map cyV ++ (o.drop i).map (rawV y)
theorem numL_zero {y : Int} {o : List Lft} : numL y o 0 = o.map (rawV y) := by unfold numL; simp [linG]
theorem numL_end {y : Int} {o : List Lft} : numL y o o.length = (linG y 0 o).map cyV := by unfold numL; simp
theorem numL_len (y : Int) (o : List Lft) (i : Nat) : (numL y o i).length = o.length := by
  unfold numL
  simp only [List.length_append, List.length_map, linG_len, List.length_take, List.length_drop]; omega
theorem numL_get {y : Int} {o : List Lft} {i : Nat} (h : i < o.length) : (numL y o i).getD i default = rawV y (o.getD i default) := by
  unfold numL
  rw [drop_cons' h, List.map_cons, List.getD_eq_getElem?_getD, List.getElem?_append_right (by simp [linG_len]; omega), List.length_map, linG_len, List.length_take, Nat.min_eq_left (by omega), Nat.sub_self]
  rfl
theorem numL_set {y : Int} {o : List Lft} {i : Nat} (h : i < o.length) : (numL y o i).set i (cyV ⟨(i : Int) + 1, 360 * y, (o.getD i default).k, y, (o.getD i default).a⟩) = numL y o (i + 1) := by
  unfold numL
  rw [drop_cons' h, List.map_cons, List.set_append, if_neg (by simp [linG_len]; omega), List.length_map, linG_len, List.length_take, Nat.min_eq_left (by omega), Nat.sub_self, List.set_cons_zero, take_succ' h, linG_append]
  simp [linG, Nat.min_eq_left (Nat.le_of_lt h)]
def planN : Plan := { keep := fun _ => none, cut := fun _ => false, stop := fun i => i == 18 }
noncomputable def rlinS : PSpec := on_pi (fun c _ => isCarK c) (fun c y => linF (caOf c) y)
theorem k_rlinS_34 {args : List PV} : V8 34 args = oneS args := rfl
theorem k_rlinS_36 {args : List PV} : V8 36 args = rCmpS args := rfl
theorem w_rlinS : PSound GG 20 rlinS := by
  refine PSound.of_wpc (C := cxQ Tryz.prog V8 noΘ noΨ [] [] 118) (T := plan0) Tryz.func20 rfl rfl rfl (Fit.all (G := GG) hV8 hnoΘ hnoΨ mixed) (fun args h => ?_)
  unfold rlinS at h
  obtain ⟨c, y, rfl, ⟨ca, bb, cc⟩, rfl, hn, _, _, hop⟩ := on_pi_inv h
  refine ⟨by simp [cxQ], ?_⟩
  simp only at hn hop
  have hcd : (decide (y < 1) || decide (100 < y)) = !amg y 1 100 := by
    rw [Bool.eq_iff_iff]
    simp only [amg, Bool.or_eq_true, decide_eq_true_eq, Bool.not_eq_true', Bool.and_eq_false_iff, decide_eq_false_iff_not]; omega
  simp only [caOf_caV, rlinS, on_pi_eq]
  simp only [hcd, caV, carV, linF, List.length_map, k_rlinS_34, oneS, on_p_eq, k_rlinS_36, rCmpS, on_ss_eq, List.take_succ_cons, List.take_nil, Tryz.underlying1, sz1, by1, ze1, Tryz.underlying2, sz2, by2, ze2, Tryz.underlying3, sz3, by3, ze3, Tryz.underlying4, sz4, by4, ze4, Tryz.underlying9, sz9, by9, ze9, Tryz.underlying23, sz23, by23, ze23, Tryz.underlying24, sz24, by24, ze24, Tryz.underlying26, sz26, by26, ze26, fa26_0, fa26_1, fa26_2, Tryz.underlying37, sz37, by37, ze37, fa37_0, fa37_1, fa37_2, fa37_3, fa37_4, Tryz.underlying40, sz40, by40, ze40, fa40_0, fa40_1, Tryz.underlying42, sz42, by42, ze42, Tryz.underlying50, sz50, by50, ze50, Tryz.underlying80, sz80, by80, ze80, fa80_0, fa80_1, fa80_2, fa80_3, fa80_4, plan0, planN, Nat.reduceBEq, Tryz.f20, argL, go_sem, ↓reduceIte, reduceCtorEq, Nat.reduceEqDiff, Nat.reduceLT, ↓all_qV, Int.reduceToNat, Int.reduceLT, Int.reduceLE, Nat.reduceAdd, Nat.reduceLeDiff, Nat.reduceMul, ev_callG, gcallK_b, gcallK_w, callGc_true, callGc_false, List.forall_mem_cons, List.not_mem_nil, PV.one, AV.one]
  refine ⟨fun h1 => by rw [h1]; rfl, fun h1 => ⟨fun h2 => by rw [h1, h2]; rfl, fun h2 => ?_⟩⟩
  rw [h1, h2]
  simp only [cond_false]
  have hy : 1 ≤ y ∧ y ≤ 100 := by
    rw [Bool.not_eq_false'] at h1
    unfold amg at h1
    simp only [Bool.and_eq_true, decide_eq_true_eq] at h1; omega
  have hn60 : ca.length ≤ 60 := by simp only [decide_eq_false_iff_not] at h2; omega
  clear h1 h2 hcd
  refine AWp.loop (T := plan0) (α := Nat) (fun i => ([(1, .pv (.int .i64 y)), (2, .ptr 2 0), (24, .pv (.sl (ca.map opV))), (25, .pv (.int .i64 ca.length)), (26, .pv (.int .i64 i))], [(2, .cells [.pv (.sl (ca.map opV)), .pv (.sl (bb.map opV)), .pv (.sl (cc.map lfV))])])) (fun i => i ≤ ca.length ∧ ∀ x, x ∈ ca.take i → opB x = true) (fun i => ca.length - i)
    ⟨0, ⟨Nat.zero_le _, fun x hx => by cases hx⟩, ⟨by simp [fitR, look], by simp [fitH, hget], rfl, rfl, rfl⟩⟩ ?_
  rintro i ⟨g1, g2⟩
  have hi1 : IntKind.i64.wrap ((i : Int) + 1) = ((i + 1 : Nat) : Int) := by rw [i64_in _ (by omega)]; omega
  by_cases hlt : i < ca.length
  · have c0 : decide ((i : Int) < (ca.length : Int)) = true := by simp; omega
    have e1 := getD_op hlt
    have hx := mem_getD' hlt
    have hk := hop _ hx
    have htk := take_succ' hlt
    generalize ca.getD i default = x at e1 hk hx htk
    obtain ⟨o, c, k, yx, a⟩ := x
    have iop : isOp (.agg [.int .i64 o, .int .i64 c, .str k, .int .i64 yx, .int .i64 a]) := ⟨⟨o, c, k, yx, a⟩, rfl, hk⟩
    simp only [opV] at e1
    simp only [c0, e1, hi1, opOf_agg, List.length_map, k_rlinS_34, oneS, on_p_eq, k_rlinS_36, rCmpS, on_ss_eq, List.take_succ_cons, List.take_nil, Tryz.underlying1, sz1, by1, ze1, Tryz.underlying2, sz2, by2, ze2, Tryz.underlying3, sz3, by3, ze3, Tryz.underlying4, sz4, by4, ze4, Tryz.underlying9, sz9, by9, ze9, Tryz.underlying23, sz23, by23, ze23, Tryz.underlying24, sz24, by24, ze24, Tryz.underlying26, sz26, by26, ze26, fa26_0, fa26_1, fa26_2, Tryz.underlying37, sz37, by37, ze37, fa37_0, fa37_1, fa37_2, fa37_3, fa37_4, Tryz.underlying40, sz40, by40, ze40, fa40_0, fa40_1, Tryz.underlying42, sz42, by42, ze42, Tryz.underlying50, sz50, by50, ze50, Tryz.underlying80, sz80, by80, ze80, fa80_0, fa80_1, fa80_2, fa80_3, fa80_4, plan0, planN, Nat.reduceBEq, go_sem, ↓reduceIte, reduceCtorEq, Nat.reduceEqDiff, Nat.reduceLT, ↓all_qV, Int.reduceToNat, Int.reduceLT, Int.reduceLE, Nat.reduceAdd, Nat.reduceLeDiff, Nat.reduceMul, ev_callG, gcallK_b, gcallK_w, callGc_true, callGc_false, List.forall_mem_cons, List.not_mem_nil, PV.one, AV.one]
    and_intros
    all_goals try first | (show checkD _ _ _ = true; kernel_rfl) | omega | (intros; omega) | rfl | trivial | assumption
    · intro h9
      have : (ca.map opV).any notO = true := List.any_eq_true.2 ⟨_, List.mem_map.2 ⟨_, hx, rfl⟩, h9⟩
      rw [this]; rfl
    · intro h9
      refine ⟨i + 1, ⟨by omega, fun x hx => ?_⟩, by omega, ⟨by simp [fitR, look], by simp [fitH, hget], rfl, rfl, rfl⟩⟩
      rw [htk] at hx
      rcases List.mem_append.1 hx with hx | hx
      · exact g2 x hx
      · rw [List.mem_singleton] at hx; subst hx; simpa using h9
  have c0 : decide ((i : Int) < (ca.length : Int)) = false := by simp; omega
  rw [List.take_of_length_le (by omega)] at g2
  have hno : (ca.map opV).any notO = false := by
    rw [List.any_eq_false]
    intro e he
    obtain ⟨x, hx, rfl⟩ := List.mem_map.1 he
    simp [notO, opOf_opV, g2 x hx]
  rw [hno, cond_false]
  simp only [c0, List.length_map, k_rlinS_34, oneS, on_p_eq, k_rlinS_36, rCmpS, on_ss_eq, List.take_succ_cons, List.take_nil, Tryz.underlying1, sz1, by1, ze1, Tryz.underlying2, sz2, by2, ze2, Tryz.underlying3, sz3, by3, ze3, Tryz.underlying4, sz4, by4, ze4, Tryz.underlying9, sz9, by9, ze9, Tryz.underlying23, sz23, by23, ze23, Tryz.underlying24, sz24, by24, ze24, Tryz.underlying26, sz26, by26, ze26, fa26_0, fa26_1, fa26_2, Tryz.underlying37, sz37, by37, ze37, fa37_0, fa37_1, fa37_2, fa37_3, fa37_4, Tryz.underlying40, sz40, by40, ze40, fa40_0, fa40_1, Tryz.underlying42, sz42, by42, ze42, Tryz.underlying50, sz50, by50, ze50, Tryz.underlying80, sz80, by80, ze80, fa80_0, fa80_1, fa80_2, fa80_3, fa80_4, plan0, planN, Nat.reduceBEq, go_sem, ↓reduceIte, reduceCtorEq, Nat.reduceEqDiff, Nat.reduceLT, ↓all_qV, Int.reduceToNat, Int.reduceLT, Int.reduceLE, Nat.reduceAdd, Nat.reduceLeDiff, Nat.reduceMul, ev_callG, gcallK_b, gcallK_w, callGc_true, callGc_false, List.forall_mem_cons, List.not_mem_nil, PV.one, AV.one]
  clear hno c0 hi1
  refine AWp.adoptS (s := 8) (κ := 75) (k := 5) (by simp [look, upd]) rfl (by decide) ?_
  have hbn := fun i : Nat => resG_bnd (B := 1000000000000) (by omega) (l := ca.take i) (o := []) (M := 0) (fun x hx => by have := op_amount (g2 x (List.mem_of_mem_take hx)); omega) (by omega) (fun z hz => by cases hz)
  have hiv := fun i : Nat => resG_inv (l := ca.take i) (o := []) (fun x hx => op_parts (g2 x (List.mem_of_mem_take hx))) .nil (fun z hz => by cases hz)
  refine AWp.loop (T := planN) (α := Nat) (fun i => ([(1, .pv (.int .i64 y)), (8, .rs 75 (resG (ca.take i) []).length), (35, .pv (.sl (ca.map opV))), (36, .pv (.int .i64 ca.length)), (37, .pv (.int .i64 i))], [(75, .row 5 ((resG (ca.take i) []).map (rawV y)))])) (fun i => i ≤ ca.length) (fun i => ca.length - i)
    ⟨0, Nat.zero_le _, ⟨by simp [fitR, look, upd, resG], by simp [fitH, hget, hset, resG], rfl, rfl, rfl⟩⟩ ?_
  intro i hi
  have hi1 : IntKind.i64.wrap ((i : Int) + 1) = ((i + 1 : Nat) : Int) := by rw [i64_in _ (by omega)]; omega
  obtain ⟨b1, b2⟩ := hbn i
  obtain ⟨v1, v2, _⟩ := hiv i
  rw [List.length_take, Nat.min_eq_left hi] at b1 b2
  simp only [List.length_nil, Nat.zero_add] at b1
  by_cases hlt : i < ca.length
  · have c0 : decide ((i : Int) < (ca.length : Int)) = true := by simp; omega
    have e1 := getD_op hlt
    have hx := g2 _ (mem_getD' hlt)
    have hkl := hop _ (mem_getD' hlt)
    have hst : resG (ca.take (i + 1)) [] = insA (ca.getD i default).k (ca.getD i default).a (resG (ca.take i) []) := by
      rw [take_succ' hlt]; unfold resG; rw [List.foldl_append]; rfl
    generalize resG (ca.take i) [] = o at b1 b2 v1 v2 hst ⊢
    generalize ca.getD i default = x at e1 hx hst hkl
    have hax := op_amount hx
    have hkv := op_parts hx
    obtain ⟨of, c, k, yx, a⟩ := x
    simp only at hax hkv hst hkl
    simp only [opV] at e1
    simp only [c0, e1, List.length_map, k_rlinS_34, oneS, on_p_eq, k_rlinS_36, rCmpS, on_ss_eq, List.take_succ_cons, List.take_nil, Tryz.underlying1, sz1, by1, ze1, Tryz.underlying2, sz2, by2, ze2, Tryz.underlying3, sz3, by3, ze3, Tryz.underlying4, sz4, by4, ze4, Tryz.underlying9, sz9, by9, ze9, Tryz.underlying23, sz23, by23, ze23, Tryz.underlying24, sz24, by24, ze24, Tryz.underlying26, sz26, by26, ze26, fa26_0, fa26_1, fa26_2, Tryz.underlying37, sz37, by37, ze37, fa37_0, fa37_1, fa37_2, fa37_3, fa37_4, Tryz.underlying40, sz40, by40, ze40, fa40_0, fa40_1, Tryz.underlying42, sz42, by42, ze42, Tryz.underlying50, sz50, by50, ze50, Tryz.underlying80, sz80, by80, ze80, fa80_0, fa80_1, fa80_2, fa80_3, fa80_4, plan0, planN, Nat.reduceBEq, go_sem, ↓reduceIte, reduceCtorEq, Nat.reduceEqDiff, Nat.reduceLT, ↓all_qV, Int.reduceToNat, Int.reduceLT, Int.reduceLE, Nat.reduceAdd, Nat.reduceLeDiff, Nat.reduceMul, ev_callG, gcallK_b, gcallK_w, callGc_true, callGc_false, List.forall_mem_cons, List.not_mem_nil, PV.one, AV.one]
    refine ⟨⟨by omega, by omega⟩, ?_⟩
    refine AWp.loop (T := planN) (α := Nat) (fun j => ([(1, .pv (.int .i64 y)), (8, .rs 75 o.length), (10, .ptr 10 0), (11, .pv (.int .i64 j)), (35, .pv (.sl (ca.map opV))), (36, .pv (.int .i64 ca.length)), (37, .pv (.int .i64 i))], [(10, .cells [.pv (.int .i64 of), .pv (.int .i64 c), .pv (.str k), .pv (.int .i64 yx), .pv (.int .i64 a)]), (75, .row 5 (o.map (rawV y)))]))
      (fun j => j ≤ o.length ∧ ∀ z, z ∈ o.take j → lk z.k k < 0) (fun j => o.length - j)
      ⟨0, ⟨Nat.zero_le _, fun z hz => by cases hz⟩, ⟨by simp [fitR, look], by simp [fitH, hget], rfl, rfl, rfl⟩⟩ ?_
    rintro j ⟨j1, j2⟩
    have hj1 : IntKind.i64.wrap ((j : Int) + 1) = ((j + 1 : Nat) : Int) := by rw [i64_in _ (by omega)]; omega
    have w36 : IntKind.i64.wrap (360 * y) = 360 * y := i64_in _ (by omega)
    have hRl : (o.map (rawV y)).length = o.length := List.length_map _
    have hps := insA_pass (k := k) (a := a) (t := o.drop j) j2
    rw [List.take_append_drop] at hps
    rw [hps] at hst
    by_cases hjt : j < o.length
    · have q0 : decide ((j : Int) < (o.length : Int)) = true := by simp; omega
      have e2 := getD_raw (y := y) hjt
      have hzv := v2 _ (mem_getD' hjt)
      have hzb := b2 _ (mem_getD' hjt)
      have htk := take_succ' hjt
      have hdj := drop_cons' hjt
      rw [hdj] at hst
      generalize o.getD j default = z at e2 hzv hzb hst htk hdj
      obtain ⟨kz, az⟩ := z
      simp only at hzv hzb
      have hcm : cmpF kz k = lk kz k := by rw [cmpF_C, cmpC_L hzv]; rfl
      simp only [rawV, cyV] at e2
      simp only [insA] at hst
      have hzl := valK_len hzv
      have q1 : ((j : Int) == (o.length : Int)) = false := by simp; omega
      simp only [q0, q1, e2, hj1, hcm, hRl, List.length_map, k_rlinS_34, oneS, on_p_eq, k_rlinS_36, rCmpS, on_ss_eq, List.take_succ_cons, List.take_nil, Tryz.underlying1, sz1, by1, ze1, Tryz.underlying2, sz2, by2, ze2, Tryz.underlying3, sz3, by3, ze3, Tryz.underlying4, sz4, by4, ze4, Tryz.underlying9, sz9, by9, ze9, Tryz.underlying23, sz23, by23, ze23, Tryz.underlying24, sz24, by24, ze24, Tryz.underlying26, sz26, by26, ze26, fa26_0, fa26_1, fa26_2, Tryz.underlying37, sz37, by37, ze37, fa37_0, fa37_1, fa37_2, fa37_3, fa37_4, Tryz.underlying40, sz40, by40, ze40, fa40_0, fa40_1, Tryz.underlying42, sz42, by42, ze42, Tryz.underlying50, sz50, by50, ze50, Tryz.underlying80, sz80, by80, ze80, fa80_0, fa80_1, fa80_2, fa80_3, fa80_4, plan0, planN, Nat.reduceBEq, go_sem, ↓reduceIte, reduceCtorEq, Nat.reduceEqDiff, Nat.reduceLT, ↓all_qV, Int.reduceToNat, Int.reduceLT, Int.reduceLE, Nat.reduceAdd, Nat.reduceLeDiff, Nat.reduceMul, ev_callG, gcallK_b, gcallK_w, callGc_true, callGc_false, List.forall_mem_cons, List.not_mem_nil, PV.one, AV.one]
      refine ⟨by kernel_rfl, ⟨by omega, by omega⟩, by omega, ⟨by omega, by omega⟩, fun h9 => ⟨j + 1, ⟨by omega, fun z hz => ?_⟩, by omega, ⟨by simp [fitR, look], by simp [fitH, hget], rfl, rfl, rfl⟩⟩, fun h9 => ?_⟩
      · rw [htk] at hz
        rcases List.mem_append.1 hz with hz | hz
        · exact j2 z hz
        · rw [List.mem_singleton] at hz; subst hz; exact of_decide_eq_true h9
      rw [if_neg (of_decide_eq_false h9)] at hst
      by_cases hkk : kz = k
      · subst hkk
        rw [if_pos rfl] at hst
        have hkb : (kz == kz) = true := by simp
        have w5 : IntKind.i64.wrap (az + a) = az + a := i64_in _ (by omega)
        refine AWp.seqc (T := plan0) ?_
        simp only [q1, e2, hRl, List.length_map, k_rlinS_34, oneS, on_p_eq, k_rlinS_36, rCmpS, on_ss_eq, List.take_succ_cons, List.take_nil, Tryz.underlying1, sz1, by1, ze1, Tryz.underlying2, sz2, by2, ze2, Tryz.underlying3, sz3, by3, ze3, Tryz.underlying4, sz4, by4, ze4, Tryz.underlying9, sz9, by9, ze9, Tryz.underlying23, sz23, by23, ze23, Tryz.underlying24, sz24, by24, ze24, Tryz.underlying26, sz26, by26, ze26, fa26_0, fa26_1, fa26_2, Tryz.underlying37, sz37, by37, ze37, fa37_0, fa37_1, fa37_2, fa37_3, fa37_4, Tryz.underlying40, sz40, by40, ze40, fa40_0, fa40_1, Tryz.underlying42, sz42, by42, ze42, Tryz.underlying50, sz50, by50, ze50, Tryz.underlying80, sz80, by80, ze80, fa80_0, fa80_1, fa80_2, fa80_3, fa80_4, plan0, planN, Nat.reduceBEq, go_sem, ↓reduceIte, reduceCtorEq, Nat.reduceEqDiff, Nat.reduceLT, ↓all_qV, Int.reduceToNat, Int.reduceLT, Int.reduceLE, Nat.reduceAdd, Nat.reduceLeDiff, Nat.reduceMul, ev_callG, gcallK_b, gcallK_w, callGc_true, callGc_false, List.forall_mem_cons, List.not_mem_nil, PV.one, AV.one]
        refine ⟨by kernel_rfl, ⟨by omega, by omega⟩, by omega, ?_⟩
        refine AWp.condc (t := false) rfl (fun h2 => by cases h2) (fun _ => ?_)
        refine AWp.skipc ?_
        simp only [e2, w5, hi1, hRl, boxP, putP, List.length_map, k_rlinS_34, oneS, on_p_eq, k_rlinS_36, rCmpS, on_ss_eq, List.take_succ_cons, List.take_nil, Tryz.underlying1, sz1, by1, ze1, Tryz.underlying2, sz2, by2, ze2, Tryz.underlying3, sz3, by3, ze3, Tryz.underlying4, sz4, by4, ze4, Tryz.underlying9, sz9, by9, ze9, Tryz.underlying23, sz23, by23, ze23, Tryz.underlying24, sz24, by24, ze24, Tryz.underlying26, sz26, by26, ze26, fa26_0, fa26_1, fa26_2, Tryz.underlying37, sz37, by37, ze37, fa37_0, fa37_1, fa37_2, fa37_3, fa37_4, Tryz.underlying40, sz40, by40, ze40, fa40_0, fa40_1, Tryz.underlying42, sz42, by42, ze42, Tryz.underlying50, sz50, by50, ze50, Tryz.underlying80, sz80, by80, ze80, fa80_0, fa80_1, fa80_2, fa80_3, fa80_4, plan0, planN, Nat.reduceBEq, go_sem, ↓reduceIte, reduceCtorEq, Nat.reduceEqDiff, Nat.reduceLT, ↓all_qV, Int.reduceToNat, Int.reduceLT, Int.reduceLE, Nat.reduceAdd, Nat.reduceLeDiff, Nat.reduceMul, ev_callG, gcallK_b, gcallK_w, callGc_true, callGc_false, List.forall_mem_cons, List.not_mem_nil, PV.one, AV.one]
        have hls : (resG (ca.take (i + 1)) []).length = o.length := by rw [hst]; simp; omega
        refine ⟨by kernel_rfl, ⟨by omega, by omega⟩, by omega, ⟨by omega, by omega⟩, by omega, i + 1, by omega, by omega, ⟨by simp [fitR, look, hls], ?_, rfl, rfl, rfl⟩⟩
        rw [hst, List.set_eq_take_append_cons_drop, if_pos (by rw [hRl]; exact hjt)]
        simp [fitH, hget, rawV, cyV]
      have hkb : (kz == k) = false := by simpa using hkk
      refine AWp.freeze (T := planN) 75 5 (α := Unit) (fun _ => o.map (rawV y)) (fun _ => ([(1, .pv (.int .i64 y)), (8, .pv (.sl (o.map (rawV y)))), (10, .ptr 10 0), (11, .pv (.int .i64 j)), (35, .pv (.sl (ca.map opV))), (36, .pv (.int .i64 ca.length)), (37, .pv (.int .i64 i))], [(10, .cells [.pv (.int .i64 of), .pv (.int .i64 c), .pv (.str k), .pv (.int .i64 yx), .pv (.int .i64 a)])])) (fun _ => True) ⟨(), trivial, ⟨by simp [hget], rfl, ?_, ⟨by simp [hget], trivial⟩, rfl, rfl, rfl⟩⟩ ?_
      · refine ⟨.inl (by simp [look]), .inr ⟨o.length, by simp [look], by simp, by rw [List.take_of_length_le (by simp)]⟩, .inl (by simp [look]), .inl (by simp [look]), .inl (by simp [look]), .inl (by simp [look]), .inl (by simp [look]), trivial⟩
      rintro _ _
      simp only [Nat.reduceBEq, planN, go_sem, ↓reduceIte, reduceCtorEq, Nat.reduceEqDiff, Nat.reduceLT, ↓all_qV, Int.reduceToNat, Int.reduceLT, Int.reduceLE, Nat.reduceAdd, Nat.reduceLeDiff, Nat.reduceMul, ev_callG, gcallK_b, gcallK_w, callGc_true, callGc_false, List.forall_mem_cons, List.not_mem_nil, PV.one, AV.one]
      refine AWp.seqc (T := plan0) ?_
      simp only [q1, e2, hRl, List.length_map, k_rlinS_34, oneS, on_p_eq, k_rlinS_36, rCmpS, on_ss_eq, List.take_succ_cons, List.take_nil, Tryz.underlying1, sz1, by1, ze1, Tryz.underlying2, sz2, by2, ze2, Tryz.underlying3, sz3, by3, ze3, Tryz.underlying4, sz4, by4, ze4, Tryz.underlying9, sz9, by9, ze9, Tryz.underlying23, sz23, by23, ze23, Tryz.underlying24, sz24, by24, ze24, Tryz.underlying26, sz26, by26, ze26, fa26_0, fa26_1, fa26_2, Tryz.underlying37, sz37, by37, ze37, fa37_0, fa37_1, fa37_2, fa37_3, fa37_4, Tryz.underlying40, sz40, by40, ze40, fa40_0, fa40_1, Tryz.underlying42, sz42, by42, ze42, Tryz.underlying50, sz50, by50, ze50, Tryz.underlying80, sz80, by80, ze80, fa80_0, fa80_1, fa80_2, fa80_3, fa80_4, plan0, planN, Nat.reduceBEq, go_sem, ↓reduceIte, reduceCtorEq, Nat.reduceEqDiff, Nat.reduceLT, ↓all_qV, Int.reduceToNat, Int.reduceLT, Int.reduceLE, Nat.reduceAdd, Nat.reduceLeDiff, Nat.reduceMul, ev_callG, gcallK_b, gcallK_w, callGc_true, callGc_false, List.forall_mem_cons, List.not_mem_nil, PV.one, AV.one]
      refine ⟨by kernel_rfl, ⟨by omega, by omega⟩, ?_⟩
      refine AWp.condc (t := !kz == k) rfl (fun _ => ?_) (fun h2 => by rw [hkb] at h2; cases h2)
      · rw [if_neg hkk, ← hdj] at hst
        have hin := hst
        have hls : (resG (ca.take (i + 1)) []).length = j + 1 + (o.length - j) := by rw [hin]; simp; omega
        refine AWp.perm0 [0, 1, 2, 4, 5, 6, 7, 8, 9, 10, 3, 11, 12, 13, 14, 15, 16] (by kernel_rfl) rfl ?_
        obtain ⟨A, hA⟩ : ∃ A, (o.take j).map (rawV y) = A := ⟨_, rfl⟩
        obtain ⟨D, hD⟩ : ∃ D, (o.drop j).map (rawV y) = D := ⟨_, rfl⟩
        have hA1 : (o.map (rawV y)).take j = A := by rw [← hA]; exact (List.map_take ..).symm
        have hD1 : (o.map (rawV y)).drop j = D := by rw [← hD]; exact (List.map_drop ..).symm
        have hAl : A.length = j := by rw [← hA, List.length_map, List.length_take]; omega
        have hDl : D.length = o.length - j := by rw [← hD, List.length_map, List.length_drop]
        have tA : A.take j = A := List.take_of_length_le (by omega)
        have tO : (o.map (rawV y)).take o.length = o.map (rawV y) := List.take_of_length_le (by simp)
        have tB : ∀ z : PV, (A ++ [z]).take (j + 1) = A ++ [z] := fun z => List.take_of_length_le (by simp; omega)
        have lB : ∀ z : PV, (A ++ [z]).length = j + 1 := fun z => by simp; omega
        have lC : ∀ z : PV, (A ++ [z] ++ D).length = o.length + 1 := fun z => by simp; omega
        have gC : ∀ z : PV, (A ++ [z] ++ D).getD j default = z := fun z => by
          rw [List.append_assoc, List.getD_eq_getElem?_getD, List.getElem?_append_right (by omega), hAl, Nat.sub_self]; rfl
        have sC : ∀ z v : PV, (A ++ [z] ++ D).set j v = A ++ [v] ++ D := fun z v => by
          rw [List.append_assoc, List.set_append, if_neg (by omega), hAl, Nat.sub_self, List.append_assoc]; rfl
        have hwo : ∀ e, e ∈ o.map (rawV y) → 5 = e.cells.length := fun e he => by obtain ⟨z, _, rfl⟩ := List.mem_map.1 he; rfl
        have hwA : ∀ e, e ∈ A → e.cells.length = 5 := fun e he => (hwo e (by rw [← hA1] at he; exact List.mem_of_mem_take he)).symm
        have hwD : ∀ e, e ∈ D → e.cells.length = 5 := fun e he => (hwo e (by rw [← hD1] at he; exact List.mem_of_mem_drop he)).symm
        have w0 : IntKind.i64.wrap (0 + a) = a := by rw [Int.zero_add]; exact i64_in _ (by omega)
        simp only [opsOf, List.filterMap_cons, List.filterMap_nil, List.getElem?_toArray, List.getElem?_cons_succ, List.getElem?_cons_zero, hi1, w36, w0, hRl, tO, hA1, hD1, hAl, hDl, tA, tB, lB, lC, gC, sC, boxP, putP, List.length_map, k_rlinS_34, oneS, on_p_eq, k_rlinS_36, rCmpS, on_ss_eq, List.take_succ_cons, List.take_nil, Tryz.underlying1, sz1, by1, ze1, Tryz.underlying2, sz2, by2, ze2, Tryz.underlying3, sz3, by3, ze3, Tryz.underlying4, sz4, by4, ze4, Tryz.underlying9, sz9, by9, ze9, Tryz.underlying23, sz23, by23, ze23, Tryz.underlying24, sz24, by24, ze24, Tryz.underlying26, sz26, by26, ze26, fa26_0, fa26_1, fa26_2, Tryz.underlying37, sz37, by37, ze37, fa37_0, fa37_1, fa37_2, fa37_3, fa37_4, Tryz.underlying40, sz40, by40, ze40, fa40_0, fa40_1, Tryz.underlying42, sz42, by42, ze42, Tryz.underlying50, sz50, by50, ze50, Tryz.underlying80, sz80, by80, ze80, fa80_0, fa80_1, fa80_2, fa80_3, fa80_4, plan0, planN, Nat.reduceBEq, go_sem, ↓reduceIte, reduceCtorEq, Nat.reduceEqDiff, Nat.reduceLT, ↓all_qV, Int.reduceToNat, Int.reduceLT, Int.reduceLE, Nat.reduceAdd, Nat.reduceLeDiff, Nat.reduceMul, ev_callG, gcallK_b, gcallK_w, callGc_true, callGc_false, List.forall_mem_cons, List.not_mem_nil, PV.one, AV.one]
        refine ⟨⟨by omega, by omega, hwo⟩, rfl, hwA, by omega, by simp only [maxLen]; omega, rfl, Nat.le_refl _, by omega, by simp only [maxLen]; omega, ⟨by omega, by omega, hwo⟩, rfl, hwD, Nat.le_refl _, by omega, by simp only [maxLen]; omega, by kernel_rfl, ⟨by omega, by omega⟩, by omega, ⟨by omega, by omega⟩, by omega, i + 1, by omega, by omega, ⟨by simp [fitR, look, hls], ?_, rfl, rfl, rfl⟩⟩
        rw [hin]
        simp [fitH, hget, ← hA, ← hD, rawV, cyV]
    · have q0 : decide ((j : Int) < (o.length : Int)) = false := by simp; omega
      have hjo : j = o.length := by omega
      rw [List.drop_of_length_le (l := o) (i := j) (by omega), List.take_of_length_le (l := o) (i := j) (by omega)] at hst
      have q1 : ((j : Int) == (o.length : Int)) = true := by simp; omega
      have e2 : (o.map (rawV y)).getD j default = .bool false := by
        rw [List.getD_eq_getElem?_getD, List.getElem?_eq_none (by rw [hRl]; omega)]; rfl
      have hbad : ∀ (p : List UInt8 → List UInt8 → Prop) (f : List UInt8 → List UInt8 → PV), on_ss p f [.bool false, .str k] = (False, .bool false) := fun p f => rfl
      have hz1 : (binT Tryz.prog .lss 3 true (.pv (.bool false)) (.pv (.int .i64 0))).2 = .pv (.bool false) := rfl
      have hz2 : (binT Tryz.prog .neq 9 false (.pv (.bool false)) (.pv (.str k))).2 = .pv (.bool true) := rfl
      have hdef : (default : PV) = .bool false := rfl
      rw [hdef] at e2
      simp only [q0, q1, e2, hbad, hz1, hz2, hdef, callV_eq, List.getD_cons_succ, List.getD_nil, List.length_map, k_rlinS_34, oneS, on_p_eq, k_rlinS_36, rCmpS, on_ss_eq, List.take_succ_cons, List.take_nil, Tryz.underlying1, sz1, by1, ze1, Tryz.underlying2, sz2, by2, ze2, Tryz.underlying3, sz3, by3, ze3, Tryz.underlying4, sz4, by4, ze4, Tryz.underlying9, sz9, by9, ze9, Tryz.underlying23, sz23, by23, ze23, Tryz.underlying24, sz24, by24, ze24, Tryz.underlying26, sz26, by26, ze26, fa26_0, fa26_1, fa26_2, Tryz.underlying37, sz37, by37, ze37, fa37_0, fa37_1, fa37_2, fa37_3, fa37_4, Tryz.underlying40, sz40, by40, ze40, fa40_0, fa40_1, Tryz.underlying42, sz42, by42, ze42, Tryz.underlying50, sz50, by50, ze50, Tryz.underlying80, sz80, by80, ze80, fa80_0, fa80_1, fa80_2, fa80_3, fa80_4, plan0, planN, Nat.reduceBEq, go_sem, ↓reduceIte, reduceCtorEq, Nat.reduceEqDiff, Nat.reduceLT, ↓all_qV, Int.reduceToNat, Int.reduceLT, Int.reduceLE, Nat.reduceAdd, Nat.reduceLeDiff, Nat.reduceMul, ev_callG, gcallK_b, gcallK_w, callGc_true, callGc_false, List.forall_mem_cons, List.not_mem_nil, PV.one, AV.one]
      refine ⟨by kernel_rfl, ?_⟩
      refine AWp.freeze (T := planN) 75 5 (α := Unit) (fun _ => o.map (rawV y)) (fun _ => ([(1, .pv (.int .i64 y)), (8, .pv (.sl (o.map (rawV y)))), (10, .ptr 10 0), (11, .pv (.int .i64 j)), (35, .pv (.sl (ca.map opV))), (36, .pv (.int .i64 ca.length)), (37, .pv (.int .i64 i))], [(10, .cells [.pv (.int .i64 of), .pv (.int .i64 c), .pv (.str k), .pv (.int .i64 yx), .pv (.int .i64 a)])])) (fun _ => True) ⟨(), trivial, ⟨by simp [hget], rfl, ?_, ⟨by simp [hget], trivial⟩, rfl, rfl, rfl⟩⟩ ?_
      · refine ⟨.inl (by simp [look]), .inr ⟨o.length, by simp [look], by simp, by rw [List.take_of_length_le (by simp)]⟩, .inl (by simp [look]), .inl (by simp [look]), .inl (by simp [look]), .inl (by simp [look]), .inl (by simp [look]), trivial⟩
      rintro _ _
      simp only [Nat.reduceBEq, planN, go_sem, ↓reduceIte, reduceCtorEq, Nat.reduceEqDiff, Nat.reduceLT, ↓all_qV, Int.reduceToNat, Int.reduceLT, Int.reduceLE, Nat.reduceAdd, Nat.reduceLeDiff, Nat.reduceMul, ev_callG, gcallK_b, gcallK_w, callGc_true, callGc_false, List.forall_mem_cons, List.not_mem_nil, PV.one, AV.one]
      refine AWp.seqc (T := plan0) ?_
      simp only [q1, e2, hz2, hdef, hRl, List.getD_cons_succ, List.getD_nil, List.length_map, k_rlinS_34, oneS, on_p_eq, k_rlinS_36, rCmpS, on_ss_eq, List.take_succ_cons, List.take_nil, Tryz.underlying1, sz1, by1, ze1, Tryz.underlying2, sz2, by2, ze2, Tryz.underlying3, sz3, by3, ze3, Tryz.underlying4, sz4, by4, ze4, Tryz.underlying9, sz9, by9, ze9, Tryz.underlying23, sz23, by23, ze23, Tryz.underlying24, sz24, by24, ze24, Tryz.underlying26, sz26, by26, ze26, fa26_0, fa26_1, fa26_2, Tryz.underlying37, sz37, by37, ze37, fa37_0, fa37_1, fa37_2, fa37_3, fa37_4, Tryz.underlying40, sz40, by40, ze40, fa40_0, fa40_1, Tryz.underlying42, sz42, by42, ze42, Tryz.underlying50, sz50, by50, ze50, Tryz.underlying80, sz80, by80, ze80, fa80_0, fa80_1, fa80_2, fa80_3, fa80_4, plan0, planN, Nat.reduceBEq, go_sem, ↓reduceIte, reduceCtorEq, Nat.reduceEqDiff, Nat.reduceLT, ↓all_qV, Int.reduceToNat, Int.reduceLT, Int.reduceLE, Nat.reduceAdd, Nat.reduceLeDiff, Nat.reduceMul, ev_callG, gcallK_b, gcallK_w, callGc_true, callGc_false, List.forall_mem_cons, List.not_mem_nil, PV.one, AV.one]
      refine ⟨by kernel_rfl, ?_⟩
      refine AWp.condc (t := true) rfl (fun _ => ?_) (fun h2 => by cases h2)
      · have hin : resG (ca.take (i + 1)) [] = o.take j ++ ⟨k, a⟩ :: o.drop j := by
          rw [hst, List.drop_of_length_le (l := o) (i := j) (by omega), List.take_of_length_le (l := o) (i := j) (by omega)]; rfl
        have hls : (resG (ca.take (i + 1)) []).length = j + 1 + (o.length - j) := by rw [hin]; simp; omega
        refine AWp.perm0 [0, 1, 2, 4, 5, 6, 7, 8, 9, 10, 3, 11, 12, 13, 14, 15, 16] (by kernel_rfl) rfl ?_
        obtain ⟨A, hA⟩ : ∃ A, (o.take j).map (rawV y) = A := ⟨_, rfl⟩
        obtain ⟨D, hD⟩ : ∃ D, (o.drop j).map (rawV y) = D := ⟨_, rfl⟩
        have hA1 : (o.map (rawV y)).take j = A := by rw [← hA]; exact (List.map_take ..).symm
        have hD1 : (o.map (rawV y)).drop j = D := by rw [← hD]; exact (List.map_drop ..).symm
        have hAl : A.length = j := by rw [← hA, List.length_map, List.length_take]; omega
        have hDl : D.length = o.length - j := by rw [← hD, List.length_map, List.length_drop]
        have tA : A.take j = A := List.take_of_length_le (by omega)
        have tO : (o.map (rawV y)).take o.length = o.map (rawV y) := List.take_of_length_le (by simp)
        have tB : ∀ z : PV, (A ++ [z]).take (j + 1) = A ++ [z] := fun z => List.take_of_length_le (by simp; omega)
        have lB : ∀ z : PV, (A ++ [z]).length = j + 1 := fun z => by simp; omega
        have lC : ∀ z : PV, (A ++ [z] ++ D).length = o.length + 1 := fun z => by simp; omega
        have gC : ∀ z : PV, (A ++ [z] ++ D).getD j default = z := fun z => by
          rw [List.append_assoc, List.getD_eq_getElem?_getD, List.getElem?_append_right (by omega), hAl, Nat.sub_self]; rfl
        have sC : ∀ z v : PV, (A ++ [z] ++ D).set j v = A ++ [v] ++ D := fun z v => by
          rw [List.append_assoc, List.set_append, if_neg (by omega), hAl, Nat.sub_self, List.append_assoc]; rfl
        have hwo : ∀ e, e ∈ o.map (rawV y) → 5 = e.cells.length := fun e he => by obtain ⟨z, _, rfl⟩ := List.mem_map.1 he; rfl
        have hwA : ∀ e, e ∈ A → e.cells.length = 5 := fun e he => (hwo e (by rw [← hA1] at he; exact List.mem_of_mem_take he)).symm
        have hwD : ∀ e, e ∈ D → e.cells.length = 5 := fun e he => (hwo e (by rw [← hD1] at he; exact List.mem_of_mem_drop he)).symm
        have w0 : IntKind.i64.wrap (0 + a) = a := by rw [Int.zero_add]; exact i64_in _ (by omega)
        simp only [opsOf, List.filterMap_cons, List.filterMap_nil, List.getElem?_toArray, List.getElem?_cons_succ, List.getElem?_cons_zero, hi1, w36, w0, hRl, tO, hA1, hD1, hAl, hDl, tA, tB, lB, lC, gC, sC, boxP, putP, List.length_map, k_rlinS_34, oneS, on_p_eq, k_rlinS_36, rCmpS, on_ss_eq, List.take_succ_cons, List.take_nil, Tryz.underlying1, sz1, by1, ze1, Tryz.underlying2, sz2, by2, ze2, Tryz.underlying3, sz3, by3, ze3, Tryz.underlying4, sz4, by4, ze4, Tryz.underlying9, sz9, by9, ze9, Tryz.underlying23, sz23, by23, ze23, Tryz.underlying24, sz24, by24, ze24, Tryz.underlying26, sz26, by26, ze26, fa26_0, fa26_1, fa26_2, Tryz.underlying37, sz37, by37, ze37, fa37_0, fa37_1, fa37_2, fa37_3, fa37_4, Tryz.underlying40, sz40, by40, ze40, fa40_0, fa40_1, Tryz.underlying42, sz42, by42, ze42, Tryz.underlying50, sz50, by50, ze50, Tryz.underlying80, sz80, by80, ze80, fa80_0, fa80_1, fa80_2, fa80_3, fa80_4, plan0, planN, Nat.reduceBEq, go_sem, ↓reduceIte, reduceCtorEq, Nat.reduceEqDiff, Nat.reduceLT, ↓all_qV, Int.reduceToNat, Int.reduceLT, Int.reduceLE, Nat.reduceAdd, Nat.reduceLeDiff, Nat.reduceMul, ev_callG, gcallK_b, gcallK_w, callGc_true, callGc_false, List.forall_mem_cons, List.not_mem_nil, PV.one, AV.one]
        refine ⟨⟨by omega, by omega, hwo⟩, rfl, hwA, by omega, by simp only [maxLen]; omega, rfl, Nat.le_refl _, by omega, by simp only [maxLen]; omega, ⟨by omega, by omega, hwo⟩, rfl, hwD, Nat.le_refl _, by omega, by simp only [maxLen]; omega, by kernel_rfl, ⟨by omega, by omega⟩, by omega, ⟨by omega, by omega⟩, by omega, i + 1, by omega, by omega, ⟨by simp [fitR, look, hls], ?_, rfl, rfl, rfl⟩⟩
        rw [hin]
        simp [fitH, hget, ← hA, ← hD, rawV, cyV]
  · have c0 : decide ((i : Int) < (ca.length : Int)) = false := by simp; omega
    rw [List.take_of_length_le (by omega)] at b1 b2 v1 v2 ⊢
    have hres : resA ca = resG ca [] := rfl
    rw [hres, linG_any]
    generalize resG ca [] = o at b1 b2 v1 v2 ⊢
    have hRl : (o.map (rawV y)).length = o.length := List.length_map _
    simp only [c0, hRl, List.length_map, k_rlinS_34, oneS, on_p_eq, k_rlinS_36, rCmpS, on_ss_eq, List.take_succ_cons, List.take_nil, Tryz.underlying1, sz1, by1, ze1, Tryz.underlying2, sz2, by2, ze2, Tryz.underlying3, sz3, by3, ze3, Tryz.underlying4, sz4, by4, ze4, Tryz.underlying9, sz9, by9, ze9, Tryz.underlying23, sz23, by23, ze23, Tryz.underlying24, sz24, by24, ze24, Tryz.underlying26, sz26, by26, ze26, fa26_0, fa26_1, fa26_2, Tryz.underlying37, sz37, by37, ze37, fa37_0, fa37_1, fa37_2, fa37_3, fa37_4, Tryz.underlying40, sz40, by40, ze40, fa40_0, fa40_1, Tryz.underlying42, sz42, by42, ze42, Tryz.underlying50, sz50, by50, ze50, Tryz.underlying80, sz80, by80, ze80, fa80_0, fa80_1, fa80_2, fa80_3, fa80_4, plan0, planN, Nat.reduceBEq, go_sem, ↓reduceIte, reduceCtorEq, Nat.reduceEqDiff, Nat.reduceLT, ↓all_qV, Int.reduceToNat, Int.reduceLT, Int.reduceLE, Nat.reduceAdd, Nat.reduceLeDiff, Nat.reduceMul, ev_callG, gcallK_b, gcallK_w, callGc_true, callGc_false, List.forall_mem_cons, List.not_mem_nil, PV.one, AV.one]
    clear hres hi1 hlt c0
    refine AWp.loop (T := plan0) (α := Nat) (fun n => ([(8, .rs 75 o.length), (100, .pv (.int .i64 o.length)), (101, .pv (.int .i64 n))], [(75, .row 5 (numL y o n))])) (fun n => n ≤ o.length ∧ ∀ z, z ∈ o.take n → z.a ≤ 1000000000000) (fun n => o.length - n)
      ⟨0, ⟨Nat.zero_le _, fun z hz => by cases hz⟩, ⟨by simp [fitR, look], by simp [fitH, hget, numL_zero], rfl, rfl, rfl⟩⟩ ?_
    rintro n ⟨n1, n2⟩
    have hn1 : IntKind.i64.wrap ((n : Int) + 1) = ((n + 1 : Nat) : Int) := by rw [i64_in _ (by omega)]; omega
    by_cases hnt : n < o.length
    · have q0 : decide ((n : Int) < (o.length : Int)) = true := by simp; omega
      have e1 := numL_get (y := y) hnt
      have e3 := numL_set (y := y) hnt
      have hzm := mem_getD' hnt
      have hzb := b2 _ hzm
      have htk := take_succ' hnt
      have hnl := numL_len y o n
      generalize o.getD n default = z at e1 e3 hzm hzb htk
      obtain ⟨kz, az⟩ := z
      rw [show (n : Int) + 1 = ((n + 1 : Nat) : Int) by omega] at e3
      simp only [rawV, cyV] at e1 e3
      simp only at hzb
      generalize numL y o n = R at e1 e3 hnl ⊢
      have e5 : ∀ v : PV, (R.set n v).getD n default = v := fun v => by rw [List.getD_eq_getElem?_getD, List.getElem?_set_self (by omega)]; rfl
      simp only [q0, e1, e5, hn1, boxP, putP, List.length_set, List.length_map, k_rlinS_34, oneS, on_p_eq, k_rlinS_36, rCmpS, on_ss_eq, List.take_succ_cons, List.take_nil, Tryz.underlying1, sz1, by1, ze1, Tryz.underlying2, sz2, by2, ze2, Tryz.underlying3, sz3, by3, ze3, Tryz.underlying4, sz4, by4, ze4, Tryz.underlying9, sz9, by9, ze9, Tryz.underlying23, sz23, by23, ze23, Tryz.underlying24, sz24, by24, ze24, Tryz.underlying26, sz26, by26, ze26, fa26_0, fa26_1, fa26_2, Tryz.underlying37, sz37, by37, ze37, fa37_0, fa37_1, fa37_2, fa37_3, fa37_4, Tryz.underlying40, sz40, by40, ze40, fa40_0, fa40_1, Tryz.underlying42, sz42, by42, ze42, Tryz.underlying50, sz50, by50, ze50, Tryz.underlying80, sz80, by80, ze80, fa80_0, fa80_1, fa80_2, fa80_3, fa80_4, plan0, planN, Nat.reduceBEq, go_sem, ↓reduceIte, reduceCtorEq, Nat.reduceEqDiff, Nat.reduceLT, ↓all_qV, Int.reduceToNat, Int.reduceLT, Int.reduceLE, Nat.reduceAdd, Nat.reduceLeDiff, Nat.reduceMul, ev_callG, gcallK_b, gcallK_w, callGc_true, callGc_false, List.forall_mem_cons, List.not_mem_nil, PV.one, AV.one]
      and_intros
      all_goals try first | (show checkD _ _ _ = true; kernel_rfl) | omega | (intros; omega) | rfl | trivial | assumption
      · intro h9
        have h9 := of_decide_eq_true h9
        have : (o.any fun z => !vldM z.a) = true := List.any_eq_true.2 ⟨_, hzm, by simp only [vldM, Bool.not_eq_true', Bool.and_eq_false_iff, decide_eq_false_iff_not]; omega⟩
        rw [this]; rfl
      · intro h9
        have h9 := of_decide_eq_false h9
        refine ⟨n + 1, ⟨by omega, fun z hz => ?_⟩, by omega, ⟨by simp [fitR, look], ?_, rfl, rfl, rfl⟩⟩
        · rw [htk] at hz
          rcases List.mem_append.1 hz with hz | hz
          · exact n2 z hz
          · rw [List.mem_singleton] at hz; subst hz; simp only; omega
        · rw [e3]; simp [fitH, hget]
    · have q0 : decide ((n : Int) < (o.length : Int)) = false := by simp; omega
      have hno : n = o.length := by omega
      subst hno
      rw [List.take_length] at n2
      have : (o.any fun z => !vldM z.a) = false := by
        rw [List.any_eq_false]
        intro z hz
        have h1 := n2 z hz
        have h2 := b2 z hz
        simp only [vldM, Bool.not_eq_true', Bool.not_eq_false, Bool.and_eq_true, decide_eq_true_eq]; omega
      rw [this, numL_end]
      have tk : ((linG y 0 o).map cyV).take o.length = (linG y 0 o).map cyV := List.take_of_length_le (by rw [List.length_map, linG_len]; exact Nat.le_refl _)
      simp only [q0, tk, linG_len, cond_false, List.length_map, k_rlinS_34, oneS, on_p_eq, k_rlinS_36, rCmpS, on_ss_eq, List.take_succ_cons, List.take_nil, Tryz.underlying1, sz1, by1, ze1, Tryz.underlying2, sz2, by2, ze2, Tryz.underlying3, sz3, by3, ze3, Tryz.underlying4, sz4, by4, ze4, Tryz.underlying9, sz9, by9, ze9, Tryz.underlying23, sz23, by23, ze23, Tryz.underlying24, sz24, by24, ze24, Tryz.underlying26, sz26, by26, ze26, fa26_0, fa26_1, fa26_2, Tryz.underlying37, sz37, by37, ze37, fa37_0, fa37_1, fa37_2, fa37_3, fa37_4, Tryz.underlying40, sz40, by40, ze40, fa40_0, fa40_1, Tryz.underlying42, sz42, by42, ze42, Tryz.underlying50, sz50, by50, ze50, Tryz.underlying80, sz80, by80, ze80, fa80_0, fa80_1, fa80_2, fa80_3, fa80_4, plan0, planN, Nat.reduceBEq, go_sem, ↓reduceIte, reduceCtorEq, Nat.reduceEqDiff, Nat.reduceLT, ↓all_qV, Int.reduceToNat, Int.reduceLT, Int.reduceLE, Nat.reduceAdd, Nat.reduceLeDiff, Nat.reduceMul, ev_callG, gcallK_b, gcallK_w, callGc_true, callGc_false, List.forall_mem_cons, List.not_mem_nil, PV.one, AV.one]
      exact Nat.le_refl _
noncomputable def V9 (g : FuncId) : PSpec := (putΦ V8 20 rlinS) g
theorem hV9 : TabSound GG V9 := (hV8.put w_rlinS)
end Go.AM
