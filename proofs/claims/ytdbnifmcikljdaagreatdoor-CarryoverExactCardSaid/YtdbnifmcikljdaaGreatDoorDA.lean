/-
  A part of a proof: see the last text of this claim for what is proved.
-/
import Derived.Test.YtdbnifmcikljdaaGreatDoorSC
import Derived.Test.YtdbnifmcikljdaaGreatDoorZMa
import Derived.Test.YtdbnifmcikljdaaGreatDoorR03q
namespace Go.AM
open Go Go.Proofs Go.IntWalk
set_option maxRecDepth 100000
set_option maxHeartbeats 1000000
set_option linter.unusedSimpArgs false
set_option linter.unusedVariables false
theorem keyOpn {x y : Opn} : keyEqL [.int .i64 x.o, .int .i64 x.c, .str x.k, .int .i64 x.y, .int .i64 x.a] [.int .i64 y.o, .int .i64 y.c, .str y.k, .int .i64 y.y, .int .i64 y.a] = decide (x = y) := by
  rw [Bool.eq_iff_iff]
  cases x; cases y
  simp [keyEqL, keyEq1]
theorem keyLft {x y : Lft} : keyEqL [.str x.k, .int .i64 x.a] [.str y.k, .int .i64 y.a] = decide (x = y) := by
  rw [Bool.eq_iff_iff]
  cases x; cases y
  simp [keyEqL, keyEq1]
noncomputable def eqOG : PSpec := on_ll (fun a b => (∃ l : List Opn, a = l.map opV) ∧ (∃ l : List Opn, b = l.map opV) ∧ a.length ≤ 1000000 ∧ b.length ≤ 1000000) (fun a b => .bool (decide (a.map opOf = b.map opOf)))
theorem w_eqOG : PSound GG 39 eqOG := by
  refine PSound.of_wpc (C := cxP Tryz.prog UU [] 26) (T := plan0) Tryz.func39 rfl rfl rfl (Fit.pure (G := GG) hUU mixed) (fun args h => ?_)
  unfold eqOG at h
  obtain ⟨a, b, rfl, hp⟩ := on_ll_inv h
  refine ⟨by simp [cxP], ?_⟩
  simp only [eqOG, on_ll_eq, Tryz.f39, argL, plan0]
  obtain ⟨⟨a, rfl⟩, ⟨b, rfl⟩, hla, hlb⟩ := hp
  rw [List.length_map] at hla hlb
  simp only [map_opOf, List.length_map, Tryz.underlying3, sz3, by3, ze3, Tryz.underlying4, sz4, by4, ze4, Tryz.underlying9, sz9, by9, ze9, Tryz.underlying23, sz23, by23, ze23, Tryz.underlying37, sz37, by37, ze37, fa37_0, fa37_1, fa37_2, fa37_3, fa37_4, go_sem, ↓reduceIte, reduceCtorEq, Nat.reduceEqDiff, Nat.reduceLT, ↓all_qV, Int.reduceToNat, Int.reduceLT, Int.reduceLE, Nat.reduceAdd, Nat.reduceLeDiff, Nat.reduceMul]
  refine ⟨fun h1 => ?_, fun h1 => ?_⟩
  · have h1 : ¬ a.length = b.length := by simp at h1; omega
    have : ¬ a = b := fun e => h1 (by rw [e])
    simp [this]
  have hl : a.length = b.length := by simp at h1; omega
  refine AWp.loop (T := plan0) (α := Nat) (fun i => ([(0, .pv (.sl (a.map opV))), (1, .pv (.sl (b.map opV))), (12, .pv (.int .i64 a.length)), (13, .pv (.int .i64 i))], []))
    (fun i => i ≤ a.length ∧ a.take i = b.take i) (fun i => a.length - i)
    ⟨0, ⟨Nat.zero_le _, rfl⟩, ⟨by simp [fitR, look], trivial, rfl, rfl, rfl⟩⟩ ?_
  rintro i ⟨hi, hab⟩
  have hi1 : IntKind.i64.wrap ((i : Int) + 1) = ((i + 1 : Nat) : Int) := by rw [i64_in _ (by omega)]; omega
  by_cases hlt : i < a.length
  · have c0 : decide ((i : Int) < (a.length : Int)) = true := by simp; omega
    have e1 := getD_op hlt
    have e2 := getD_op (l := b) (i := i) (by omega)
    have t1 := take_succ' hlt
    have t2 := take_succ' (l := b) (i := i) (by omega)
    have g1 : a = b → a.getD i default = b.getD i default := fun e => by rw [e]
    generalize a.getD i default = x at e1 t1 g1
    generalize b.getD i default = y at e2 t2 g1
    have hk := keyOpn (x := x) (y := y)
    simp only [opV] at e1 e2
    simp only [c0, e1, e2, hi1, hk, List.length_map, List.take_succ_cons, List.take_nil, Tryz.underlying3, sz3, by3, ze3, Tryz.underlying4, sz4, by4, ze4, Tryz.underlying9, sz9, by9, ze9, Tryz.underlying23, sz23, by23, ze23, Tryz.underlying37, sz37, by37, ze37, fa37_0, fa37_1, fa37_2, fa37_3, fa37_4, plan0, go_sem, ↓reduceIte, reduceCtorEq, Nat.reduceEqDiff, Nat.reduceLT, ↓all_qV, Int.reduceToNat, Int.reduceLT, Int.reduceLE, Nat.reduceAdd, Nat.reduceLeDiff, Nat.reduceMul, ev_callG, gcallK_b, gcallK_w, callGc_true, callGc_false]
    refine ⟨by kernel_rfl, ⟨by omega, by omega⟩, ⟨by omega, by omega⟩, ⟨by kernel_rfl, by kernel_rfl⟩, fun h9 => ?_, fun h9 => ⟨i + 1, ⟨by omega, ?_⟩, by omega, ⟨by simp [fitR, look], trivial, rfl, rfl, rfl⟩⟩⟩
    · have h9 : ¬ (x = y) := fun e => by rw [decide_eq_true e] at h9; cases h9
      have : ¬ a = b := fun e => h9 (g1 e)
      simp [this]
    · have h9 : x = y := Classical.byContradiction fun e => by rw [decide_eq_false e] at h9; cases h9
      rw [t1, t2, hab, h9]
  · have c0 : decide ((i : Int) < (a.length : Int)) = false := by simp; omega
    rw [List.take_of_length_le (by omega), List.take_of_length_le (by omega)] at hab
    subst hab
    simp only [c0, List.length_map, Tryz.underlying3, sz3, by3, ze3, Tryz.underlying4, sz4, by4, ze4, Tryz.underlying9, sz9, by9, ze9, Tryz.underlying23, sz23, by23, ze23, Tryz.underlying37, sz37, by37, ze37, fa37_0, fa37_1, fa37_2, fa37_3, fa37_4, plan0, go_sem, ↓reduceIte, reduceCtorEq, Nat.reduceEqDiff, Nat.reduceLT, ↓all_qV, Int.reduceToNat, Int.reduceLT, Int.reduceLE, Nat.reduceAdd, Nat.reduceLeDiff, Nat.reduceMul]
    exact congrArg PV.bool (by simp)
noncomputable def eqLG : PSpec := on_ll (fun a b => (∃ l : List Lft, a = l.map lfV) ∧ (∃ l : List Lft, b = l.map lfV) ∧ a.length ≤ 1000000 ∧ b.length ≤ 1000000) (fun a b => .bool (decide (a.map lfOf = b.map lfOf)))
theorem w_eqLG : PSound GG 40 eqLG := by
  refine PSound.of_wpc (C := cxP Tryz.prog UU [] 26) (T := plan0) Tryz.func40 rfl rfl rfl (Fit.pure (G := GG) hUU mixed) (fun args h => ?_)
  unfold eqLG at h
  obtain ⟨a, b, rfl, hp⟩ := on_ll_inv h
  refine ⟨by simp [cxP], ?_⟩
  simp only [eqLG, on_ll_eq, Tryz.f40, argL, plan0]
  obtain ⟨⟨a, rfl⟩, ⟨b, rfl⟩, hla, hlb⟩ := hp
  rw [List.length_map] at hla hlb
  simp only [map_lfOf, List.length_map, Tryz.underlying3, sz3, by3, ze3, Tryz.underlying4, sz4, by4, ze4, Tryz.underlying9, sz9, by9, ze9, Tryz.underlying24, sz24, by24, ze24, Tryz.underlying40, sz40, by40, ze40, fa40_0, fa40_1, go_sem, ↓reduceIte, reduceCtorEq, Nat.reduceEqDiff, Nat.reduceLT, ↓all_qV, Int.reduceToNat, Int.reduceLT, Int.reduceLE, Nat.reduceAdd, Nat.reduceLeDiff, Nat.reduceMul]
  refine ⟨fun h1 => ?_, fun h1 => ?_⟩
  · have h1 : ¬ a.length = b.length := by simp at h1; omega
    have : ¬ a = b := fun e => h1 (by rw [e])
    simp [this]
  have hl : a.length = b.length := by simp at h1; omega
  refine AWp.loop (T := plan0) (α := Nat) (fun i => ([(0, .pv (.sl (a.map lfV))), (1, .pv (.sl (b.map lfV))), (12, .pv (.int .i64 a.length)), (13, .pv (.int .i64 i))], []))
    (fun i => i ≤ a.length ∧ a.take i = b.take i) (fun i => a.length - i)
    ⟨0, ⟨Nat.zero_le _, rfl⟩, ⟨by simp [fitR, look], trivial, rfl, rfl, rfl⟩⟩ ?_
  rintro i ⟨hi, hab⟩
  have hi1 : IntKind.i64.wrap ((i : Int) + 1) = ((i + 1 : Nat) : Int) := by rw [i64_in _ (by omega)]; omega
  by_cases hlt : i < a.length
  · have c0 : decide ((i : Int) < (a.length : Int)) = true := by simp; omega
    have e1 := getD_lf hlt
    have e2 := getD_lf (l := b) (i := i) (by omega)
    have t1 := take_succ' hlt
    have t2 := take_succ' (l := b) (i := i) (by omega)
    have g1 : a = b → a.getD i default = b.getD i default := fun e => by rw [e]
    generalize a.getD i default = x at e1 t1 g1
    generalize b.getD i default = y at e2 t2 g1
    have hk := keyLft (x := x) (y := y)
    simp only [lfV] at e1 e2
    simp only [c0, e1, e2, hi1, hk, List.length_map, List.take_succ_cons, List.take_nil, Tryz.underlying3, sz3, by3, ze3, Tryz.underlying4, sz4, by4, ze4, Tryz.underlying9, sz9, by9, ze9, Tryz.underlying24, sz24, by24, ze24, Tryz.underlying40, sz40, by40, ze40, fa40_0, fa40_1, plan0, go_sem, ↓reduceIte, reduceCtorEq, Nat.reduceEqDiff, Nat.reduceLT, ↓all_qV, Int.reduceToNat, Int.reduceLT, Int.reduceLE, Nat.reduceAdd, Nat.reduceLeDiff, Nat.reduceMul, ev_callG, gcallK_b, gcallK_w, callGc_true, callGc_false]
    refine ⟨by kernel_rfl, ⟨by omega, by omega⟩, ⟨by omega, by omega⟩, ⟨by kernel_rfl, by kernel_rfl⟩, fun h9 => ?_, fun h9 => ⟨i + 1, ⟨by omega, ?_⟩, by omega, ⟨by simp [fitR, look], trivial, rfl, rfl, rfl⟩⟩⟩
    · have h9 : ¬ (x = y) := fun e => by rw [decide_eq_true e] at h9; cases h9
      have : ¬ a = b := fun e => h9 (g1 e)
      simp [this]
    · have h9 : x = y := Classical.byContradiction fun e => by rw [decide_eq_false e] at h9; cases h9
      rw [t1, t2, hab, h9]
  · have c0 : decide ((i : Int) < (a.length : Int)) = false := by simp; omega
    rw [List.take_of_length_le (by omega), List.take_of_length_le (by omega)] at hab
    subst hab
    simp only [c0, List.length_map, Tryz.underlying3, sz3, by3, ze3, Tryz.underlying4, sz4, by4, ze4, Tryz.underlying9, sz9, by9, ze9, Tryz.underlying24, sz24, by24, ze24, Tryz.underlying40, sz40, by40, ze40, fa40_0, fa40_1, plan0, go_sem, ↓reduceIte, reduceCtorEq, Nat.reduceEqDiff, Nat.reduceLT, ↓all_qV, Int.reduceToNat, Int.reduceLT, Int.reduceLE, Nat.reduceAdd, Nat.reduceLeDiff, Nat.reduceMul]
    exact congrArg PV.bool (by simp)
noncomputable def rOpG : PSpec := on_ll (fun a b => (∃ l : List Opn, a = l.map opV) ∧ (∃ l : List Opn, b = l.map opV) ∧ a.length ≤ 1000000 ∧ b.length ≤ 1000000) (fun a b => .bool (decide (a.map opOf = b.map opOf)))
theorem w_rOpG : PSound GG 37 rOpG := by
  refine PSound.of_wpc (C := cxP Tryz.prog UU [] 26) (T := plan0) Tryz.func37 rfl rfl rfl (Fit.pure (G := GG) hUU mixed) (fun args h => ?_)
  unfold rOpG at h
  obtain ⟨a, b, rfl, hp⟩ := on_ll_inv h
  refine ⟨by simp [cxP], ?_⟩
  simp only [rOpG, on_ll_eq, Tryz.f37, argL, plan0]
  obtain ⟨⟨a, rfl⟩, ⟨b, rfl⟩, hla, hlb⟩ := hp
  rw [List.length_map] at hla hlb
  simp only [map_opOf, List.length_map, Tryz.underlying3, sz3, by3, ze3, Tryz.underlying4, sz4, by4, ze4, Tryz.underlying9, sz9, by9, ze9, Tryz.underlying23, sz23, by23, ze23, Tryz.underlying37, sz37, by37, ze37, fa37_0, fa37_1, fa37_2, fa37_3, fa37_4, go_sem, ↓reduceIte, reduceCtorEq, Nat.reduceEqDiff, Nat.reduceLT, ↓all_qV, Int.reduceToNat, Int.reduceLT, Int.reduceLE, Nat.reduceAdd, Nat.reduceLeDiff, Nat.reduceMul]
  refine ⟨fun h1 => ?_, fun h1 => ?_⟩
  · have h1 : ¬ a.length = b.length := by simp at h1; omega
    have : ¬ a = b := fun e => h1 (by rw [e])
    simp [this]
  have hl : a.length = b.length := by simp at h1; omega
  refine AWp.loop (T := plan0) (α := Nat) (fun i => ([(0, .pv (.sl (a.map opV))), (1, .pv (.sl (b.map opV))), (12, .pv (.int .i64 a.length)), (13, .pv (.int .i64 i))], []))
    (fun i => i ≤ a.length ∧ a.take i = b.take i) (fun i => a.length - i)
    ⟨0, ⟨Nat.zero_le _, rfl⟩, ⟨by simp [fitR, look], trivial, rfl, rfl, rfl⟩⟩ ?_
  rintro i ⟨hi, hab⟩
  have hi1 : IntKind.i64.wrap ((i : Int) + 1) = ((i + 1 : Nat) : Int) := by rw [i64_in _ (by omega)]; omega
  by_cases hlt : i < a.length
  · have c0 : decide ((i : Int) < (a.length : Int)) = true := by simp; omega
    have e1 := getD_op hlt
    have e2 := getD_op (l := b) (i := i) (by omega)
    have t1 := take_succ' hlt
    have t2 := take_succ' (l := b) (i := i) (by omega)
    have g1 : a = b → a.getD i default = b.getD i default := fun e => by rw [e]
    generalize a.getD i default = x at e1 t1 g1
    generalize b.getD i default = y at e2 t2 g1
    have hk := keyOpn (x := x) (y := y)
    simp only [opV] at e1 e2
    simp only [c0, e1, e2, hi1, hk, List.length_map, List.take_succ_cons, List.take_nil, Tryz.underlying3, sz3, by3, ze3, Tryz.underlying4, sz4, by4, ze4, Tryz.underlying9, sz9, by9, ze9, Tryz.underlying23, sz23, by23, ze23, Tryz.underlying37, sz37, by37, ze37, fa37_0, fa37_1, fa37_2, fa37_3, fa37_4, plan0, go_sem, ↓reduceIte, reduceCtorEq, Nat.reduceEqDiff, Nat.reduceLT, ↓all_qV, Int.reduceToNat, Int.reduceLT, Int.reduceLE, Nat.reduceAdd, Nat.reduceLeDiff, Nat.reduceMul, ev_callG, gcallK_b, gcallK_w, callGc_true, callGc_false]
    refine ⟨by kernel_rfl, ⟨by omega, by omega⟩, ⟨by omega, by omega⟩, ⟨by kernel_rfl, by kernel_rfl⟩, fun h9 => ?_, fun h9 => ⟨i + 1, ⟨by omega, ?_⟩, by omega, ⟨by simp [fitR, look], trivial, rfl, rfl, rfl⟩⟩⟩
    · have h9 : ¬ (x = y) := fun e => by rw [decide_eq_true e] at h9; cases h9
      have : ¬ a = b := fun e => h9 (g1 e)
      simp [this]
    · have h9 : x = y := Classical.byContradiction fun e => by rw [decide_eq_false e] at h9; cases h9
      rw [t1, t2, hab, h9]
  · have c0 : decide ((i : Int) < (a.length : Int)) = false := by simp; omega
    rw [List.take_of_length_le (by omega), List.take_of_length_le (by omega)] at hab
    subst hab
    simp only [c0, List.length_map, Tryz.underlying3, sz3, by3, ze3, Tryz.underlying4, sz4, by4, ze4, Tryz.underlying9, sz9, by9, ze9, Tryz.underlying23, sz23, by23, ze23, Tryz.underlying37, sz37, by37, ze37, fa37_0, fa37_1, fa37_2, fa37_3, fa37_4, plan0, go_sem, ↓reduceIte, reduceCtorEq, Nat.reduceEqDiff, Nat.reduceLT, ↓all_qV, Int.reduceToNat, Int.reduceLT, Int.reduceLE, Nat.reduceAdd, Nat.reduceLeDiff, Nat.reduceMul]
    exact congrArg PV.bool (by simp)
noncomputable def rLfG : PSpec := on_ll (fun a b => (∃ l : List Lft, a = l.map lfV) ∧ (∃ l : List Lft, b = l.map lfV) ∧ a.length ≤ 1000000 ∧ b.length ≤ 1000000) (fun a b => .bool (decide (a.map lfOf = b.map lfOf)))
theorem w_rLfG : PSound GG 38 rLfG := by
  refine PSound.of_wpc (C := cxP Tryz.prog UU [] 26) (T := plan0) Tryz.func38 rfl rfl rfl (Fit.pure (G := GG) hUU mixed) (fun args h => ?_)
  unfold rLfG at h
  obtain ⟨a, b, rfl, hp⟩ := on_ll_inv h
  refine ⟨by simp [cxP], ?_⟩
  simp only [rLfG, on_ll_eq, Tryz.f38, argL, plan0]
  obtain ⟨⟨a, rfl⟩, ⟨b, rfl⟩, hla, hlb⟩ := hp
  rw [List.length_map] at hla hlb
  simp only [map_lfOf, List.length_map, Tryz.underlying3, sz3, by3, ze3, Tryz.underlying4, sz4, by4, ze4, Tryz.underlying9, sz9, by9, ze9, Tryz.underlying24, sz24, by24, ze24, Tryz.underlying40, sz40, by40, ze40, fa40_0, fa40_1, go_sem, ↓reduceIte, reduceCtorEq, Nat.reduceEqDiff, Nat.reduceLT, ↓all_qV, Int.reduceToNat, Int.reduceLT, Int.reduceLE, Nat.reduceAdd, Nat.reduceLeDiff, Nat.reduceMul]
  refine ⟨fun h1 => ?_, fun h1 => ?_⟩
  · have h1 : ¬ a.length = b.length := by simp at h1; omega
    have : ¬ a = b := fun e => h1 (by rw [e])
    simp [this]
  have hl : a.length = b.length := by simp at h1; omega
  refine AWp.loop (T := plan0) (α := Nat) (fun i => ([(0, .pv (.sl (a.map lfV))), (1, .pv (.sl (b.map lfV))), (12, .pv (.int .i64 a.length)), (13, .pv (.int .i64 i))], []))
    (fun i => i ≤ a.length ∧ a.take i = b.take i) (fun i => a.length - i)
    ⟨0, ⟨Nat.zero_le _, rfl⟩, ⟨by simp [fitR, look], trivial, rfl, rfl, rfl⟩⟩ ?_
  rintro i ⟨hi, hab⟩
  have hi1 : IntKind.i64.wrap ((i : Int) + 1) = ((i + 1 : Nat) : Int) := by rw [i64_in _ (by omega)]; omega
  by_cases hlt : i < a.length
  · have c0 : decide ((i : Int) < (a.length : Int)) = true := by simp; omega
    have e1 := getD_lf hlt
    have e2 := getD_lf (l := b) (i := i) (by omega)
    have t1 := take_succ' hlt
    have t2 := take_succ' (l := b) (i := i) (by omega)
    have g1 : a = b → a.getD i default = b.getD i default := fun e => by rw [e]
    generalize a.getD i default = x at e1 t1 g1
    generalize b.getD i default = y at e2 t2 g1
    have hk := keyLft (x := x) (y := y)
    simp only [lfV] at e1 e2
    simp only [c0, e1, e2, hi1, hk, List.length_map, List.take_succ_cons, List.take_nil, Tryz.underlying3, sz3, by3, ze3, Tryz.underlying4, sz4, by4, ze4, Tryz.underlying9, sz9, by9, ze9, Tryz.underlying24, sz24, by24, ze24, Tryz.underlying40, sz40, by40, ze40, fa40_0, fa40_1, plan0, go_sem, ↓reduceIte, reduceCtorEq, Nat.reduceEqDiff, Nat.reduceLT, ↓all_qV, Int.reduceToNat, Int.reduceLT, Int.reduceLE, Nat.reduceAdd, Nat.reduceLeDiff, Nat.reduceMul, ev_callG, gcallK_b, gcallK_w, callGc_true, callGc_false]
    refine ⟨by kernel_rfl, ⟨by omega, by omega⟩, ⟨by omega, by omega⟩, ⟨by kernel_rfl, by kernel_rfl⟩, fun h9 => ?_, fun h9 => ⟨i + 1, ⟨by omega, ?_⟩, by omega, ⟨by simp [fitR, look], trivial, rfl, rfl, rfl⟩⟩⟩
    · have h9 : ¬ (x = y) := fun e => by rw [decide_eq_true e] at h9; cases h9
      have : ¬ a = b := fun e => h9 (g1 e)
      simp [this]
    · have h9 : x = y := Classical.byContradiction fun e => by rw [decide_eq_false e] at h9; cases h9
      rw [t1, t2, hab, h9]
  · have c0 : decide ((i : Int) < (a.length : Int)) = false := by simp; omega
    rw [List.take_of_length_le (by omega), List.take_of_length_le (by omega)] at hab
    subst hab
    simp only [c0, List.length_map, Tryz.underlying3, sz3, by3, ze3, Tryz.underlying4, sz4, by4, ze4, Tryz.underlying9, sz9, by9, ze9, Tryz.underlying24, sz24, by24, ze24, Tryz.underlying40, sz40, by40, ze40, fa40_0, fa40_1, plan0, go_sem, ↓reduceIte, reduceCtorEq, Nat.reduceEqDiff, Nat.reduceLT, ↓all_qV, Int.reduceToNat, Int.reduceLT, Int.reduceLE, Nat.reduceAdd, Nat.reduceLeDiff, Nat.reduceMul]
    exact congrArg PV.bool (by simp)
noncomputable def UV (g : FuncId) : PSpec := (putΦ (putΦ (putΦ (putΦ UU 39 eqOG) 40 eqLG) 37 rOpG) 38 rLfG) g
theorem hUV : TabSound GG UV := ((((hUU.put w_eqOG).put w_eqLG).put w_rOpG).put w_rLfG)
structure Car where
  a : List Opn
  b : List Opn
  c : List Lft
  deriving DecidableEq
def caV (x : Car) : PV := carV x.a x.b x.c
def caOf : PV → Car
  | .agg [.sl a, .sl b, .sl c] => ⟨a.map opOf, b.map opOf, c.map lfOf⟩
  | _ => ⟨[], [], []⟩
theorem caOf_caV (x : Car) : caOf (caV x) = x := by
  cases x
  simp only [caV, carV, caOf, map_opOf, map_lfOf]
def isCar (e : PV) : Prop := ∃ x : Car, e = caV x ∧ x.a.length ≤ 1000 ∧ x.b.length ≤ 1000 ∧ x.c.length ≤ 1000
noncomputable def sameCG : PSpec := on_pp (fun a b => isCar a ∧ isCar b) (fun a b => .bool (decide (caOf a = caOf b)))
theorem k_sameCG_37 {args : List PV} : UV 37 args = rOpG args := rfl
theorem k_sameCG_38 {args : List PV} : UV 38 args = rLfG args := rfl
theorem w_sameCG : PSound GG 16 sameCG := by
  refine PSound.of_wpc (C := cxP Tryz.prog UV [] 24) (T := plan0) Tryz.func16 rfl rfl rfl (Fit.pure (G := GG) hUV mixed) (fun args h => ?_)
  unfold sameCG at h
  obtain ⟨p, q, rfl, hp⟩ := on_pp_inv h
  refine ⟨by simp [cxP], ?_⟩
  simp only [sameCG, on_pp_eq, Tryz.f16, argL, plan0]
  obtain ⟨⟨⟨a, b, c⟩, rfl, ha, hb, hc⟩, ⟨⟨a', b', c'⟩, rfl, ha', hb', hc'⟩⟩ := hp
  simp only at ha hb hc ha' hb' hc'
  rw [caOf_caV, caOf_caV]
  simp only [caV, carV, map_opOf, map_lfOf, List.length_map, List.take_succ_cons, List.take_nil, k_sameCG_37, rOpG, on_ll_eq, k_sameCG_38, rLfG, Tryz.underlying1, sz1, by1, ze1, Tryz.underlying2, sz2, by2, ze2, Tryz.underlying3, sz3, by3, ze3, Tryz.underlying4, sz4, by4, ze4, Tryz.underlying9, sz9, by9, ze9, Tryz.underlying23, sz23, by23, ze23, Tryz.underlying24, sz24, by24, ze24, Tryz.underlying26, sz26, by26, ze26, fa26_0, fa26_1, fa26_2, Tryz.underlying37, sz37, by37, ze37, fa37_0, fa37_1, fa37_2, fa37_3, fa37_4, Tryz.underlying40, sz40, by40, ze40, fa40_0, fa40_1, go_sem, ↓reduceIte, reduceCtorEq, Nat.reduceEqDiff, Nat.reduceLT, ↓all_qV, Int.reduceToNat, Int.reduceLT, Int.reduceLE, Nat.reduceAdd, Nat.reduceLeDiff, Nat.reduceMul, ev_callG, gcallK_b, gcallK_w, callGc_true, callGc_false, List.forall_mem_cons, List.not_mem_nil, PV.one, AV.one]
  refine ⟨⟨⟨_, rfl⟩, ⟨_, rfl⟩, by omega, by omega⟩, fun _ => ⟨⟨_, rfl⟩, ⟨_, rfl⟩, by omega, by omega⟩, fun _ => ⟨⟨_, rfl⟩, ⟨_, rfl⟩, by omega, by omega⟩, congrArg PV.bool ?_⟩
  rw [Bool.eq_iff_iff]
  simp [and_assoc]
noncomputable def UW (g : FuncId) : PSpec := (putΦ UV 16 sameCG) g
theorem hUW : TabSound GG UW := (hUV.put w_sameCG)
end Go.AM
namespace Go.AM
open Go Go.Proofs Go.IntWalk
set_option maxRecDepth 100000
set_option maxHeartbeats 1000000
set_option linter.unusedSimpArgs false
set_option linter.unusedVariables false
noncomputable def UX (g : FuncId) : PSpec := (putΦ UW 35 rPartsS) g
theorem hUX : TabSound GG UX := (hUW.put w_rPartsS)
noncomputable def oneS : PSpec := on_p isOp (fun e => .bool (opB (opOf e)))
theorem k_oneS_35 {args : List PV} : UX 35 args = rPartsS args := rfl
theorem w_oneS : PSound GG 34 oneS := by
  refine PSound.of_wpc (C := cxP Tryz.prog UX [] 48) (T := plan0) Tryz.func34 rfl rfl rfl (Fit.pure (G := GG) hUX mixed) (fun args h => ?_)
  unfold oneS at h
  obtain ⟨e, rfl, hp⟩ := on_p_inv h
  refine ⟨by simp [cxP], ?_⟩
  simp only [oneS, on_p_eq, Tryz.f34, argL, plan0]
  obtain ⟨⟨o, c, k, y, a⟩, rfl, hk⟩ := hp
  simp only at hk
  have hpp := parts_partsR k
  simp only [opV, opOf_agg, hpp, List.length_map, k_oneS_35, rPartsS, on_s_eq, Tryz.underlying1, sz1, by1, ze1, Tryz.underlying2, sz2, by2, ze2, Tryz.underlying3, sz3, by3, ze3, Tryz.underlying4, sz4, by4, ze4, Tryz.underlying9, sz9, by9, ze9, Tryz.underlying22, sz22, by22, ze22, Tryz.underlying37, sz37, by37, ze37, fa37_0, fa37_1, fa37_2, fa37_3, fa37_4, go_sem, ↓reduceIte, reduceCtorEq, Nat.reduceEqDiff, Nat.reduceLT, ↓all_qV, Int.reduceToNat, Int.reduceLT, Int.reduceLE, Nat.reduceAdd, Nat.reduceLeDiff, Nat.reduceMul]
  refine ⟨fun _ => by omega, congrArg PV.bool ?_⟩
  rw [Bool.eq_iff_iff]
  simp only [opB, vldM, amg, Bool.and_eq_true, decide_eq_true_eq]
  omega
noncomputable def UY (g : FuncId) : PSpec := (putΦ (putΦ UX 34 oneS) 36 rCmpS) g
theorem hUY : TabSound GG UY := ((hUX.put w_oneS).put w_rCmpS)
end Go.AM
namespace Go.AM
open Go Go.Proofs Go.IntWalk
set_option maxRecDepth 100000
set_option maxHeartbeats 1000000
set_option linter.unusedSimpArgs false
set_option linter.unusedVariables false
noncomputable def rundS : PSpec := on_ss (fun a b => a.length ≤ 1000000000000 ∧ b.length ≤ 1000000000000) (fun a b => .bool (undC a b))
theorem k_rundS_35 {args : List PV} : UY 35 args = rPartsS args := rfl
theorem w_rundS : PSound GG 49 rundS := by
  refine PSound.of_wpc (C := cxP Tryz.prog UY [] 37) (T := plan0) Tryz.func49 rfl rfl rfl (Fit.pure (G := GG) hUY mixed) (fun args h => ?_)
  unfold rundS at h
  obtain ⟨a, b, rfl, hp⟩ := on_ss_inv h
  refine ⟨by simp [cxP], ?_⟩
  simp only [rundS, on_ss_eq, Tryz.f49, argL, plan0]
  obtain ⟨ha, hb⟩ := hp
  have ep := parts_partsR a
  have eq := parts_partsR b
  have lp := partsR_len a
  have lq := partsR_len b
  unfold undC
  generalize partsR a = p at ep lp ⊢
  generalize partsR b = q at eq lq ⊢
  simp only [ep, eq, List.length_map, k_rundS_35, rPartsS, on_s_eq, Tryz.underlying3, sz3, by3, ze3, Tryz.underlying4, sz4, by4, ze4, Tryz.underlying9, sz9, by9, ze9, Tryz.underlying22, sz22, by22, ze22, go_sem, ↓reduceIte, reduceCtorEq, Nat.reduceEqDiff, Nat.reduceLT, ↓all_qV, Int.reduceToNat, Int.reduceLT, Int.reduceLE, Nat.reduceAdd, Nat.reduceLeDiff, Nat.reduceMul]
  refine ⟨by omega, by omega, fun h1 => ?_, fun h1 => ?_⟩
  · have : (decide (0 < q.length) && decide (q.length ≤ p.length)) = false := by
      simp only [Bool.or_eq_true, decide_eq_true_eq, beq_iff_eq] at h1
      by_cases h : 0 < q.length
      · rw [decide_eq_false (show ¬ q.length ≤ p.length by omega), Bool.and_false]
      · rw [decide_eq_false h, Bool.false_and]
    rw [this]; rfl
  have h2 : 0 < q.length ∧ q.length ≤ p.length := by
    simp only [Bool.or_eq_false_iff, decide_eq_false_iff_not, beq_eq_false_iff_ne, ne_eq] at h1
    omega
  rw [decide_eq_true h2.1, decide_eq_true h2.2, Bool.and_self, Bool.true_and]
  refine AWp.loop (T := plan0) (α := Nat) (fun i => ([(5, .pv (.sl (p.map intV))), (6, .pv (.sl (q.map intV))), (23, .pv (.int .i64 q.length)), (24, .pv (.int .i64 i))], []))
    (fun i => i ≤ q.length ∧ p.take i = q.take i) (fun i => q.length - i)
    ⟨0, ⟨Nat.zero_le _, rfl⟩, ⟨by simp [fitR, look], trivial, rfl, rfl, rfl⟩⟩ ?_
  rintro i ⟨g1, g2⟩
  have hi1 : IntKind.i64.wrap ((i : Int) + 1) = ((i + 1 : Nat) : Int) := by rw [i64_in _ (by omega)]; omega
  by_cases hlt : i < q.length
  · have c0 : decide ((i : Int) < (q.length : Int)) = true := by simp; omega
    have k1 := getD_intV (l := p) (i := i) (by omega)
    have k2 := getD_intV hlt
    have t1 : p.take (i + 1) = p.take i ++ [p.getD i 0] := by rw [List.take_add_one]; simp [List.getElem?_eq_getElem (show i < p.length by omega), List.getD_eq_getElem?_getD]
    have t2 : q.take (i + 1) = q.take i ++ [q.getD i 0] := by rw [List.take_add_one]; simp [List.getElem?_eq_getElem hlt, List.getD_eq_getElem?_getD]
    simp only [c0, k1, k2, hi1, List.length_map, Tryz.underlying3, sz3, by3, ze3, Tryz.underlying4, sz4, by4, ze4, Tryz.underlying9, sz9, by9, ze9, Tryz.underlying22, sz22, by22, ze22, plan0, go_sem, ↓reduceIte, reduceCtorEq, Nat.reduceEqDiff, Nat.reduceLT, ↓all_qV, Int.reduceToNat, Int.reduceLT, Int.reduceLE, Nat.reduceAdd, Nat.reduceLeDiff, Nat.reduceMul, ev_callG, gcallK_b, gcallK_w, callGc_true, callGc_false]
    refine ⟨by kernel_rfl, ⟨by omega, by omega⟩, ⟨by omega, by omega⟩, fun h3 => ?_, fun h3 => ⟨i + 1, ⟨by omega, ?_⟩, by omega, ⟨by simp [fitR, look], trivial, rfl, rfl, rfl⟩⟩⟩
    · have h3 : ¬ p.getD i 0 = q.getD i 0 := by simpa using h3
      have : ¬ p.take q.length = q := fun e => h3 (by
        have h5 : (p.take q.length).getD i 0 = q.getD i 0 := by rw [e]
        rw [← h5]
        simp [List.getD_eq_getElem?_getD, List.getElem?_take, hlt])
      exact congrArg PV.bool (by simpa using this)
    · have h3 : p.getD i 0 = q.getD i 0 := by simpa using h3
      rw [t1, t2, g2, h3]
  · have c0 : decide ((i : Int) < (q.length : Int)) = false := by simp; omega
    have : i = q.length := by omega
    subst this
    rw [List.take_length] at g2
    simp only [c0, List.length_map, Tryz.underlying3, sz3, by3, ze3, Tryz.underlying4, sz4, by4, ze4, Tryz.underlying9, sz9, by9, ze9, Tryz.underlying22, sz22, by22, ze22, plan0, go_sem, ↓reduceIte, reduceCtorEq, Nat.reduceEqDiff, Nat.reduceLT, ↓all_qV, Int.reduceToNat, Int.reduceLT, Int.reduceLE, Nat.reduceAdd, Nat.reduceLeDiff, Nat.reduceMul, ev_callG, gcallK_b, gcallK_w, callGc_true, callGc_false]
    rw [g2]; simp
noncomputable def UZ (g : FuncId) : PSpec := (putΦ UY 49 rundS) g
theorem hUZ : TabSound GG UZ := (hUY.put w_rundS)
end Go.AM
