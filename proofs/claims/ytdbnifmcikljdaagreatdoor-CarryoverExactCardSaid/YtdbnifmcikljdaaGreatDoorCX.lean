/-
  A part of a proof: see the last text of this claim for what is proved.
-/
import Derived.Test.YtdbnifmcikljdaaGreatDoorC5e
import Derived.Test.YtdbnifmcikljdaaGreatDoorZMa
namespace Go.AM
open Go Go.Proofs Go.IntWalk
set_option maxRecDepth 100000
set_option maxHeartbeats 1000000
set_option linter.unusedSimpArgs false
set_option linter.unusedVariables false
def on_ls (p : List PV → List UInt8 → Prop) (f : List PV → List UInt8 → PV) : PSpec
  | [.sl a0, .str a1] => (p a0 a1, f a0 a1)
  | _ => (False, default)
theorem on_ls_eq {p : List PV → List UInt8 → Prop} {f : List PV → List UInt8 → PV} {a0 : List PV} {a1 : List UInt8} : on_ls p f [.sl a0, .str a1] = (p a0 a1, f a0 a1) := rfl
theorem on_ls_inv {p : List PV → List UInt8 → Prop} {f : List PV → List UInt8 → PV} {args : List PV} (h : (on_ls p f args).1) : ∃ a0 : List PV, ∃ a1 : List UInt8, args = [.sl a0, .str a1] ∧ p a0 a1 := by
  unfold on_ls at h
  split at h
  · exact ⟨_, _, rfl, h⟩
  · exact h.elim
def on_llp (p : List PV → List PV → PV → Prop) (f : List PV → List PV → PV → PV) : PSpec
  | [.sl a0, .sl a1, a2] => (p a0 a1 a2, f a0 a1 a2)
  | _ => (False, default)
theorem on_llp_eq {p : List PV → List PV → PV → Prop} {f : List PV → List PV → PV → PV} {a0 : List PV} {a1 : List PV} {a2 : PV} : on_llp p f [.sl a0, .sl a1, a2] = (p a0 a1 a2, f a0 a1 a2) := rfl
theorem on_llp_inv {p : List PV → List PV → PV → Prop} {f : List PV → List PV → PV → PV} {args : List PV} (h : (on_llp p f args).1) : ∃ a0 : List PV, ∃ a1 : List PV, ∃ a2 : PV, args = [.sl a0, .sl a1, a2] ∧ p a0 a1 a2 := by
  unfold on_llp at h
  split at h
  · exact ⟨_, _, _, rfl, h⟩
  · exact h.elim
def sumU (c : List UInt8) : List Opn → Int
  | [] => 0
  | x :: r => (bif undC x.k c then x.a else 0) + sumU c r
theorem sumU_append (c : List UInt8) : ∀ a b : List Opn, sumU c (a ++ b) = sumU c a + sumU c b
  | [], b => by simp [sumU]
  | x :: r, b => by simp only [List.cons_append, sumU, sumU_append c r b]; omega
theorem sumU_le (c : List UInt8) {M : Int} (hM : 0 ≤ M) : ∀ l : List Opn, (∀ x, x ∈ l → 0 ≤ x.a ∧ x.a ≤ M) → 0 ≤ sumU c l ∧ sumU c l ≤ l.length * M
  | [], _ => by simp [sumU]
  | x :: r, h => by
    have ih := sumU_le c hM r (fun y hy => h y (List.mem_cons_of_mem _ hy))
    have hx := h x List.mem_cons_self
    simp only [sumU, List.length_cons, Int.add_mul, Int.natCast_add]
    cases undC x.k c <;> simp only [cond_true, cond_false] <;> constructor <;> omega
def smOk (l : List Opn) : Prop := ∀ x, x ∈ l → 0 ≤ x.a ∧ x.a ≤ 1000000000000
noncomputable def sumOS : PSpec := on_ls (fun es c => (∃ l : List Opn, es = l.map opV ∧ isOps l ∧ smOk l ∧ l.length ≤ 1000) ∧ c.length ≤ 1000000000000) (fun es c => .int .i64 (sumU c (es.map opOf)))
theorem k_sumOS_48 {args : List PV} : U6 48 args = underCS args := rfl
theorem w_sumOS : PSound GG 23 sumOS := by
  refine PSound.of_wpc (C := cxP Tryz.prog U6 [] 24) (T := plan0) Tryz.func23 rfl rfl rfl (Fit.pure (G := GG) hU6 mixed) (fun args h => ?_)
  unfold sumOS at h
  obtain ⟨es, c, rfl, hp⟩ := on_ls_inv h
  refine ⟨by simp [cxP], ?_⟩
  simp only [sumOS, on_ls_eq, Tryz.f23, argL, plan0]
  obtain ⟨⟨l, rfl, hl, ha, hn⟩, hc⟩ := hp
  simp only [map_opOf, List.length_map, k_sumOS_48, underCS, on_ss_eq, Tryz.underlying2, sz2, by2, ze2, Tryz.underlying3, sz3, by3, ze3, Tryz.underlying4, sz4, by4, ze4, Tryz.underlying9, sz9, by9, ze9, Tryz.underlying23, sz23, by23, ze23, Tryz.underlying37, sz37, by37, ze37, fa37_0, fa37_1, fa37_2, fa37_3, fa37_4, go_sem, ↓reduceIte, reduceCtorEq, Nat.reduceEqDiff, Nat.reduceLT, ↓all_qV, Int.reduceToNat, Int.reduceLT, Int.reduceLE, Nat.reduceAdd, Nat.reduceLeDiff, Nat.reduceMul]
  refine AWp.loop (T := plan0) (α := Nat) (fun i => ([(1, .pv (.str c)), (5, .pv (.int .i64 (sumU c (l.take i)))), (8, .pv (.sl (l.map opV))), (9, .pv (.int .i64 l.length)), (10, .pv (.int .i64 i))], []))
    (fun i => i ≤ l.length) (fun i => l.length - i)
    ⟨0, Nat.zero_le _, ⟨by simp [fitR, look, sumU], trivial, rfl, rfl, rfl⟩⟩ ?_
  rintro i h1
  have hi1 : IntKind.i64.wrap ((i : Int) + 1) = ((i + 1 : Nat) : Int) := by rw [i64_in _ (by omega)]; omega
  by_cases hlt : i < l.length
  · have c0 : decide ((i : Int) < (l.length : Int)) = true := by simp; omega
    have e1 := getD_op hlt
    have hk := hl _ (mem_getD' hlt)
    have hx := ha _ (mem_getD' hlt)
    have hs : sumU c (l.take (i + 1)) = sumU c (l.take i) + (bif undC (l.getD i default).k c then (l.getD i default).a else 0) := by rw [take_succ' hlt, sumU_append]; simp [sumU]
    have hb := sumU_le c (M := 1000000000000) (by omega) (l.take i) (fun x hx => ha x (List.mem_of_mem_take hx))
    rw [List.length_take, Nat.min_eq_left (by omega)] at hb
    have hb2 : (i : Int) * 1000000000000 ≤ 1000 * 1000000000000 := by omega
    generalize l.getD i default = x at e1 hk hx hs
    obtain ⟨o, co, k, y, a⟩ := x
    simp only [opV] at e1
    simp only at hk hx hs
    have w1 : IntKind.i64.wrap (sumU c (l.take i) + a) = sumU c (l.take i) + a := i64_in _ (by omega)
    simp only [c0, e1, hi1, w1, List.length_map, List.take_succ_cons, List.take_nil, k_sumOS_48, underCS, on_ss_eq, Tryz.underlying2, sz2, by2, ze2, Tryz.underlying3, sz3, by3, ze3, Tryz.underlying4, sz4, by4, ze4, Tryz.underlying9, sz9, by9, ze9, Tryz.underlying23, sz23, by23, ze23, Tryz.underlying37, sz37, by37, ze37, fa37_0, fa37_1, fa37_2, fa37_3, fa37_4, plan0, go_sem, ↓reduceIte, reduceCtorEq, Nat.reduceEqDiff, Nat.reduceLT, ↓all_qV, Int.reduceToNat, Int.reduceLT, Int.reduceLE, Nat.reduceAdd, Nat.reduceLeDiff, Nat.reduceMul, ev_callG, gcallK_b, gcallK_w, callGc_true, callGc_false, List.forall_mem_cons, List.not_mem_nil, PV.one, AV.one]
    refine ⟨⟨by omega, by omega⟩, ⟨hk, hc⟩, fun h9 => ⟨i + 1, by omega, by omega, ⟨by simp [fitR, look, hs, h9], trivial, rfl, rfl, rfl⟩⟩, fun h9 => ⟨i + 1, by omega, by omega, ⟨by simp [fitR, look, hs, h9], trivial, rfl, rfl, rfl⟩⟩⟩
  · have c0 : decide ((i : Int) < (l.length : Int)) = false := by simp; omega
    simp only [c0, List.length_map, Tryz.underlying2, sz2, by2, ze2, Tryz.underlying3, sz3, by3, ze3, Tryz.underlying4, sz4, by4, ze4, Tryz.underlying9, sz9, by9, ze9, Tryz.underlying23, sz23, by23, ze23, Tryz.underlying37, sz37, by37, ze37, fa37_0, fa37_1, fa37_2, fa37_3, fa37_4, plan0, go_sem, ↓reduceIte, reduceCtorEq, Nat.reduceEqDiff, Nat.reduceLT, ↓all_qV, Int.reduceToNat, Int.reduceLT, Int.reduceLE, Nat.reduceAdd, Nat.reduceLeDiff, Nat.reduceMul]
    rw [List.take_of_length_le (by omega)]
noncomputable def eqOS : PSpec := on_ll (fun a b => a = b ∧ a.length ≤ 1000 ∧ ∃ l : List Opn, a = l.map opV) (fun _ _ => .bool true)
theorem w_eqOS : PSound GG 39 eqOS := by
  refine PSound.of_wpc (C := cxP Tryz.prog U6 [] 26) (T := plan0) Tryz.func39 rfl rfl rfl (Fit.pure (G := GG) hU6 mixed) (fun args h => ?_)
  unfold eqOS at h
  obtain ⟨a, b, rfl, hp⟩ := on_ll_inv h
  refine ⟨by simp [cxP], ?_⟩
  simp only [eqOS, on_ll_eq, Tryz.f39, argL, plan0]
  obtain ⟨rfl, hn, l, rfl⟩ := hp
  simp only [List.length_map] at hn
  simp only [List.length_map, Tryz.underlying3, sz3, by3, ze3, Tryz.underlying4, sz4, by4, ze4, Tryz.underlying9, sz9, by9, ze9, Tryz.underlying23, sz23, by23, ze23, Tryz.underlying37, sz37, by37, ze37, fa37_0, fa37_1, fa37_2, fa37_3, fa37_4, go_sem, ↓reduceIte, reduceCtorEq, Nat.reduceEqDiff, Nat.reduceLT, ↓all_qV, Int.reduceToNat, Int.reduceLT, Int.reduceLE, Nat.reduceAdd, Nat.reduceLeDiff, Nat.reduceMul]
  refine ⟨by simp, fun _ => ?_⟩
  refine AWp.loop (T := plan0) (α := Nat) (fun i => ([(0, .pv (.sl (l.map opV))), (1, .pv (.sl (l.map opV))), (12, .pv (.int .i64 l.length)), (13, .pv (.int .i64 i))], []))
    (fun i => i ≤ l.length) (fun i => l.length - i)
    ⟨0, Nat.zero_le _, ⟨by simp [fitR, look], trivial, rfl, rfl, rfl⟩⟩ ?_
  rintro i h1
  have hi1 : IntKind.i64.wrap ((i : Int) + 1) = ((i + 1 : Nat) : Int) := by rw [i64_in _ (by omega)]; omega
  by_cases hlt : i < l.length
  · have c0 : decide ((i : Int) < (l.length : Int)) = true := by simp; omega
    have e1 := getD_op hlt
    generalize l.getD i default = x at e1
    cases x
    simp only [opV] at e1
    simp only [c0, e1, hi1, List.length_map, List.take_succ_cons, List.take_nil, Tryz.underlying3, sz3, by3, ze3, Tryz.underlying4, sz4, by4, ze4, Tryz.underlying9, sz9, by9, ze9, Tryz.underlying23, sz23, by23, ze23, Tryz.underlying37, sz37, by37, ze37, fa37_0, fa37_1, fa37_2, fa37_3, fa37_4, plan0, go_sem, ↓reduceIte, reduceCtorEq, Nat.reduceEqDiff, Nat.reduceLT, ↓all_qV, Int.reduceToNat, Int.reduceLT, Int.reduceLE, Nat.reduceAdd, Nat.reduceLeDiff, Nat.reduceMul, ev_callG, gcallK_b, gcallK_w, callGc_true, callGc_false]
    exact ⟨by kernel_rfl, ⟨by omega, by omega⟩, ⟨by omega, by omega⟩, by kernel_rfl, fun h9 => by simp [keyEqL, keyEq1] at h9, fun _ => ⟨i + 1, by omega, by omega, ⟨by simp [fitR, look], trivial, rfl, rfl, rfl⟩⟩⟩
  · have c0 : decide ((i : Int) < (l.length : Int)) = false := by simp; omega
    simp only [c0, List.length_map, Tryz.underlying3, sz3, by3, ze3, Tryz.underlying4, sz4, by4, ze4, Tryz.underlying9, sz9, by9, ze9, Tryz.underlying23, sz23, by23, ze23, Tryz.underlying37, sz37, by37, ze37, fa37_0, fa37_1, fa37_2, fa37_3, fa37_4, plan0, go_sem, ↓reduceIte, reduceCtorEq, Nat.reduceEqDiff, Nat.reduceLT, ↓all_qV, Int.reduceToNat, Int.reduceLT, Int.reduceLE, Nat.reduceAdd, Nat.reduceLeDiff, Nat.reduceMul]
noncomputable def eqLS : PSpec := on_ll (fun a b => a = b ∧ a.length ≤ 1000 ∧ ∃ l : List Lft, a = l.map lfV) (fun _ _ => .bool true)
theorem w_eqLS : PSound GG 40 eqLS := by
  refine PSound.of_wpc (C := cxP Tryz.prog U6 [] 26) (T := plan0) Tryz.func40 rfl rfl rfl (Fit.pure (G := GG) hU6 mixed) (fun args h => ?_)
  unfold eqLS at h
  obtain ⟨a, b, rfl, hp⟩ := on_ll_inv h
  refine ⟨by simp [cxP], ?_⟩
  simp only [eqLS, on_ll_eq, Tryz.f40, argL, plan0]
  obtain ⟨rfl, hn, l, rfl⟩ := hp
  simp only [List.length_map] at hn
  simp only [List.length_map, Tryz.underlying3, sz3, by3, ze3, Tryz.underlying4, sz4, by4, ze4, Tryz.underlying9, sz9, by9, ze9, Tryz.underlying24, sz24, by24, ze24, Tryz.underlying40, sz40, by40, ze40, fa40_0, fa40_1, go_sem, ↓reduceIte, reduceCtorEq, Nat.reduceEqDiff, Nat.reduceLT, ↓all_qV, Int.reduceToNat, Int.reduceLT, Int.reduceLE, Nat.reduceAdd, Nat.reduceLeDiff, Nat.reduceMul]
  refine ⟨by simp, fun _ => ?_⟩
  refine AWp.loop (T := plan0) (α := Nat) (fun i => ([(0, .pv (.sl (l.map lfV))), (1, .pv (.sl (l.map lfV))), (12, .pv (.int .i64 l.length)), (13, .pv (.int .i64 i))], []))
    (fun i => i ≤ l.length) (fun i => l.length - i)
    ⟨0, Nat.zero_le _, ⟨by simp [fitR, look], trivial, rfl, rfl, rfl⟩⟩ ?_
  rintro i h1
  have hi1 : IntKind.i64.wrap ((i : Int) + 1) = ((i + 1 : Nat) : Int) := by rw [i64_in _ (by omega)]; omega
  by_cases hlt : i < l.length
  · have c0 : decide ((i : Int) < (l.length : Int)) = true := by simp; omega
    have e1 := getD_lf hlt
    generalize l.getD i default = x at e1
    cases x
    simp only [lfV] at e1
    simp only [c0, e1, hi1, List.length_map, List.take_succ_cons, List.take_nil, Tryz.underlying3, sz3, by3, ze3, Tryz.underlying4, sz4, by4, ze4, Tryz.underlying9, sz9, by9, ze9, Tryz.underlying24, sz24, by24, ze24, Tryz.underlying40, sz40, by40, ze40, fa40_0, fa40_1, plan0, go_sem, ↓reduceIte, reduceCtorEq, Nat.reduceEqDiff, Nat.reduceLT, ↓all_qV, Int.reduceToNat, Int.reduceLT, Int.reduceLE, Nat.reduceAdd, Nat.reduceLeDiff, Nat.reduceMul, ev_callG, gcallK_b, gcallK_w, callGc_true, callGc_false]
    exact ⟨by kernel_rfl, ⟨by omega, by omega⟩, ⟨by omega, by omega⟩, by kernel_rfl, fun h9 => by simp [keyEqL, keyEq1] at h9, fun _ => ⟨i + 1, by omega, by omega, ⟨by simp [fitR, look], trivial, rfl, rfl, rfl⟩⟩⟩
  · have c0 : decide ((i : Int) < (l.length : Int)) = false := by simp; omega
    simp only [c0, List.length_map, Tryz.underlying3, sz3, by3, ze3, Tryz.underlying4, sz4, by4, ze4, Tryz.underlying9, sz9, by9, ze9, Tryz.underlying24, sz24, by24, ze24, Tryz.underlying40, sz40, by40, ze40, fa40_0, fa40_1, plan0, go_sem, ↓reduceIte, reduceCtorEq, Nat.reduceEqDiff, Nat.reduceLT, ↓all_qV, Int.reduceToNat, Int.reduceLT, Int.reduceLE, Nat.reduceAdd, Nat.reduceLeDiff, Nat.reduceMul]
noncomputable def rOpS : PSpec := on_ll (fun a b => a = b ∧ a.length ≤ 1000 ∧ ∃ l : List Opn, a = l.map opV) (fun _ _ => .bool true)
theorem w_rOpS : PSound GG 37 rOpS := by
  refine PSound.of_wpc (C := cxP Tryz.prog U6 [] 26) (T := plan0) Tryz.func37 rfl rfl rfl (Fit.pure (G := GG) hU6 mixed) (fun args h => ?_)
  unfold rOpS at h
  obtain ⟨a, b, rfl, hp⟩ := on_ll_inv h
  refine ⟨by simp [cxP], ?_⟩
  simp only [rOpS, on_ll_eq, Tryz.f37, argL, plan0]
  obtain ⟨rfl, hn, l, rfl⟩ := hp
  simp only [List.length_map] at hn
  simp only [List.length_map, Tryz.underlying3, sz3, by3, ze3, Tryz.underlying4, sz4, by4, ze4, Tryz.underlying9, sz9, by9, ze9, Tryz.underlying23, sz23, by23, ze23, Tryz.underlying37, sz37, by37, ze37, fa37_0, fa37_1, fa37_2, fa37_3, fa37_4, go_sem, ↓reduceIte, reduceCtorEq, Nat.reduceEqDiff, Nat.reduceLT, ↓all_qV, Int.reduceToNat, Int.reduceLT, Int.reduceLE, Nat.reduceAdd, Nat.reduceLeDiff, Nat.reduceMul]
  refine ⟨by simp, fun _ => ?_⟩
  refine AWp.loop (T := plan0) (α := Nat) (fun i => ([(0, .pv (.sl (l.map opV))), (1, .pv (.sl (l.map opV))), (12, .pv (.int .i64 l.length)), (13, .pv (.int .i64 i))], []))
    (fun i => i ≤ l.length) (fun i => l.length - i)
    ⟨0, Nat.zero_le _, ⟨by simp [fitR, look], trivial, rfl, rfl, rfl⟩⟩ ?_
  rintro i h1
  have hi1 : IntKind.i64.wrap ((i : Int) + 1) = ((i + 1 : Nat) : Int) := by rw [i64_in _ (by omega)]; omega
  by_cases hlt : i < l.length
  · have c0 : decide ((i : Int) < (l.length : Int)) = true := by simp; omega
    have e1 := getD_op hlt
    generalize l.getD i default = x at e1
    cases x
    simp only [opV] at e1
    simp only [c0, e1, hi1, List.length_map, List.take_succ_cons, List.take_nil, Tryz.underlying3, sz3, by3, ze3, Tryz.underlying4, sz4, by4, ze4, Tryz.underlying9, sz9, by9, ze9, Tryz.underlying23, sz23, by23, ze23, Tryz.underlying37, sz37, by37, ze37, fa37_0, fa37_1, fa37_2, fa37_3, fa37_4, plan0, go_sem, ↓reduceIte, reduceCtorEq, Nat.reduceEqDiff, Nat.reduceLT, ↓all_qV, Int.reduceToNat, Int.reduceLT, Int.reduceLE, Nat.reduceAdd, Nat.reduceLeDiff, Nat.reduceMul, ev_callG, gcallK_b, gcallK_w, callGc_true, callGc_false]
    exact ⟨by kernel_rfl, ⟨by omega, by omega⟩, ⟨by omega, by omega⟩, by kernel_rfl, fun h9 => by simp [keyEqL, keyEq1] at h9, fun _ => ⟨i + 1, by omega, by omega, ⟨by simp [fitR, look], trivial, rfl, rfl, rfl⟩⟩⟩
  · have c0 : decide ((i : Int) < (l.length : Int)) = false := by simp; omega
    simp only [c0, List.length_map, Tryz.underlying3, sz3, by3, ze3, Tryz.underlying4, sz4, by4, ze4, Tryz.underlying9, sz9, by9, ze9, Tryz.underlying23, sz23, by23, ze23, Tryz.underlying37, sz37, by37, ze37, fa37_0, fa37_1, fa37_2, fa37_3, fa37_4, plan0, go_sem, ↓reduceIte, reduceCtorEq, Nat.reduceEqDiff, Nat.reduceLT, ↓all_qV, Int.reduceToNat, Int.reduceLT, Int.reduceLE, Nat.reduceAdd, Nat.reduceLeDiff, Nat.reduceMul]
noncomputable def rLfS : PSpec := on_ll (fun a b => a = b ∧ a.length ≤ 1000 ∧ ∃ l : List Lft, a = l.map lfV) (fun _ _ => .bool true)
theorem w_rLfS : PSound GG 38 rLfS := by
  refine PSound.of_wpc (C := cxP Tryz.prog U6 [] 26) (T := plan0) Tryz.func38 rfl rfl rfl (Fit.pure (G := GG) hU6 mixed) (fun args h => ?_)
  unfold rLfS at h
  obtain ⟨a, b, rfl, hp⟩ := on_ll_inv h
  refine ⟨by simp [cxP], ?_⟩
  simp only [rLfS, on_ll_eq, Tryz.f38, argL, plan0]
  obtain ⟨rfl, hn, l, rfl⟩ := hp
  simp only [List.length_map] at hn
  simp only [List.length_map, Tryz.underlying3, sz3, by3, ze3, Tryz.underlying4, sz4, by4, ze4, Tryz.underlying9, sz9, by9, ze9, Tryz.underlying24, sz24, by24, ze24, Tryz.underlying40, sz40, by40, ze40, fa40_0, fa40_1, go_sem, ↓reduceIte, reduceCtorEq, Nat.reduceEqDiff, Nat.reduceLT, ↓all_qV, Int.reduceToNat, Int.reduceLT, Int.reduceLE, Nat.reduceAdd, Nat.reduceLeDiff, Nat.reduceMul]
  refine ⟨by simp, fun _ => ?_⟩
  refine AWp.loop (T := plan0) (α := Nat) (fun i => ([(0, .pv (.sl (l.map lfV))), (1, .pv (.sl (l.map lfV))), (12, .pv (.int .i64 l.length)), (13, .pv (.int .i64 i))], []))
    (fun i => i ≤ l.length) (fun i => l.length - i)
    ⟨0, Nat.zero_le _, ⟨by simp [fitR, look], trivial, rfl, rfl, rfl⟩⟩ ?_
  rintro i h1
  have hi1 : IntKind.i64.wrap ((i : Int) + 1) = ((i + 1 : Nat) : Int) := by rw [i64_in _ (by omega)]; omega
  by_cases hlt : i < l.length
  · have c0 : decide ((i : Int) < (l.length : Int)) = true := by simp; omega
    have e1 := getD_lf hlt
    generalize l.getD i default = x at e1
    cases x
    simp only [lfV] at e1
    simp only [c0, e1, hi1, List.length_map, List.take_succ_cons, List.take_nil, Tryz.underlying3, sz3, by3, ze3, Tryz.underlying4, sz4, by4, ze4, Tryz.underlying9, sz9, by9, ze9, Tryz.underlying24, sz24, by24, ze24, Tryz.underlying40, sz40, by40, ze40, fa40_0, fa40_1, plan0, go_sem, ↓reduceIte, reduceCtorEq, Nat.reduceEqDiff, Nat.reduceLT, ↓all_qV, Int.reduceToNat, Int.reduceLT, Int.reduceLE, Nat.reduceAdd, Nat.reduceLeDiff, Nat.reduceMul, ev_callG, gcallK_b, gcallK_w, callGc_true, callGc_false]
    exact ⟨by kernel_rfl, ⟨by omega, by omega⟩, ⟨by omega, by omega⟩, by kernel_rfl, fun h9 => by simp [keyEqL, keyEq1] at h9, fun _ => ⟨i + 1, by omega, by omega, ⟨by simp [fitR, look], trivial, rfl, rfl, rfl⟩⟩⟩
  · have c0 : decide ((i : Int) < (l.length : Int)) = false := by simp; omega
    simp only [c0, List.length_map, Tryz.underlying3, sz3, by3, ze3, Tryz.underlying4, sz4, by4, ze4, Tryz.underlying9, sz9, by9, ze9, Tryz.underlying24, sz24, by24, ze24, Tryz.underlying40, sz40, by40, ze40, fa40_0, fa40_1, plan0, go_sem, ↓reduceIte, reduceCtorEq, Nat.reduceEqDiff, Nat.reduceLT, ↓all_qV, Int.reduceToNat, Int.reduceLT, Int.reduceLE, Nat.reduceAdd, Nat.reduceLeDiff, Nat.reduceMul]
noncomputable def U7 (g : FuncId) : PSpec := (putΦ (putΦ (putΦ (putΦ (putΦ U6 23 sumOS) 39 eqOS) 40 eqLS) 37 rOpS) 38 rLfS) g
theorem hU7 : TabSound GG U7 := (((((hU6.put w_sumOS).put w_eqOS).put w_eqLS).put w_rOpS).put w_rLfS)
noncomputable def sameS : PSpec := on_pp (fun a b => a = b ∧ ∃ x y z, a = carV x y z ∧ x.length ≤ 1000 ∧ y.length ≤ 1000 ∧ z.length ≤ 1000) (fun _ _ => .bool true)
theorem k_sameS_37 {args : List PV} : U7 37 args = rOpS args := rfl
theorem k_sameS_38 {args : List PV} : U7 38 args = rLfS args := rfl
theorem w_sameS : PSound GG 16 sameS := by
  refine PSound.of_wpc (C := cxP Tryz.prog U7 [] 24) (T := plan0) Tryz.func16 rfl rfl rfl (Fit.pure (G := GG) hU7 mixed) (fun args h => ?_)
  unfold sameS at h
  obtain ⟨p, q, rfl, hp⟩ := on_pp_inv h
  refine ⟨by simp [cxP], ?_⟩
  simp only [sameS, on_pp_eq, Tryz.f16, argL, plan0]
  obtain ⟨rfl, x, y, z, rfl, hx, hy, hz⟩ := hp
  simp only [carV, k_sameS_37, rOpS, on_ll_eq, k_sameS_38, rLfS, Tryz.underlying1, sz1, by1, ze1, Tryz.underlying2, sz2, by2, ze2, Tryz.underlying3, sz3, by3, ze3, Tryz.underlying4, sz4, by4, ze4, Tryz.underlying9, sz9, by9, ze9, Tryz.underlying23, sz23, by23, ze23, Tryz.underlying24, sz24, by24, ze24, Tryz.underlying26, sz26, by26, ze26, fa26_0, fa26_1, fa26_2, Tryz.underlying37, sz37, by37, ze37, fa37_0, fa37_1, fa37_2, fa37_3, fa37_4, Tryz.underlying40, sz40, by40, ze40, fa40_0, fa40_1, go_sem, ↓reduceIte, reduceCtorEq, Nat.reduceEqDiff, Nat.reduceLT, ↓all_qV, Int.reduceToNat, Int.reduceLT, Int.reduceLE, Nat.reduceAdd, Nat.reduceLeDiff, Nat.reduceMul, ev_callG, gcallK_b, gcallK_w, callGc_true, callGc_false, List.forall_mem_cons, List.not_mem_nil, PV.one, AV.one]
  exact ⟨⟨by rw [List.length_map]; exact hx, x, rfl⟩, ⟨by rw [List.length_map]; exact hy, y, rfl⟩, by rw [List.length_map]; exact hz, z, rfl⟩
theorem runC_len (l : List Opn) (left : List Lft) : (runC l left).2.1.length ≤ l.length ∧ (runC l left).2.2.length ≤ l.length := by
  have key : ∀ (s : List Opn) (z : IM × List Opn × List Opn), (s.foldl stepC z).2.1.length ≤ z.2.1.length + s.length ∧ (s.foldl stepC z).2.2.length ≤ z.2.2.length + s.length := by
    intro s
    induction s with
    | nil => intro z; simp
    | cons x r ih =>
      intro z
      have := ih (stepC z x)
      have h1 : (stepC z x).2.1.length ≤ z.2.1.length + 1 := by
        simp only [stepC]; cases decide (0 < covF z.1 x) <;> simp
      have h2 : (stepC z x).2.2.length ≤ z.2.2.length + 1 := by
        simp only [stepC]; cases decide (0 < x.a - covF z.1 x) <;> simp
      simp only [List.foldl_cons, List.length_cons]
      omega
  have := key (isort ltO l) (restI left, [], [])
  rw [isort_length] at this
  simpa [runC] using this
theorem lapF_len (m : IM) : ∀ left, (lapF m left).length ≤ left.length
  | [] => Nat.le_refl _
  | x :: r => by
    have := lapF_len m r
    simp only [lapF, List.length_cons]
    cases decide (0 < aget x.k m) <;> simp <;> omega
noncomputable def rightS : PSpec := on_llp (fun a b c => ∃ (l : List Opn) (left : List Lft), a = l.map opV ∧ b = left.map lfV ∧ isOps l ∧ isLfs left ∧ l.length ≤ 12 ∧ left.length ≤ 1000 ∧ chkF l left = 0 ∧ c = carV (runC l left).2.1 (runC l left).2.2 (lapF (runC l left).1 left)) (fun _ _ _ => .bool true)
theorem k_rightS_12 {args : List PV} : U7 12 args = carryS args := rfl
theorem k_rightS_39 {args : List PV} : U7 39 args = eqOS args := rfl
theorem k_rightS_40 {args : List PV} : U7 40 args = eqLS args := rfl
theorem w_rightS : PSound GG 17 rightS := by
  refine PSound.of_wpc (C := cxP Tryz.prog U7 [] 38) (T := plan0) Tryz.func17 rfl rfl rfl (Fit.pure (G := GG) hU7 mixed) (fun args h => ?_)
  unfold rightS at h
  obtain ⟨a, b, c, rfl, hp⟩ := on_llp_inv h
  refine ⟨by simp [cxP], ?_⟩
  simp only [rightS, on_llp_eq, Tryz.f17, argL, plan0]
  obtain ⟨l, left, rfl, rfl, hl, hf, hn, hm, hc, rfl⟩ := hp
  have h1 := runC_len l left
  have h2 := lapF_len (runC l left).1 left
  have hr : carF l left = .tup [carV (runC l left).2.1 (runC l left).2.2 (lapF (runC l left).1 left), .int .i64 0] := by unfold carF; rw [hc]; rfl
  simp only [map_opOf, map_lfOf, hr, carV, List.length_map, k_rightS_12, carryS, on_ll_eq, k_rightS_39, eqOS, k_rightS_40, eqLS, Tryz.underlying1, sz1, by1, ze1, Tryz.underlying2, sz2, by2, ze2, Tryz.underlying3, sz3, by3, ze3, Tryz.underlying4, sz4, by4, ze4, Tryz.underlying9, sz9, by9, ze9, Tryz.underlying23, sz23, by23, ze23, Tryz.underlying24, sz24, by24, ze24, Tryz.underlying26, sz26, by26, ze26, fa26_0, fa26_1, fa26_2, Tryz.underlying37, sz37, by37, ze37, fa37_0, fa37_1, fa37_2, fa37_3, fa37_4, Tryz.underlying40, sz40, by40, ze40, fa40_0, fa40_1, Tryz.underlying42, sz42, by42, ze42, Tryz.underlying43, sz43, by43, ze43, go_sem, ↓reduceIte, reduceCtorEq, Nat.reduceEqDiff, Nat.reduceLT, ↓all_qV, Int.reduceToNat, Int.reduceLT, Int.reduceLE, Nat.reduceAdd, Nat.reduceLeDiff, Nat.reduceMul, ev_callG, gcallK_b, gcallK_w, callGc_true, callGc_false, List.forall_mem_cons, List.not_mem_nil, PV.one, AV.one]
  exact ⟨⟨⟨l, rfl, hl⟩, ⟨left, rfl, hf⟩, hn, by omega⟩, ⟨by omega, _, rfl⟩, ⟨by omega, _, rfl⟩, by omega, _, rfl⟩
noncomputable def saneS : PSpec := on_ (True) (.bool true)
theorem saneCar : carF [⟨1, 1, [49], 1, 6⟩, ⟨1, 2, [49], 1, 7⟩] [⟨[49], 10⟩] = .tup [.agg [.sl [.agg [.int .i64 1, .int .i64 1, .str [49], .int .i64 1, .int .i64 6], .agg [.int .i64 1, .int .i64 2, .str [49], .int .i64 1, .int .i64 4]], .sl [.agg [.int .i64 1, .int .i64 2, .str [49], .int .i64 1, .int .i64 3]], .sl []], .int .i64 0] := by
  kernel_rfl
theorem k_saneS_12 {args : List PV} : U7 12 args = carryS args := rfl
theorem w_saneS : PSound GG 5 saneS := by
  refine PSound.of_wpc (C := cxP Tryz.prog U7 [] 56) (T := plan0) Tryz.func5 rfl rfl rfl (Fit.pure (G := GG) hU7 mixed) (fun args h => ?_)
  unfold saneS at h
  obtain ⟨rfl, hp⟩ := on__inv h
  refine ⟨by simp [cxP], ?_⟩
  simp only [saneS, on__eq, Tryz.f5, argL, plan0]
  simp only [opOf_agg, lfOf_agg, saneCar, k_saneS_12, carryS, on_ll_eq, ev_rowlit0, Tryz.underlying1, sz1, by1, ze1, Tryz.underlying2, sz2, by2, ze2, Tryz.underlying3, sz3, by3, ze3, Tryz.underlying4, sz4, by4, ze4, Tryz.underlying9, sz9, by9, ze9, Tryz.underlying23, sz23, by23, ze23, Tryz.underlying24, sz24, by24, ze24, Tryz.underlying26, sz26, by26, ze26, fa26_0, fa26_1, fa26_2, Tryz.underlying37, sz37, by37, ze37, fa37_0, fa37_1, fa37_2, fa37_3, fa37_4, Tryz.underlying40, sz40, by40, ze40, fa40_0, fa40_1, Tryz.underlying42, sz42, by42, ze42, Tryz.underlying43, sz43, by43, ze43, go_sem, ↓reduceIte, reduceCtorEq, Nat.reduceEqDiff, Nat.reduceLT, ↓all_qV, Int.reduceToNat, Int.reduceLT, Int.reduceLE, Nat.reduceAdd, Nat.reduceLeDiff, Nat.reduceMul, ev_callG, gcallK_b, gcallK_w, callGc_true, callGc_false, List.forall_mem_cons, List.not_mem_nil, PV.one, AV.one]
  exact ⟨⟨[⟨1, 1, [49], 1, 6⟩, ⟨1, 2, [49], 1, 7⟩], rfl, by unfold isOps; decide⟩, [⟨[49], 10⟩], rfl, by unfold isLfs; decide⟩
noncomputable def U8 (g : FuncId) : PSpec := (putΦ (putΦ (putΦ U7 16 sameS) 17 rightS) 5 saneS) g
theorem hU8 : TabSound GG U8 := (((hU7.put w_sameS).put w_rightS).put w_saneS)
end Go.AM
namespace Go.AM
open Go Go.Proofs Go.IntWalk
set_option maxRecDepth 100000
set_option maxHeartbeats 1000000
set_option linter.unusedSimpArgs false
set_option linter.unusedVariables false
theorem four_parts : ∀ a, a ∈ four → (0 : Int) < (partsR a).length ∧ a.length ≤ 30 := by decide +kernel
theorem opsG_mem {l : List Opn} (h : opsG l) {x : Opn} (hx : x ∈ l) : ∃ i, opG i x := by
  obtain ⟨i, hi⟩ := List.mem_iff_getElem?.1 hx
  exact ⟨i, h i x hi⟩
theorem opsG_four {l : List Opn} (h : opsG l) : ∀ x, x ∈ l → x.k ∈ four := fun x hx => by obtain ⟨i, h⟩ := opsG_mem h hx; exact h.2.2.1
def lfR (left : List Lft) : Prop := (left.map Lft.k).Sublist four ∧ ∀ x, x ∈ left → 0 ≤ x.a ∧ x.a ≤ 1000
theorem lfG_R {left : List Lft} (h : lfG left) : lfR left := ⟨h.1, fun x hx => by have := h.2 x hx; unfold amL at this; omega⟩
theorem lfR_four {left : List Lft} (h : lfR left) : ∀ x, x ∈ left → x.k ∈ four := fun x hx => h.1.subset (List.mem_map.2 ⟨x, hx, rfl⟩)
theorem lfR_len {left : List Lft} (h : lfR left) : left.length ≤ 4 := by have := h.1.length_le; simpa [four] using this
def sumK (c : List UInt8) : List Opn → Int
  | [] => 0
  | x :: r => (if x.k = c then x.a else 0) + sumK c r
theorem sumK_append (c : List UInt8) : ∀ a b : List Opn, sumK c (a ++ b) = sumK c a + sumK c b
  | [], b => by simp [sumK]
  | x :: r, b => by simp only [List.cons_append, sumK, sumK_append c r b]; omega
structure Inv (m0 : IM) (s : List Opn) (z : IM × List Opn × List Opn) : Prop where
  nn : ∀ c, 0 ≤ aget c z.1
  left : ∀ c, aget c z.1 + sumK c z.2.1 = aget c m0
  all : ∀ c, sumK c z.2.1 + sumK c z.2.2 = sumK c s
  nc : ∀ c, 0 ≤ sumK c z.2.1
  ns : ∀ c, 0 ≤ sumK c z.2.2
  short : ∀ c, 0 < sumK c z.2.2 → aget c z.1 = 0
  am : (∀ x, x ∈ z.2.1 → x.k ∈ four ∧ 0 ≤ x.a ∧ x.a ≤ 100) ∧ ∀ x, x ∈ z.2.2 → x.k ∈ four ∧ 0 ≤ x.a ∧ x.a ≤ 100
theorem Inv.step {m0 : IM} {s : List Opn} {z : IM × List Opn × List Opn} (h : Inv m0 s z) {x : Opn} (hx : x.k ∈ four ∧ 1 ≤ x.a ∧ x.a ≤ 100) : Inv m0 (s ++ [x]) (stepC z x) := by
  obtain ⟨m, ca, sh⟩ := z
  obtain ⟨h1, h2, h3, h4, h5, h6, h7, h8⟩ := h
  simp only at h1 h2 h3 h4 h5 h6 h7 h8
  have g0 := h1 x.k
  have gcv : covF m x = if aget x.k m < x.a then aget x.k m else x.a := rfl
  have e1 : ∀ c, sumK c (bif decide (0 < covF m x) then ca ++ [{ x with a := covF m x }] else ca) = sumK c ca + if x.k = c then covF m x else 0 := by
    intro c
    cases hd : decide (0 < covF m x) with
    | true => rw [cond_true, sumK_append]; simp [sumK]
    | false =>
      rw [cond_false]
      have : covF m x = 0 := by simp only [decide_eq_false_iff_not] at hd; split at gcv <;> omega
      rw [this]; simp
  have e2 : ∀ c, sumK c (bif decide (0 < x.a - covF m x) then sh ++ [{ x with a := x.a - covF m x }] else sh) = sumK c sh + if x.k = c then x.a - covF m x else 0 := by
    intro c
    cases hd : decide (0 < x.a - covF m x) with
    | true => rw [cond_true, sumK_append]; simp [sumK]
    | false =>
      rw [cond_false]
      have : x.a - covF m x = 0 := by simp only [decide_eq_false_iff_not] at hd; split at gcv <;> omega
      rw [this]; simp
  have e3 : ∀ c, aget c (aput x.k (aget x.k m - covF m x) m) = aget c m - if x.k = c then covF m x else 0 := by
    intro c
    rw [aget_aput]
    by_cases e : x.k = c
    · subst e; simp
    · have : (c == x.k) = false := by simpa using fun h => e h.symm
      rw [this]; simp [e]
  have cv : 0 ≤ covF m x ∧ covF m x ≤ x.a ∧ covF m x ≤ aget x.k m ∧ (covF m x < x.a → covF m x = aget x.k m) := by
    rw [gcv]; split <;> omega
  refine ⟨fun c => ?_, fun c => ?_, fun c => ?_, fun c => ?_, fun c => ?_, fun c hc => ?_, ?_, ?_⟩
  · simp only [stepC]; rw [e3]
    have := h1 c
    split
    · rename_i e; subst e; omega
    · omega
  · simp only [stepC]; rw [e3, e1]
    have := h2 c
    omega
  · simp only [stepC]; rw [e1, e2, sumK_append]
    have := h3 c
    simp only [sumK]
    split <;> omega
  · simp only [stepC]; rw [e1]
    have := h4 c
    split <;> omega
  · simp only [stepC]; rw [e2]
    have := h5 c
    split <;> omega
  · simp only [stepC] at hc ⊢; rw [e2] at hc; rw [e3]
    have a1 := h5 c
    have a2 := h6 c
    have a3 := h1 c
    split
    · rename_i e; subst e
      rw [if_pos rfl] at hc
      by_cases h9 : 0 < sumK x.k sh
      · have := a2 h9; omega
      · have := cv.2.2.2 (by omega); omega
    · rename_i e; rw [if_neg e] at hc; have := a2 (by omega); omega
  · simp only [stepC]
    intro y hy
    cases hd : decide (0 < covF m x) with
    | true =>
      rw [hd, cond_true] at hy
      rcases List.mem_append.1 hy with hy | hy
      · exact h7 y hy
      · simp only [List.mem_singleton] at hy; subst hy; exact ⟨hx.1, by simp only; omega, by simp only; omega⟩
    | false => rw [hd, cond_false] at hy; exact h7 y hy
  · simp only [stepC]
    intro y hy
    cases hd : decide (0 < x.a - covF m x) with
    | true =>
      rw [hd, cond_true] at hy
      rcases List.mem_append.1 hy with hy | hy
      · exact h8 y hy
      · simp only [List.mem_singleton] at hy; subst hy; exact ⟨hx.1, by simp only; omega, by simp only; omega⟩
    | false => rw [hd, cond_false] at hy; exact h8 y hy
theorem Inv.run {m0 : IM} (h0 : ∀ c, 0 ≤ aget c m0) : ∀ {r s : List Opn} {z : IM × List Opn × List Opn}, Inv m0 s z → (∀ x, x ∈ r → x.k ∈ four ∧ 1 ≤ x.a ∧ x.a ≤ 100) → Inv m0 (s ++ r) (r.foldl stepC z)
  | [], s, z, h, _ => by rw [List.append_nil]; exact h
  | x :: r, s, z, h, hr => by
    have := Inv.run h0 (h.step (hr x List.mem_cons_self)) (fun y hy => hr y (List.mem_cons_of_mem _ hy))
    rw [List.append_assoc] at this
    exact this
end Go.AM
