/-
  A part of a proof: see the last text of this claim for what is proved.
-/
import Derived.Test.YtdbnifmcikljdaaGreatDoorCX
import Derived.Test.YtdbnifmcikljdaaGreatDoorR03
import Derived.Test.YtdbnifmcikljdaaGreatDoorZMa
import Derived.Test.YtdbnifmcikljdaaGreatDoorSO
namespace Go.AM
open Go Go.Proofs Go.IntWalk
set_option maxRecDepth 100000
set_option maxHeartbeats 1000000
set_option linter.unusedSimpArgs false
set_option linter.unusedVariables false
structure Cyl where
  n : Int
  d : Int
  k : List UInt8
  y : Int
  a : Int
  deriving DecidableEq, Inhabited
def cyV (x : Cyl) : PV := .agg [.int .i64 x.n, .int .i64 x.d, .str x.k, .int .i64 x.y, .int .i64 x.a]
theorem getD_cy {l : List Cyl} {i : Nat} (h : i < l.length) : (l.map cyV).getD i default = cyV (l.getD i default) := by
  simp [List.getD_eq_getElem?_getD, h]
def isOpB (e : PV) : Prop := ∃ x : Opn, e = opV x ∧ x.k.length ≤ 1000000000000 ∧ opB x = true
def isCyB (e : PV) : Prop := ∃ x : Cyl, e = cyV x ∧ vldM x.a = true
noncomputable def lin1S : PSpec := on_p isOpB (fun e => .bool false)
theorem k_lin1S_30 {args : List PV} : U8 30 args = openS args := rfl
theorem w_lin1S : PSound GG 42 lin1S := by
  refine PSound.of_wpc (C := cxP Tryz.prog U8 [] 6) (T := plan0) Tryz.func42 rfl rfl rfl (Fit.pure (G := GG) hU8 mixed) (fun args h => ?_)
  unfold lin1S at h
  obtain ⟨e, rfl, hp⟩ := on_p_inv h
  refine ⟨by simp [cxP], ?_⟩
  simp only [lin1S, on_p_eq, Tryz.f42, argL, plan0]
  obtain ⟨⟨o, c, k, y, a⟩, rfl, hk, hb⟩ := hp
  simp only [opV, opOf_agg, hb, k_lin1S_30, openS, on_p_eq, List.take_succ_cons, List.take_nil, Tryz.underlying3, sz3, by3, ze3, Tryz.underlying4, sz4, by4, ze4, Tryz.underlying9, sz9, by9, ze9, Tryz.underlying37, sz37, by37, ze37, fa37_0, fa37_1, fa37_2, fa37_3, fa37_4, go_sem, ↓reduceIte, reduceCtorEq, Nat.reduceEqDiff, Nat.reduceLT, ↓all_qV, Int.reduceToNat, Int.reduceLT, Int.reduceLE, Nat.reduceAdd, Nat.reduceLeDiff, Nat.reduceMul, ev_callG, gcallK_b, gcallK_w, callGc_true, callGc_false, List.forall_mem_cons, List.not_mem_nil, PV.one, AV.one]
  exact ⟨⟨o, c, k, y, a⟩, rfl, hk⟩
noncomputable def lin2S : PSpec := on_pp (fun a b => isOp a ∧ isOp b) (fun a b => .int .i64 (cmpC (opOf a).k (opOf b).k))
theorem k_lin2S_33 {args : List PV} : U8 33 args = cmpCS args := rfl
theorem w_lin2S : PSound GG 44 lin2S := by
  refine PSound.of_wpc (C := cxP Tryz.prog U8 [] 10) (T := plan0) Tryz.func44 rfl rfl rfl (Fit.pure (G := GG) hU8 mixed) (fun args h => ?_)
  unfold lin2S at h
  obtain ⟨p, q, rfl, hp⟩ := on_pp_inv h
  refine ⟨by simp [cxP], ?_⟩
  simp only [lin2S, on_pp_eq, Tryz.f44, argL, plan0]
  obtain ⟨⟨⟨o, c, k, y, a⟩, rfl, hk⟩, ⟨⟨o', c', k', y', a'⟩, rfl, hk'⟩⟩ := hp
  simp only [opV, opOf_agg, k_lin2S_33, cmpCS, on_ss_eq, List.take_succ_cons, List.take_nil, Tryz.underlying2, sz2, by2, ze2, Tryz.underlying3, sz3, by3, ze3, Tryz.underlying9, sz9, by9, ze9, Tryz.underlying37, sz37, by37, ze37, fa37_0, fa37_1, fa37_2, fa37_3, fa37_4, go_sem, ↓reduceIte, reduceCtorEq, Nat.reduceEqDiff, Nat.reduceLT, ↓all_qV, Int.reduceToNat, Int.reduceLT, Int.reduceLE, Nat.reduceAdd, Nat.reduceLeDiff, Nat.reduceMul, ev_callG, gcallK_b, gcallK_w, callGc_true, callGc_false, List.forall_mem_cons, List.not_mem_nil, PV.one, AV.one]
  exact ⟨hk, hk'⟩
noncomputable def lin3S : PSpec := on_p isCyB (fun e => .bool false)
theorem k_lin3S_47 {args : List PV} : U8 47 args = validMS args := rfl
theorem w_lin3S : PSound GG 46 lin3S := by
  refine PSound.of_wpc (C := cxP Tryz.prog U8 [] 7) (T := plan0) Tryz.func46 rfl rfl rfl (Fit.pure (G := GG) hU8 mixed) (fun args h => ?_)
  unfold lin3S at h
  obtain ⟨e, rfl, hp⟩ := on_p_inv h
  refine ⟨by simp [cxP], ?_⟩
  simp only [lin3S, on_p_eq, Tryz.f46, argL, plan0]
  obtain ⟨⟨n, d, k, y, a⟩, rfl, hb⟩ := hp
  simp only at hb
  simp only [cyV, hb, k_lin3S_47, validMS, on_i_eq, List.take_succ_cons, List.take_nil, Tryz.underlying3, sz3, by3, ze3, Tryz.underlying4, sz4, by4, ze4, Tryz.underlying9, sz9, by9, ze9, Tryz.underlying80, sz80, by80, ze80, fa80_0, fa80_1, fa80_2, fa80_3, fa80_4, go_sem, ↓reduceIte, reduceCtorEq, Nat.reduceEqDiff, Nat.reduceLT, ↓all_qV, Int.reduceToNat, Int.reduceLT, Int.reduceLE, Nat.reduceAdd, Nat.reduceLeDiff, Nat.reduceMul, ev_callG, gcallK_b, gcallK_w, callGc_true, callGc_false, List.forall_mem_cons, List.not_mem_nil, PV.one, AV.one]
noncomputable def U9 (g : FuncId) : PSpec := (putΦ (putΦ (putΦ U8 42 lin1S) 44 lin2S) 46 lin3S) g
theorem hU9 : TabSound GG U9 := (((hU8.put w_lin1S).put w_lin2S).put w_lin3S)
end Go.AM
namespace Go.AM
open Go Go.Proofs Go.IntWalk
set_option maxRecDepth 100000
set_option maxHeartbeats 1000000
set_option linter.unusedSimpArgs false
set_option linter.unusedVariables false
theorem cmpL_neg : ∀ p q : List Int, cmpL q p = -cmpL p q
  | [], [] => rfl
  | [], _ :: _ => rfl
  | _ :: _, [] => rfl
  | x :: p, y :: q => by
    have ih := cmpL_neg p q
    simp only [cmpL]
    (repeat' split) <;> omega
theorem cmpL_le : ∀ p q r : List Int, cmpL p q ≤ 0 → cmpL q r ≤ 0 → cmpL p r ≤ 0
  | [], _, [], _, _ => by simp [cmpL]
  | [], _, _ :: _, _, _ => by simp [cmpL]
  | _ :: _, [], _, h, _ => by simp [cmpL] at h
  | _ :: _, _ :: _, [], _, h => by simp [cmpL] at h
  | x :: p, y :: q, z :: r, h1, h2 => by
    have ih := cmpL_le p q r
    simp only [cmpL] at h1 h2 ⊢
    revert h1 h2
    (repeat' split) <;> omega
def ltQ (e d : PV) : Bool := decide (cmpL (partsR (opOf e).k) (partsR (opOf d).k) < 0)
theorem ltQ_weak : Weak ltQ where
  t a b c h1 h2 := by
    unfold ltQ at h1 h2 ⊢
    have h1 := of_decide_eq_false h1
    have h2 := of_decide_eq_false h2
    refine decide_eq_false (fun h => ?_)
    have n1 := cmpL_neg (partsR (opOf b).k) (partsR (opOf a).k)
    have n2 := cmpL_neg (partsR (opOf c).k) (partsR (opOf b).k)
    have n3 := cmpL_neg (partsR (opOf c).k) (partsR (opOf a).k)
    have := cmpL_le (partsR (opOf a).k) (partsR (opOf b).k) (partsR (opOf c).k) (by omega) (by omega)
    omega
  a a b h1 := by
    unfold ltQ at h1 ⊢
    have h1 := of_decide_eq_true h1
    have n1 := cmpL_neg (partsR (opOf a).k) (partsR (opOf b).k)
    exact decide_eq_false (by omega)
def isE (e : PV) : Prop := ∃ x : Opn, e = opV x ∧ x.k.length ≤ 1000000000000 ∧ 0 < (partsR x.k).length
noncomputable def cmpS2 : PSpec := on_pp (fun a b => isE a ∧ isE b) (fun a b => .int .i64 (cmpL (partsR (opOf a).k) (partsR (opOf b).k)))
theorem k_cmpS2_33 {args : List PV} : U8 33 args = cmpCS args := rfl
theorem w_cmpS2 : PSound GG 44 cmpS2 := by
  refine PSound.of_wpc (C := cxP Tryz.prog U8 [] 10) (T := plan0) Tryz.func44 rfl rfl rfl (Fit.pure (G := GG) hU8 mixed) (fun args h => ?_)
  unfold cmpS2 at h
  obtain ⟨p, q, rfl, hp⟩ := on_pp_inv h
  refine ⟨by simp [cxP], ?_⟩
  simp only [cmpS2, on_pp_eq, Tryz.f44, argL, plan0]
  obtain ⟨⟨⟨o, c, k, y, a⟩, rfl, hk, hv⟩, ⟨⟨o', c', k', y', a'⟩, rfl, hk', hv'⟩⟩ := hp
  simp only at hv hv' hk hk'
  have hc : cmpC k k' = cmpL (partsR k) (partsR k') := by
    unfold cmpC
    have : (((partsR k).length : Int) == 0) = false := by simp; intro e; rw [e] at hv; simp at hv
    rw [this]; rfl
  simp only [opV, opOf_agg, hc, k_cmpS2_33, cmpCS, on_ss_eq, List.take_succ_cons, List.take_nil, Tryz.underlying2, sz2, by2, ze2, Tryz.underlying3, sz3, by3, ze3, Tryz.underlying9, sz9, by9, ze9, Tryz.underlying37, sz37, by37, ze37, fa37_0, fa37_1, fa37_2, fa37_3, fa37_4, go_sem, ↓reduceIte, reduceCtorEq, Nat.reduceEqDiff, Nat.reduceLT, ↓all_qV, Int.reduceToNat, Int.reduceLT, Int.reduceLE, Nat.reduceAdd, Nat.reduceLeDiff, Nat.reduceMul, ev_callG, gcallK_b, gcallK_w, callGc_true, callGc_false, List.forall_mem_cons, List.not_mem_nil, PV.one, AV.one]
  exact ⟨hk, hk'⟩
noncomputable def UU (g : FuncId) : PSpec := (putΦ U9 44 cmpS2) g
theorem hUU : TabSound GG UU := (hU9.put w_cmpS2)
end Go.AM
