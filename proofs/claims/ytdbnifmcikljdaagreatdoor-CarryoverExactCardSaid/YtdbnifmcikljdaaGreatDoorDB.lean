/-
  A part of a proof: see the last text of this claim for what is proved.
-/
import Derived.Test.YtdbnifmcikljdaaGreatDoorDA
import Derived.Test.YtdbnifmcikljdaaGreatDoorZMa
namespace Go.AM
open Go Go.Proofs Go.IntWalk
set_option maxRecDepth 100000
set_option maxHeartbeats 1000000
set_option linter.unusedSimpArgs false
set_option linter.unusedVariables false
def sumW (c : List UInt8) (n : Int) : List Opn → Int
  | [] => n
  | x :: r => sumW c (bif undC x.k c then IntKind.i64.wrap (n + x.a) else n) r
theorem sumW_snoc (c : List UInt8) : ∀ (l : List Opn) (n : Int) (x : Opn), sumW c n (l ++ [x]) = bif undC x.k c then IntKind.i64.wrap (sumW c n l + x.a) else sumW c n l
  | [], n, x => rfl
  | y :: l, n, x => by rw [List.cons_append, sumW, sumW_snoc c l]; rfl
noncomputable def sumPW : PSpec := on_ls (fun es c => (∃ l : List Opn, es = l.map opV ∧ isOps l ∧ l.length ≤ 1000) ∧ c.length ≤ 1000000000000) (fun es c => .int .i64 (sumW c 0 (es.map opOf)))
theorem k_sumPW_48 {args : List PV} : UZ 48 args = underCS args := rfl
theorem w_sumPW : PSound GG 23 sumPW := by
  refine PSound.of_wpc (C := cxP Tryz.prog UZ [] 24) (T := plan0) Tryz.func23 rfl rfl rfl (Fit.pure (G := GG) hUZ mixed) (fun args h => ?_)
  unfold sumPW at h
  obtain ⟨es, c, rfl, hp⟩ := on_ls_inv h
  refine ⟨by simp [cxP], ?_⟩
  simp only [sumPW, on_ls_eq, Tryz.f23, argL, plan0]
  obtain ⟨⟨l, rfl, hl, hn⟩, hc⟩ := hp
  simp only [map_opOf, List.length_map, k_sumPW_48, underCS, on_ss_eq, Tryz.underlying2, sz2, by2, ze2, Tryz.underlying3, sz3, by3, ze3, Tryz.underlying4, sz4, by4, ze4, Tryz.underlying9, sz9, by9, ze9, Tryz.underlying23, sz23, by23, ze23, Tryz.underlying37, sz37, by37, ze37, fa37_0, fa37_1, fa37_2, fa37_3, fa37_4, go_sem, ↓reduceIte, reduceCtorEq, Nat.reduceEqDiff, Nat.reduceLT, ↓all_qV, Int.reduceToNat, Int.reduceLT, Int.reduceLE, Nat.reduceAdd, Nat.reduceLeDiff, Nat.reduceMul]
  refine AWp.loop (T := plan0) (α := Nat) (fun i => ([(1, .pv (.str c)), (5, .pv (.int .i64 (sumW c 0 (l.take i)))), (8, .pv (.sl (l.map opV))), (9, .pv (.int .i64 l.length)), (10, .pv (.int .i64 i))], [])) (fun i => i ≤ l.length) (fun i => l.length - i)
    ⟨0, Nat.zero_le _, ⟨by simp [fitR, look, sumW], trivial, rfl, rfl, rfl⟩⟩ ?_
  intro i h1
  have hi1 : IntKind.i64.wrap ((i : Int) + 1) = ((i + 1 : Nat) : Int) := by rw [i64_in _ (by omega)]; omega
  by_cases hlt : i < l.length
  · have c0 : decide ((i : Int) < (l.length : Int)) = true := by simp; omega
    have e1 := getD_op hlt
    have htk := take_succ' hlt
    have hk := hl _ (mem_getD' hlt)
    have hst : sumW c 0 (l.take (i + 1)) = bif undC (l.getD i default).k c then IntKind.i64.wrap (sumW c 0 (l.take i) + (l.getD i default).a) else sumW c 0 (l.take i) := by rw [htk, sumW_snoc]
    generalize l.getD i default = x at e1 hst hk
    generalize sumW c 0 (l.take i) = T at hst ⊢
    obtain ⟨o, cc, k, y, a⟩ := x
    simp only [opV] at e1
    simp only at hst hk
    simp only [c0, e1, hi1, opOf_agg, List.length_map, List.take_succ_cons, List.take_nil, k_sumPW_48, underCS, on_ss_eq, Tryz.underlying2, sz2, by2, ze2, Tryz.underlying3, sz3, by3, ze3, Tryz.underlying4, sz4, by4, ze4, Tryz.underlying9, sz9, by9, ze9, Tryz.underlying23, sz23, by23, ze23, Tryz.underlying37, sz37, by37, ze37, fa37_0, fa37_1, fa37_2, fa37_3, fa37_4, plan0, go_sem, ↓reduceIte, reduceCtorEq, Nat.reduceEqDiff, Nat.reduceLT, ↓all_qV, Int.reduceToNat, Int.reduceLT, Int.reduceLE, Nat.reduceAdd, Nat.reduceLeDiff, Nat.reduceMul, ev_callG, gcallK_b, gcallK_w, callGc_true, callGc_false, List.forall_mem_cons, List.not_mem_nil, PV.one, AV.one]
    refine ⟨⟨by omega, by omega⟩, ⟨hk, hc⟩, fun h9 => ⟨i + 1, by omega, by omega, ⟨?_, trivial, rfl, rfl, rfl⟩⟩, fun h9 => ⟨i + 1, by omega, by omega, ⟨?_, trivial, rfl, rfl, rfl⟩⟩⟩
    · rw [hst, h9]; simp [fitR, look]
    · rw [hst, h9]; simp [fitR, look]
  · have c0 : decide ((i : Int) < (l.length : Int)) = false := by simp; omega
    rw [List.take_of_length_le (by omega)]
    simp only [c0, List.length_map, Tryz.underlying2, sz2, by2, ze2, Tryz.underlying3, sz3, by3, ze3, Tryz.underlying4, sz4, by4, ze4, Tryz.underlying9, sz9, by9, ze9, Tryz.underlying23, sz23, by23, ze23, Tryz.underlying37, sz37, by37, ze37, fa37_0, fa37_1, fa37_2, fa37_3, fa37_4, plan0, go_sem, ↓reduceIte, reduceCtorEq, Nat.reduceEqDiff, Nat.reduceLT, ↓all_qV, Int.reduceToNat, Int.reduceLT, Int.reduceLE, Nat.reduceAdd, Nat.reduceLeDiff, Nat.reduceMul]
noncomputable def sumRW : PSpec := on_ls (fun es c => (∃ l : List Opn, es = l.map opV ∧ isOps l ∧ l.length ≤ 1000) ∧ c.length ≤ 1000000000000) (fun es c => .int .i64 (sumW c 0 (es.map opOf)))
theorem k_sumRW_49 {args : List PV} : UZ 49 args = rundS args := rfl
theorem w_sumRW : PSound GG 24 sumRW := by
  refine PSound.of_wpc (C := cxP Tryz.prog UZ [] 24) (T := plan0) Tryz.func24 rfl rfl rfl (Fit.pure (G := GG) hUZ mixed) (fun args h => ?_)
  unfold sumRW at h
  obtain ⟨es, c, rfl, hp⟩ := on_ls_inv h
  refine ⟨by simp [cxP], ?_⟩
  simp only [sumRW, on_ls_eq, Tryz.f24, argL, plan0]
  obtain ⟨⟨l, rfl, hl, hn⟩, hc⟩ := hp
  simp only [map_opOf, List.length_map, k_sumRW_49, rundS, on_ss_eq, Tryz.underlying2, sz2, by2, ze2, Tryz.underlying3, sz3, by3, ze3, Tryz.underlying4, sz4, by4, ze4, Tryz.underlying9, sz9, by9, ze9, Tryz.underlying23, sz23, by23, ze23, Tryz.underlying37, sz37, by37, ze37, fa37_0, fa37_1, fa37_2, fa37_3, fa37_4, go_sem, ↓reduceIte, reduceCtorEq, Nat.reduceEqDiff, Nat.reduceLT, ↓all_qV, Int.reduceToNat, Int.reduceLT, Int.reduceLE, Nat.reduceAdd, Nat.reduceLeDiff, Nat.reduceMul]
  refine AWp.loop (T := plan0) (α := Nat) (fun i => ([(1, .pv (.str c)), (5, .pv (.int .i64 (sumW c 0 (l.take i)))), (8, .pv (.sl (l.map opV))), (9, .pv (.int .i64 l.length)), (10, .pv (.int .i64 i))], [])) (fun i => i ≤ l.length) (fun i => l.length - i)
    ⟨0, Nat.zero_le _, ⟨by simp [fitR, look, sumW], trivial, rfl, rfl, rfl⟩⟩ ?_
  intro i h1
  have hi1 : IntKind.i64.wrap ((i : Int) + 1) = ((i + 1 : Nat) : Int) := by rw [i64_in _ (by omega)]; omega
  by_cases hlt : i < l.length
  · have c0 : decide ((i : Int) < (l.length : Int)) = true := by simp; omega
    have e1 := getD_op hlt
    have htk := take_succ' hlt
    have hk := hl _ (mem_getD' hlt)
    have hst : sumW c 0 (l.take (i + 1)) = bif undC (l.getD i default).k c then IntKind.i64.wrap (sumW c 0 (l.take i) + (l.getD i default).a) else sumW c 0 (l.take i) := by rw [htk, sumW_snoc]
    generalize l.getD i default = x at e1 hst hk
    generalize sumW c 0 (l.take i) = T at hst ⊢
    obtain ⟨o, cc, k, y, a⟩ := x
    simp only [opV] at e1
    simp only at hst hk
    simp only [c0, e1, hi1, opOf_agg, List.length_map, List.take_succ_cons, List.take_nil, k_sumRW_49, rundS, on_ss_eq, Tryz.underlying2, sz2, by2, ze2, Tryz.underlying3, sz3, by3, ze3, Tryz.underlying4, sz4, by4, ze4, Tryz.underlying9, sz9, by9, ze9, Tryz.underlying23, sz23, by23, ze23, Tryz.underlying37, sz37, by37, ze37, fa37_0, fa37_1, fa37_2, fa37_3, fa37_4, plan0, go_sem, ↓reduceIte, reduceCtorEq, Nat.reduceEqDiff, Nat.reduceLT, ↓all_qV, Int.reduceToNat, Int.reduceLT, Int.reduceLE, Nat.reduceAdd, Nat.reduceLeDiff, Nat.reduceMul, ev_callG, gcallK_b, gcallK_w, callGc_true, callGc_false, List.forall_mem_cons, List.not_mem_nil, PV.one, AV.one]
    refine ⟨⟨by omega, by omega⟩, ⟨hk, hc⟩, fun h9 => ⟨i + 1, by omega, by omega, ⟨?_, trivial, rfl, rfl, rfl⟩⟩, fun h9 => ⟨i + 1, by omega, by omega, ⟨?_, trivial, rfl, rfl, rfl⟩⟩⟩
    · rw [hst, h9]; simp [fitR, look]
    · rw [hst, h9]; simp [fitR, look]
  · have c0 : decide ((i : Int) < (l.length : Int)) = false := by simp; omega
    rw [List.take_of_length_le (by omega)]
    simp only [c0, List.length_map, Tryz.underlying2, sz2, by2, ze2, Tryz.underlying3, sz3, by3, ze3, Tryz.underlying4, sz4, by4, ze4, Tryz.underlying9, sz9, by9, ze9, Tryz.underlying23, sz23, by23, ze23, Tryz.underlying37, sz37, by37, ze37, fa37_0, fa37_1, fa37_2, fa37_3, fa37_4, plan0, go_sem, ↓reduceIte, reduceCtorEq, Nat.reduceEqDiff, Nat.reduceLT, ↓all_qV, Int.reduceToNat, Int.reduceLT, Int.reduceLE, Nat.reduceAdd, Nat.reduceLeDiff, Nat.reduceMul]
noncomputable def UZ1 (g : FuncId) : PSpec := (putΦ (putΦ UZ 23 sumPW) 24 sumRW) g
theorem hUZ1 : TabSound GG UZ1 := ((hUZ.put w_sumPW).put w_sumRW)
end Go.AM
namespace Go.AM
open Go Go.Proofs Go.IntWalk
set_option maxRecDepth 100000
set_option maxHeartbeats 1000000
set_option linter.unusedSimpArgs false
set_option linter.unusedVariables false
theorem keyCyl {x y : Cyl} : keyEqL [.int .i64 x.n, .int .i64 x.d, .str x.k, .int .i64 x.y, .int .i64 x.a] [.int .i64 y.n, .int .i64 y.d, .str y.k, .int .i64 y.y, .int .i64 y.a] = decide (x = y) := by
  rw [Bool.eq_iff_iff]
  cases x; cases y
  simp [keyEqL, keyEq1]
def cyOf : PV → Cyl
  | .agg [.int _ n, .int _ d, .str k, .int _ y, .int _ a] => ⟨n, d, k, y, a⟩
  | _ => default
theorem map_cyOf (l : List Cyl) : (l.map cyV).map cyOf = l := by
  rw [List.map_map]
  exact (List.map_congr_left (fun x _ => rfl)).trans (List.map_id l)
noncomputable def rCyG : PSpec := on_ll (fun a b => (∃ l : List Cyl, a = l.map cyV) ∧ (∃ l : List Cyl, b = l.map cyV) ∧ a.length ≤ 1000000 ∧ b.length ≤ 1000000) (fun a b => .bool (decide (a.map cyOf = b.map cyOf)))
theorem w_rCyG : PSound GG 21 rCyG := by
  refine PSound.of_wpc (C := cxP Tryz.prog UZ1 [] 26) (T := plan0) Tryz.func21 rfl rfl rfl (Fit.pure (G := GG) hUZ1 mixed) (fun args h => ?_)
  unfold rCyG at h
  obtain ⟨a, b, rfl, hp⟩ := on_ll_inv h
  refine ⟨by simp [cxP], ?_⟩
  simp only [rCyG, on_ll_eq, Tryz.f21, argL, plan0]
  obtain ⟨⟨a, rfl⟩, ⟨b, rfl⟩, hla, hlb⟩ := hp
  rw [List.length_map] at hla hlb
  simp only [map_cyOf, List.length_map, Tryz.underlying3, sz3, by3, ze3, Tryz.underlying4, sz4, by4, ze4, Tryz.underlying9, sz9, by9, ze9, Tryz.underlying50, sz50, by50, ze50, Tryz.underlying80, sz80, by80, ze80, fa80_0, fa80_1, fa80_2, fa80_3, fa80_4, go_sem, ↓reduceIte, reduceCtorEq, Nat.reduceEqDiff, Nat.reduceLT, ↓all_qV, Int.reduceToNat, Int.reduceLT, Int.reduceLE, Nat.reduceAdd, Nat.reduceLeDiff, Nat.reduceMul]
  refine ⟨fun h1 => ?_, fun h1 => ?_⟩
  · have h1 : ¬ a.length = b.length := by simp at h1; omega
    have : ¬ a = b := fun e => h1 (by rw [e])
    simp [this]
  have hl : a.length = b.length := by simp at h1; omega
  refine AWp.loop (T := plan0) (α := Nat) (fun i => ([(0, .pv (.sl (a.map cyV))), (1, .pv (.sl (b.map cyV))), (12, .pv (.int .i64 a.length)), (13, .pv (.int .i64 i))], []))
    (fun i => i ≤ a.length ∧ a.take i = b.take i) (fun i => a.length - i)
    ⟨0, ⟨Nat.zero_le _, rfl⟩, ⟨by simp [fitR, look], trivial, rfl, rfl, rfl⟩⟩ ?_
  rintro i ⟨hi, hab⟩
  have hi1 : IntKind.i64.wrap ((i : Int) + 1) = ((i + 1 : Nat) : Int) := by rw [i64_in _ (by omega)]; omega
  by_cases hlt : i < a.length
  · have c0 : decide ((i : Int) < (a.length : Int)) = true := by simp; omega
    have e1 := getD_cy hlt
    have e2 := getD_cy (l := b) (i := i) (by omega)
    have t1 := take_succ' hlt
    have t2 := take_succ' (l := b) (i := i) (by omega)
    have g1 : a = b → a.getD i default = b.getD i default := fun e => by rw [e]
    generalize a.getD i default = x at e1 t1 g1
    generalize b.getD i default = y at e2 t2 g1
    have hk := keyCyl (x := x) (y := y)
    simp only [cyV] at e1 e2
    simp only [c0, e1, e2, hi1, hk, List.length_map, List.take_succ_cons, List.take_nil, Tryz.underlying3, sz3, by3, ze3, Tryz.underlying4, sz4, by4, ze4, Tryz.underlying9, sz9, by9, ze9, Tryz.underlying50, sz50, by50, ze50, Tryz.underlying80, sz80, by80, ze80, fa80_0, fa80_1, fa80_2, fa80_3, fa80_4, plan0, go_sem, ↓reduceIte, reduceCtorEq, Nat.reduceEqDiff, Nat.reduceLT, ↓all_qV, Int.reduceToNat, Int.reduceLT, Int.reduceLE, Nat.reduceAdd, Nat.reduceLeDiff, Nat.reduceMul, ev_callG, gcallK_b, gcallK_w, callGc_true, callGc_false]
    refine ⟨by kernel_rfl, ⟨by omega, by omega⟩, ⟨by omega, by omega⟩, ⟨by kernel_rfl, by kernel_rfl⟩, fun h9 => ?_, fun h9 => ⟨i + 1, ⟨by omega, ?_⟩, by omega, ⟨by simp [fitR, look], trivial, rfl, rfl, rfl⟩⟩⟩
    · have h9 : ¬ (x = y) := fun e => by rw [decide_eq_true e] at h9; cases h9
      have : ¬ a = b := fun e => h9 (g1 e)
      simp [this]
    · have h9 : x = y := Classical.byContradiction fun e => by rw [decide_eq_false e] at h9; cases h9
      rw [t1, t2, hab, h9]
  · have c0 : decide ((i : Int) < (a.length : Int)) = false := by simp; omega
    rw [List.take_of_length_le (by omega), List.take_of_length_le (by omega)] at hab
    subst hab
    simp only [c0, List.length_map, Tryz.underlying3, sz3, by3, ze3, Tryz.underlying4, sz4, by4, ze4, Tryz.underlying9, sz9, by9, ze9, Tryz.underlying50, sz50, by50, ze50, Tryz.underlying80, sz80, by80, ze80, fa80_0, fa80_1, fa80_2, fa80_3, fa80_4, plan0, go_sem, ↓reduceIte, reduceCtorEq, Nat.reduceEqDiff, Nat.reduceLT, ↓all_qV, Int.reduceToNat, Int.reduceLT, Int.reduceLE, Nat.reduceAdd, Nat.reduceLeDiff, Nat.reduceMul]
    exact congrArg PV.bool (by simp)
def befO (x y : Opn) : Bool := bif cmpF x.k y.k != 0 then decide (cmpF x.k y.k < 0) else decide (x.o < y.o) || (x.o == y.o && decide (x.c < y.c))
noncomputable def befOS : PSpec := on_pp (fun a b => isOp a ∧ isOp b) (fun a b => .bool (befO (opOf a) (opOf b)))
theorem k_befOS_36 {args : List PV} : UZ1 36 args = rCmpS args := rfl
theorem w_befOS : PSound GG 29 befOS := by
  refine PSound.of_wpc (C := cxP Tryz.prog UZ1 [] 34) (T := plan0) Tryz.func29 rfl rfl rfl (Fit.pure (G := GG) hUZ1 mixed) (fun args h => ?_)
  unfold befOS at h
  obtain ⟨p, q, rfl, hp⟩ := on_pp_inv h
  refine ⟨by simp [cxP], ?_⟩
  simp only [befOS, on_pp_eq, Tryz.f29, argL, plan0]
  obtain ⟨⟨⟨o, c, k, y, a⟩, rfl, hk⟩, ⟨⟨o', c', k', y', a'⟩, rfl, hk'⟩⟩ := hp
  simp only at hk hk'
  simp only [opV, opOf_agg, k_befOS_36, rCmpS, on_ss_eq, Tryz.underlying1, sz1, by1, ze1, Tryz.underlying2, sz2, by2, ze2, Tryz.underlying3, sz3, by3, ze3, Tryz.underlying4, sz4, by4, ze4, Tryz.underlying9, sz9, by9, ze9, Tryz.underlying37, sz37, by37, ze37, fa37_0, fa37_1, fa37_2, fa37_3, fa37_4, go_sem, ↓reduceIte, reduceCtorEq, Nat.reduceEqDiff, Nat.reduceLT, ↓all_qV, Int.reduceToNat, Int.reduceLT, Int.reduceLE, Nat.reduceAdd, Nat.reduceLeDiff, Nat.reduceMul]
  refine ⟨⟨by omega, by omega⟩, fun h1 => ?_, fun h1 => ⟨fun h2 h3 => by rw [h2, h3]; rfl, ?_⟩⟩
  · unfold befO
    simp only [h1, cond_true]
  · unfold befO
    simp only [h1, cond_false]
noncomputable def UZ2 (g : FuncId) : PSpec := (putΦ (putΦ UZ1 21 rCyG) 29 befOS) g
theorem hUZ2 : TabSound GG UZ2 := ((hUZ1.put w_rCyG).put w_befOS)
end Go.AM
