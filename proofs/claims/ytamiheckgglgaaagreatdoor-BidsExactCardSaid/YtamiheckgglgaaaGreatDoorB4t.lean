/-
  A part of a proof: see the last text of this claim for what is proved.
-/
import Derived.Test.YtamiheckgglgaaaGreatDoorB4q
import Derived.Test.YtamiheckgglgaaaGreatDoorZMa
/-! the reference: Valid, Same, Total, Check, for any bids -/
namespace Go.AM
open Go Go.Proofs Go.IntWalk
set_option maxRecDepth 100000
set_option maxHeartbeats 1000000
set_option linter.unusedSimpArgs false
set_option linter.unusedVariables false
noncomputable def rvalS : PSpec := on_p isBid (fun e => .bool (vB (bidOf e)))
theorem w_rvalS : PSound GG 20 rvalS := by
  refine PSound.of_wpc (C := cxP Tryz.prog Bi [] 54) (T := plan0) Tryz.func20 rfl rfl rfl (Fit.pure (G := GG) hBi mixed) (fun args h => ?_)
  unfold rvalS at h
  obtain ⟨e, rfl, hp⟩ := on_p_inv h
  refine ⟨by simp [cxP], ?_⟩
  simp only [rvalS, on_p_eq, Tryz.f20, argL, plan0]
  obtain ⟨⟨b, n, p, a, f⟩, rfl⟩ := hp
  simp only [bidV, bidOf_agg, true_and, Tryz.underlying1, sz1, by1, ze1, Tryz.underlying2, sz2, by2, ze2, Tryz.underlying3, sz3, by3, ze3, Tryz.underlying4, sz4, by4, ze4, Tryz.underlying29, sz29, by29, ze29, fa29_0, fa29_1, fa29_2, fa29_3, fa29_4, go_sem, ↓reduceIte, reduceCtorEq, Nat.reduceEqDiff, Nat.reduceLT, ↓all_qV, Int.reduceToNat, Int.reduceLT, Int.reduceLE, Nat.reduceAdd, Nat.reduceLeDiff, Nat.reduceMul]
  refine ⟨fun h => ⟨fun _ => by decide, congrArg PV.bool ?_⟩, fun h => ⟨fun _ => by decide, congrArg PV.bool ?_⟩⟩
  all_goals
    subst h
    rw [Bool.eq_iff_iff]
    simp only [vB, lotB, amg, cond_true, cond_false, Bool.and_eq_true, decide_eq_true_eq, beq_iff_eq]
    generalize a.tmod 1000 = t
    omega
theorem keyBid {x y : Bid} : keyEqL [.int .i64 x.b, .int .i64 x.n, .int .i64 x.p, .int .i64 x.a, .bool x.f] [.int .i64 y.b, .int .i64 y.n, .int .i64 y.p, .int .i64 y.a, .bool y.f] = decide (x = y) := by
  rw [Bool.eq_iff_iff]
  cases x; cases y
  simp [keyEqL, keyEq1]
noncomputable def sameG : PSpec := on_ll (fun a b => (∃ l : List Bid, a = l.map bidV) ∧ (∃ l : List Bid, b = l.map bidV) ∧ a.length ≤ 1000000 ∧ b.length ≤ 1000000) (fun a b => .bool (decide (a.map bidOf = b.map bidOf)))
theorem w_sameG : PSound GG 12 sameG := by
  refine PSound.of_wpc (C := cxP Tryz.prog Bi [] 26) (T := plan0) Tryz.func12 rfl rfl rfl (Fit.pure (G := GG) hBi mixed) (fun args h => ?_)
  unfold sameG at h
  obtain ⟨a, b, rfl, hp⟩ := on_ll_inv h
  refine ⟨by simp [cxP], ?_⟩
  simp only [sameG, on_ll_eq, Tryz.f12, argL, plan0]
  obtain ⟨⟨a, rfl⟩, ⟨b, rfl⟩, hla, hlb⟩ := hp
  rw [List.length_map] at hla hlb
  simp only [map_bidOf, List.length_map, Tryz.underlying3, sz3, by3, ze3, Tryz.underlying4, sz4, by4, ze4, Tryz.underlying23, sz23, by23, ze23, Tryz.underlying29, sz29, by29, ze29, fa29_0, fa29_1, fa29_2, fa29_3, fa29_4, go_sem, ↓reduceIte, reduceCtorEq, Nat.reduceEqDiff, Nat.reduceLT, ↓all_qV, Int.reduceToNat, Int.reduceLT, Int.reduceLE, Nat.reduceAdd, Nat.reduceLeDiff, Nat.reduceMul]
  refine ⟨fun h1 => ?_, fun h1 => ?_⟩
  · have h1 : ¬ a.length = b.length := by simp at h1; omega
    have : ¬ a = b := fun e => h1 (by rw [e])
    simp [this]
  have hl : a.length = b.length := by simp at h1; omega
  refine AWp.loop (T := plan0) (α := Nat) (fun i => ([(0, .pv (.sl (a.map bidV))), (1, .pv (.sl (b.map bidV))), (12, .pv (.int .i64 a.length)), (13, .pv (.int .i64 i))], []))
    (fun i => i ≤ a.length ∧ a.take i = b.take i) (fun i => a.length - i)
    ⟨0, ⟨Nat.zero_le _, rfl⟩, ⟨by simp [fitR, look], trivial, rfl, rfl, rfl⟩⟩ ?_
  rintro i ⟨hi, hab⟩
  have hi1 : IntKind.i64.wrap ((i : Int) + 1) = ((i + 1 : Nat) : Int) := by rw [i64_in _ (by omega)]; omega
  by_cases hlt : i < a.length
  · have c0 : decide ((i : Int) < (a.length : Int)) = true := by simp; omega
    have e1 := getD_bid hlt
    have e2 := getD_bid (l := b) (i := i) (by omega)
    have t1 := take_succ' hlt
    have t2 := take_succ' (l := b) (i := i) (by omega)
    have g1 : a = b → a.getD i default = b.getD i default := fun e => by rw [e]
    generalize a.getD i default = x at e1 t1 g1
    generalize b.getD i default = y at e2 t2 g1
    have hk := keyBid (x := x) (y := y)
    obtain ⟨p, q, r, s, t⟩ := x
    obtain ⟨p', q', r', s', t'⟩ := y
    simp only [bidV] at e1 e2
    simp only at hk
    simp only [c0, e1, e2, hi1, hk, List.length_map, List.take_succ_cons, List.take_nil, Tryz.underlying3, sz3, by3, ze3, Tryz.underlying4, sz4, by4, ze4, Tryz.underlying23, sz23, by23, ze23, Tryz.underlying29, sz29, by29, ze29, fa29_0, fa29_1, fa29_2, fa29_3, fa29_4, plan0, go_sem, ↓reduceIte, reduceCtorEq, Nat.reduceEqDiff, Nat.reduceLT, ↓all_qV, Int.reduceToNat, Int.reduceLT, Int.reduceLE, Nat.reduceAdd, Nat.reduceLeDiff, Nat.reduceMul, ev_callG, gcallK_b, gcallK_w, callGc_true, callGc_false]
    refine ⟨by kernel_rfl, ⟨by omega, by omega⟩, ⟨by omega, by omega⟩, ⟨by kernel_rfl, by kernel_rfl⟩, fun h9 => ?_, fun h9 => ⟨i + 1, ⟨by omega, ?_⟩, by omega, ⟨by simp [fitR, look], trivial, rfl, rfl, rfl⟩⟩⟩
    · have h9 : ¬ ((⟨p, q, r, s, t⟩ : Bid) = ⟨p', q', r', s', t'⟩) := fun e => by rw [decide_eq_true e] at h9; cases h9
      have : ¬ a = b := fun e => h9 (g1 e)
      simp [this]
    · have h9 : (⟨p, q, r, s, t⟩ : Bid) = ⟨p', q', r', s', t'⟩ := Classical.byContradiction fun e => by rw [decide_eq_false e] at h9; cases h9
      rw [t1, t2, hab, h9]
  · have c0 : decide ((i : Int) < (a.length : Int)) = false := by simp; omega
    rw [List.take_of_length_le (by omega), List.take_of_length_le (by omega)] at hab
    subst hab
    simp only [c0, List.length_map, Tryz.underlying3, sz3, by3, ze3, Tryz.underlying4, sz4, by4, ze4, Tryz.underlying23, sz23, by23, ze23, Tryz.underlying29, sz29, by29, ze29, fa29_0, fa29_1, fa29_2, fa29_3, fa29_4, plan0, go_sem, ↓reduceIte, reduceCtorEq, Nat.reduceEqDiff, Nat.reduceLT, ↓all_qV, Int.reduceToNat, Int.reduceLT, Int.reduceLE, Nat.reduceAdd, Nat.reduceLeDiff, Nat.reduceMul]
    exact congrArg PV.bool (by simp)
noncomputable def Ca (g : FuncId) : PSpec := (putΦ (putΦ Bi 20 rvalS) 12 sameG) g
theorem hCa : TabSound GG Ca := ((hBi.put w_rvalS).put w_sameG)
noncomputable def rtotS : PSpec := on_lb (fun es f => (∃ l : List Bid, es = l.map bidV) ∧ es.length ≤ 1000000) (fun es f => .int .i64 (totF f (es.map bidOf)))
theorem k_rtotS_20 {args : List PV} : Ca 20 args = rvalS args := rfl
theorem w_rtotS : PSound GG 16 rtotS := by
  refine PSound.of_wpc (C := cxP Tryz.prog Ca [] 28) (T := plan0) Tryz.func16 rfl rfl rfl (Fit.pure (G := GG) hCa mixed) (fun args h => ?_)
  unfold rtotS at h
  obtain ⟨es, fr, rfl, hp⟩ := on_lb_inv h
  refine ⟨by simp [cxP], ?_⟩
  simp only [rtotS, on_lb_eq, Tryz.f16, argL, plan0]
  obtain ⟨⟨l, rfl⟩, hl⟩ := hp
  simp only [List.length_map] at hl
  simp only [map_bidOf, List.length_map, k_rtotS_20, rvalS, on_p_eq, Tryz.underlying3, sz3, by3, ze3, Tryz.underlying4, sz4, by4, ze4, Tryz.underlying23, sz23, by23, ze23, Tryz.underlying29, sz29, by29, ze29, fa29_0, fa29_1, fa29_2, fa29_3, fa29_4, go_sem, ↓reduceIte, reduceCtorEq, Nat.reduceEqDiff, Nat.reduceLT, ↓all_qV, Int.reduceToNat, Int.reduceLT, Int.reduceLE, Nat.reduceAdd, Nat.reduceLeDiff, Nat.reduceMul]
  refine AWp.loop (T := plan0) (α := Nat) (fun i => ([(1, .pv (.bool fr)), (5, .pv (.int .i64 (totF fr (l.take i)))), (8, .pv (.sl (l.map bidV))), (9, .pv (.int .i64 l.length)), (10, .pv (.int .i64 i))], [])) (fun i => i ≤ l.length) (fun i => l.length - i)
    ⟨0, Nat.zero_le _, ⟨by simp [fitR, look, totF], trivial, rfl, rfl, rfl⟩⟩ ?_
  intro i h1
  have hi1 : IntKind.i64.wrap ((i : Int) + 1) = ((i + 1 : Nat) : Int) := by rw [i64_in _ (by omega)]; omega
  by_cases hlt : i < l.length
  · have c0 : decide ((i : Int) < (l.length : Int)) = true := by simp; omega
    have e1 := getD_bid hlt
    have htk := take_succ' hlt
    have hb := totF_le fr (l.take i)
    rw [List.length_take] at hb
    generalize l.getD i default = x at e1 htk
    obtain ⟨b, n, p, a, f⟩ := x
    simp only [bidV] at e1
    have hst : totF fr (l.take (i + 1)) = totF fr (l.take i) + (bif vB ⟨b, n, p, a, f⟩ && f == fr then a else 0) := by rw [htk, totF_app]; simp [totF]
    generalize totF fr (l.take i) = T at hb hst ⊢
    simp only [c0, e1, hi1, bidOf_agg, List.length_map, List.take_succ_cons, List.take_nil, k_rtotS_20, rvalS, on_p_eq, Tryz.underlying3, sz3, by3, ze3, Tryz.underlying4, sz4, by4, ze4, Tryz.underlying23, sz23, by23, ze23, Tryz.underlying29, sz29, by29, ze29, fa29_0, fa29_1, fa29_2, fa29_3, fa29_4, plan0, go_sem, ↓reduceIte, reduceCtorEq, Nat.reduceEqDiff, Nat.reduceLT, ↓all_qV, Int.reduceToNat, Int.reduceLT, Int.reduceLE, Nat.reduceAdd, Nat.reduceLeDiff, Nat.reduceMul, ev_callG, gcallK_b, gcallK_w, callGc_true, callGc_false, List.forall_mem_cons, List.not_mem_nil, PV.one, AV.one]
    and_intros
    all_goals try first | (show checkD _ _ _ = true; kernel_rfl) | omega | (intros; omega) | rfl | trivial | assumption | exact isBid_agg
    · exact fun _ => rfl
    · intro h9
      have hv := vB_a (x := ⟨b, n, p, a, f⟩) (by simp only [Bool.and_eq_true] at h9; exact h9.1)
      simp only at hv
      have hw : IntKind.i64.wrap (T + a) = T + a := i64_in _ (by omega)
      rw [hw]
      refine ⟨i + 1, by omega, by omega, ⟨?_, trivial, rfl, rfl, rfl⟩⟩
      rw [hst, h9]
      simp [fitR, look]
    · intro h9
      refine ⟨i + 1, by omega, by omega, ⟨?_, trivial, rfl, rfl, rfl⟩⟩
      rw [hst, h9]
      simp [fitR, look]
  · have c0 : decide ((i : Int) < (l.length : Int)) = false := by simp; omega
    rw [List.take_of_length_le (by omega)]
    simp only [c0, List.length_map, Tryz.underlying3, sz3, by3, ze3, Tryz.underlying4, sz4, by4, ze4, Tryz.underlying23, sz23, by23, ze23, Tryz.underlying29, sz29, by29, ze29, fa29_0, fa29_1, fa29_2, fa29_3, fa29_4, plan0, go_sem, ↓reduceIte, reduceCtorEq, Nat.reduceEqDiff, Nat.reduceLT, ↓all_qV, Int.reduceToNat, Int.reduceLT, Int.reduceLE, Nat.reduceAdd, Nat.reduceLeDiff, Nat.reduceMul]
noncomputable def Cb (g : FuncId) : PSpec := (putΦ Ca 16 rtotS) g
theorem hCb : TabSound GG Cb := (hCa.put w_rtotS)
noncomputable def rchkS : PSpec := on_l (fun es => (∃ l : List Bid, es = l.map bidV) ∧ es.length ≤ 1000000) (fun es => .int .i64 (chkF (es.map bidOf)))
theorem any_split (p : Bid → Bool) {l : List Bid} {i : Nat} (h : i < l.length) : l.any p = ((l.take i).any p || (p (l.getD i default) || (l.drop (i + 1)).any p)) := by
  conv => lhs; rw [← List.take_append_drop i l, drop_cons' h]
  rw [List.any_append, List.any_cons]
theorem k_rchkS_20 {args : List PV} : Cb 20 args = rvalS args := rfl
theorem w_rchkS : PSound GG 11 rchkS := by
  refine PSound.of_wpc (C := cxP Tryz.prog Cb [] 51) (T := plan0) Tryz.func11 rfl rfl rfl (Fit.pure (G := GG) hCb mixed) (fun args h => ?_)
  unfold rchkS at h
  obtain ⟨es, rfl, hp⟩ := on_l_inv h
  refine ⟨by simp [cxP], ?_⟩
  simp only [rchkS, on_l_eq, Tryz.f11, argL, plan0]
  obtain ⟨⟨l, rfl⟩, hl⟩ := hp
  simp only [List.length_map] at hl
  simp only [map_bidOf, List.length_map, k_rchkS_20, rvalS, on_p_eq, Tryz.underlying1, sz1, by1, ze1, Tryz.underlying3, sz3, by3, ze3, Tryz.underlying4, sz4, by4, ze4, Tryz.underlying23, sz23, by23, ze23, Tryz.underlying29, sz29, by29, ze29, fa29_0, fa29_1, fa29_2, fa29_3, fa29_4, Tryz.underlying32, sz32, by32, ze32, go_sem, ↓reduceIte, reduceCtorEq, Nat.reduceEqDiff, Nat.reduceLT, ↓all_qV, Int.reduceToNat, Int.reduceLT, Int.reduceLE, Nat.reduceAdd, Nat.reduceLeDiff, Nat.reduceMul]
  refine ⟨fun h1 => by unfold chkF; rw [h1]; rfl, fun h1 => ?_⟩
  refine AWp.loop (T := plan0) (α := Nat) (fun i => ([(0, .pv (.sl (l.map bidV))), (12, .pv (.sl (l.map bidV))), (13, .pv (.int .i64 l.length)), (14, .pv (.int .i64 i))], []))
    (fun i => i ≤ l.length ∧ (l.take i).any (fun x => !vB x) = false) (fun i => l.length - i)
    ⟨0, ⟨Nat.zero_le _, rfl⟩, ⟨by simp [fitR, look], trivial, rfl, rfl, rfl⟩⟩ ?_
  rintro i ⟨g1, g2⟩
  have hi1 : IntKind.i64.wrap ((i : Int) + 1) = ((i + 1 : Nat) : Int) := by rw [i64_in _ (by omega)]; omega
  by_cases hlt : i < l.length
  · have c0 : decide ((i : Int) < (l.length : Int)) = true := by simp; omega
    have e1 := getD_bid hlt
    have htk := take_succ' hlt
    have hany := any_split (fun x => !vB x) hlt
    generalize l.getD i default = x at e1 htk hany
    obtain ⟨b, n, p, a, f⟩ := x
    simp only [bidV] at e1
    simp only [c0, e1, hi1, bidOf_agg, List.length_map, List.take_succ_cons, List.take_nil, k_rchkS_20, rvalS, on_p_eq, Tryz.underlying1, sz1, by1, ze1, Tryz.underlying3, sz3, by3, ze3, Tryz.underlying4, sz4, by4, ze4, Tryz.underlying23, sz23, by23, ze23, Tryz.underlying29, sz29, by29, ze29, fa29_0, fa29_1, fa29_2, fa29_3, fa29_4, Tryz.underlying32, sz32, by32, ze32, plan0, go_sem, ↓reduceIte, reduceCtorEq, Nat.reduceEqDiff, Nat.reduceLT, ↓all_qV, Int.reduceToNat, Int.reduceLT, Int.reduceLE, Nat.reduceAdd, Nat.reduceLeDiff, Nat.reduceMul, ev_callG, gcallK_b, gcallK_w, callGc_true, callGc_false, List.forall_mem_cons, List.not_mem_nil, PV.one, AV.one]
    and_intros
    all_goals try first | (show checkD _ _ _ = true; kernel_rfl) | omega | (intros; omega) | rfl | trivial | assumption | exact isBid_agg
    · intro h9
      unfold chkF
      rw [h1, hany, g2, h9]; rfl
    · intro h9
      exact ⟨i + 1, ⟨by omega, by rw [htk, List.any_append, g2, List.any_cons, h9]; rfl⟩, by omega, ⟨by simp [fitR, look], trivial, rfl, rfl, rfl⟩⟩
  have c0 : decide ((i : Int) < (l.length : Int)) = false := by simp; omega
  rw [List.take_of_length_le (by omega)] at g2
  have hres : chkF l = bif okNs [] l then 0 else 7 := by unfold chkF; rw [h1, g2]; rfl
  clear g1 hi1 hlt
  simp only [c0, hres, List.length_map, Tryz.underlying1, sz1, by1, ze1, Tryz.underlying3, sz3, by3, ze3, Tryz.underlying4, sz4, by4, ze4, Tryz.underlying23, sz23, by23, ze23, Tryz.underlying29, sz29, by29, ze29, fa29_0, fa29_1, fa29_2, fa29_3, fa29_4, Tryz.underlying32, sz32, by32, ze32, plan0, go_sem, ↓reduceIte, reduceCtorEq, Nat.reduceEqDiff, Nat.reduceLT, ↓all_qV, Int.reduceToNat, Int.reduceLT, Int.reduceLE, Nat.reduceAdd, Nat.reduceLeDiff, Nat.reduceMul]
  clear c0
  refine AWp.loop (T := plan0) (α := Nat) (fun i => ([(0, .pv (.sl (l.map bidV))), (22, .pv (.sl (l.map bidV))), (23, .pv (.int .i64 l.length)), (24, .pv (.int .i64 i))], []))
    (fun i => i ≤ l.length ∧ okNs [] l = okNs (l.take i) (l.drop i)) (fun i => l.length - i)
    ⟨0, ⟨Nat.zero_le _, by simp⟩, ⟨by simp [fitR, look], trivial, rfl, rfl, rfl⟩⟩ ?_
  rintro i ⟨g1, g3⟩
  have hi1 : IntKind.i64.wrap ((i : Int) + 1) = ((i + 1 : Nat) : Int) := by rw [i64_in _ (by omega)]; omega
  by_cases hlt : i < l.length
  · have c0 : decide ((i : Int) < (l.length : Int)) = true := by simp; omega
    have e1 := getD_bid hlt
    rw [drop_cons' hlt, okNs] at g3
    have htk := take_succ' hlt
    generalize l.getD i default = x at e1 g3 htk
    obtain ⟨b, n, p, a, f⟩ := x
    simp only [bidV] at e1
    obtain ⟨m, hm⟩ : ∃ m, l.take i = m := ⟨_, rfl⟩
    have hml : m.length = i := by rw [← hm, List.length_take]; omega
    have hmt : (l.map bidV).take i = m.map bidV := by rw [← List.map_take, hm]
    rw [hm] at g3 htk
    simp only [c0, e1, hi1, hmt, hml, bidOf_agg, Int.toNat_natCast, List.length_map, List.take_succ_cons, List.take_nil, k_rchkS_20, rvalS, on_p_eq, Tryz.underlying1, sz1, by1, ze1, Tryz.underlying3, sz3, by3, ze3, Tryz.underlying4, sz4, by4, ze4, Tryz.underlying23, sz23, by23, ze23, Tryz.underlying29, sz29, by29, ze29, fa29_0, fa29_1, fa29_2, fa29_3, fa29_4, Tryz.underlying32, sz32, by32, ze32, plan0, go_sem, ↓reduceIte, reduceCtorEq, Nat.reduceEqDiff, Nat.reduceLT, ↓all_qV, Int.reduceToNat, Int.reduceLT, Int.reduceLE, Nat.reduceAdd, Nat.reduceLeDiff, Nat.reduceMul, ev_callG, gcallK_b, gcallK_w, callGc_true, callGc_false, List.forall_mem_cons, List.not_mem_nil, PV.one, AV.one]
    refine ⟨⟨by omega, by omega⟩, ⟨by omega, by omega, fun p hp => by obtain ⟨y, _, rfl⟩ := List.mem_map.1 hp; rfl⟩, ?_⟩
    refine AWp.loop (T := plan0) (α := Nat) (fun j => ([(0, .pv (.sl (l.map bidV))), (6, .ptr 6 0), (22, .pv (.sl (l.map bidV))), (23, .pv (.int .i64 l.length)), (24, .pv (.int .i64 i)), (31, .pv (.sl (m.map bidV))), (32, .pv (.int .i64 i)), (33, .pv (.int .i64 j))], [(6, .cells [.pv (.int .i64 b), .pv (.int .i64 n), .pv (.int .i64 p), .pv (.int .i64 a), .pv (.bool f)])]))
      (fun j => j ≤ i ∧ namB ⟨b, n, p, a, f⟩ (m.take j) = false) (fun j => i - j)
      ⟨0, ⟨Nat.zero_le _, rfl⟩, ⟨by simp [fitR, look], by simp [fitH, hget], rfl, rfl, rfl⟩⟩ ?_
    rintro j ⟨f1, f2⟩
    have hj1 : IntKind.i64.wrap ((j : Int) + 1) = ((j + 1 : Nat) : Int) := by rw [i64_in _ (by omega)]; omega
    by_cases hjt : j < i
    · have c1 : decide ((j : Int) < (i : Int)) = true := by simp; omega
      have e2 := getD_bid (l := m) (i := j) (by omega)
      have hany := any_split (fun y => y.b == b && y.n == n) (l := m) (i := j) (by omega)
      have htj := take_succ' (l := m) (i := j) (by omega)
      generalize m.getD j default = y at e2 hany htj
      obtain ⟨b', n', p', a', f'⟩ := y
      simp only [bidV] at e2
      simp only [c1, e2, hj1, hml, bidOf_agg, List.length_map, List.take_succ_cons, List.take_nil, k_rchkS_20, rvalS, on_p_eq, Tryz.underlying1, sz1, by1, ze1, Tryz.underlying3, sz3, by3, ze3, Tryz.underlying4, sz4, by4, ze4, Tryz.underlying23, sz23, by23, ze23, Tryz.underlying29, sz29, by29, ze29, fa29_0, fa29_1, fa29_2, fa29_3, fa29_4, Tryz.underlying32, sz32, by32, ze32, plan0, go_sem, ↓reduceIte, reduceCtorEq, Nat.reduceEqDiff, Nat.reduceLT, ↓all_qV, Int.reduceToNat, Int.reduceLT, Int.reduceLE, Nat.reduceAdd, Nat.reduceLeDiff, Nat.reduceMul, ev_callG, gcallK_b, gcallK_w, callGc_true, callGc_false, List.forall_mem_cons, List.not_mem_nil, PV.one, AV.one]
      and_intros
      all_goals try first | (show checkD _ _ _ = true; kernel_rfl) | omega | (intros; omega) | rfl | trivial | assumption | exact isBid_agg
      · intro h9
        have : namB ⟨b, n, p, a, f⟩ m = true := by unfold namB; rw [hany]; simp only [h9, Bool.true_or, Bool.or_true]
        rw [g3, this]; rfl
      · intro h9
        exact ⟨j + 1, ⟨by omega, by unfold namB at f2 ⊢; rw [htj, List.any_append, f2, List.any_cons]; simp only [h9]; rfl⟩, by omega, ⟨by simp [fitR, look], by simp [fitH, hget], rfl, rfl, rfl⟩⟩
    · have c1 : decide ((j : Int) < (i : Int)) = false := by simp; omega
      rw [List.take_of_length_le (by omega)] at f2
      simp only [c1, hi1, List.length_map, Tryz.underlying1, sz1, by1, ze1, Tryz.underlying3, sz3, by3, ze3, Tryz.underlying4, sz4, by4, ze4, Tryz.underlying23, sz23, by23, ze23, Tryz.underlying29, sz29, by29, ze29, fa29_0, fa29_1, fa29_2, fa29_3, fa29_4, Tryz.underlying32, sz32, by32, ze32, plan0, go_sem, ↓reduceIte, reduceCtorEq, Nat.reduceEqDiff, Nat.reduceLT, ↓all_qV, Int.reduceToNat, Int.reduceLT, Int.reduceLE, Nat.reduceAdd, Nat.reduceLeDiff, Nat.reduceMul, ev_callG, gcallK_b, gcallK_w, callGc_true, callGc_false, List.forall_mem_cons, List.not_mem_nil, PV.one, AV.one]
      exact ⟨i + 1, ⟨by omega, by rw [g3, htk, f2]; rfl⟩, by omega, ⟨by simp [fitR, look], trivial, rfl, rfl, rfl⟩⟩
  · have c0 : decide ((i : Int) < (l.length : Int)) = false := by simp; omega
    rw [List.drop_eq_nil_of_le (by omega)] at g3
    simp only [c0, List.length_map, Tryz.underlying1, sz1, by1, ze1, Tryz.underlying3, sz3, by3, ze3, Tryz.underlying4, sz4, by4, ze4, Tryz.underlying23, sz23, by23, ze23, Tryz.underlying29, sz29, by29, ze29, fa29_0, fa29_1, fa29_2, fa29_3, fa29_4, Tryz.underlying32, sz32, by32, ze32, plan0, go_sem, ↓reduceIte, reduceCtorEq, Nat.reduceEqDiff, Nat.reduceLT, ↓all_qV, Int.reduceToNat, Int.reduceLT, Int.reduceLE, Nat.reduceAdd, Nat.reduceLeDiff, Nat.reduceMul]
    rw [g3]; rfl
end Go.AM
