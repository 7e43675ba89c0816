/-
  A part of a proof: see the last text of this claim for what is proved.
-/
import Derived.Test.YtcmkdpdinjkokaaGreatDoorX7b
import Derived.Test.YtcmkdpdinjkokaaGreatDoorZMa
/-! budget: lists, one by one -/
namespace Go.AM
open Go Go.Proofs Go.IntWalk
set_option maxRecDepth 100000
set_option maxHeartbeats 2000000
set_option linter.unusedSimpArgs false
set_option linter.unusedVariables false
def on_p (p : PV → Prop) (f : PV → PV) : PSpec
  | [a0] => (p a0, f a0)
  | _ => (False, default)
theorem on_p_eq {p : PV → Prop} {f : PV → PV} {a0 : PV} : on_p p f [a0] = (p a0, f a0) := rfl
theorem on_p_inv {p : PV → Prop} {f : PV → PV} {args : List PV} (h : (on_p p f args).1) : ∃ a0 : PV, args = [a0] ∧ p a0 := by
  unfold on_p at h
  split at h
  · exact ⟨_, rfl, h⟩
  · exact h.elim
theorem neg1' : Int.toNat (-1) = 0 := rfl
def isA3 (e : PV) : Prop := ∃ d n ch, e = .agg [.int .i64 d, .int .i64 n, .sl ch] ∧ ch.length ≤ 20
def isX4 (e : PV) : Prop := ∃ k c y m, e = .agg [.int .i64 k, .str c, .int .i64 y, .int .i64 m] ∧ c.length ≤ 1000000000000
def chK : PV → Int
  | .agg (.int _ k :: _) => k
  | _ => 0
def chC' : PV → List UInt8
  | .agg [_, .str c, _, _] => c
  | _ => []
def chY : PV → Int
  | .agg [_, _, .int _ y, _] => y
  | _ => 0
def chaO (x y : PV) : Int := orF [cmpI (chK x) (chK y), cmpC (chC' x) (chC' y), cmpI (chY x) (chY y)]
noncomputable def changesS : PSpec := on_pp (fun a b => isX4 a ∧ isX4 b) (fun a b => .int .i64 (chaO a b))
theorem k_changesS_53 {args : List PV} : B6 53 args = orS args := rfl
theorem k_changesS_54 {args : List PV} : B6 54 args = cmpIS args := rfl
theorem k_changesS_95 {args : List PV} : B6 95 args = cmpCS args := rfl
theorem w_changesS : PSound GG 104 changesS := by
  refine PSound.of_wpc (C := cxP Tryz.prog B6 [] 22) (T := plan0) Tryz.func104 rfl rfl rfl (Fit.pure (G := GG) hB6 mixed) (fun args h => ?_)
  unfold changesS at h
  obtain ⟨p, q, rfl, hp⟩ := on_pp_inv h
  refine ⟨by simp [cxP], ?_⟩
  simp only [changesS, on_pp_eq, Tryz.f104, argL, plan0]
  obtain ⟨⟨k, c, y, m, rfl, hs⟩, ⟨k', c', y', m', rfl, hs'⟩⟩ := hp
  have e : chaO (.agg [.int .i64 k, .str c, .int .i64 y, .int .i64 m]) (.agg [.int .i64 k', .str c', .int .i64 y', .int .i64 m']) = orF [cmpI k k', cmpC c c', cmpI y y'] := rfl
  simp only [e, k_changesS_53, orS, on_l_eq, k_changesS_54, cmpIS, on_ii_eq, k_changesS_95, cmpCS, on_ss_eq, Tryz.underlying1, sz1, by1, ze1, Tryz.underlying2, sz2, by2, ze2, Tryz.underlying3, sz3, by3, ze3, Tryz.underlying9, sz9, by9, ze9, Tryz.underlying22, sz22, by22, ze22, Tryz.underlying92, sz92, by92, ze92, fa92_0, fa92_1, fa92_2, fa92_3, go_sem, ↓reduceIte, reduceCtorEq, Nat.reduceEqDiff, Nat.reduceLT, ↓all_qV, Int.reduceToNat, Int.reduceLT, Int.reduceLE, Nat.reduceAdd, Nat.reduceLeDiff, Nat.reduceMul]
  exact ⟨by kernel_rfl, ⟨hs, hs'⟩, ⟨[cmpI k k', cmpC c c', cmpI y y'], rfl, by simp⟩, rfl⟩
def amdN : PV → Int
  | .agg [_, .int _ n, _] => n
  | _ => 0
def amdO (x y : PV) : Int := orF [cmpI (chK x) (chK y), cmpI (amdN x) (amdN y)]
noncomputable def amdsS : PSpec := on_pp (fun a b => isA3 a ∧ isA3 b) (fun a b => .int .i64 (amdO a b))
theorem k_amdsS_53 {args : List PV} : B6 53 args = orS args := rfl
theorem k_amdsS_54 {args : List PV} : B6 54 args = cmpIS args := rfl
theorem w_amdsS : PSound GG 102 amdsS := by
  refine PSound.of_wpc (C := cxP Tryz.prog B6 [] 17) (T := plan0) Tryz.func102 rfl rfl rfl (Fit.pure (G := GG) hB6 mixed) (fun args h => ?_)
  unfold amdsS at h
  obtain ⟨p, q, rfl, hp⟩ := on_pp_inv h
  refine ⟨by simp [cxP], ?_⟩
  simp only [amdsS, on_pp_eq, Tryz.f102, argL, plan0]
  obtain ⟨⟨k, c, y, rfl, hs⟩, ⟨k', c', y', rfl, hs'⟩⟩ := hp
  have e : amdO (.agg [.int .i64 k, .int .i64 c, .sl y]) (.agg [.int .i64 k', .int .i64 c', .sl y']) = orF [cmpI k k', cmpI c c'] := rfl
  simp only [e, k_amdsS_53, orS, on_l_eq, k_amdsS_54, cmpIS, on_ii_eq, Tryz.underlying1, sz1, by1, ze1, Tryz.underlying2, sz2, by2, ze2, Tryz.underlying3, sz3, by3, ze3, Tryz.underlying9, sz9, by9, ze9, Tryz.underlying22, sz22, by22, ze22, Tryz.underlying92, sz92, by92, ze92, fa92_0, fa92_1, fa92_2, fa92_3, Tryz.underlying93, sz93, by93, ze93, Tryz.underlying95, sz95, by95, ze95, fa95_0, fa95_1, fa95_2, go_sem, ↓reduceIte, reduceCtorEq, Nat.reduceEqDiff, Nat.reduceLT, ↓all_qV, Int.reduceToNat, Int.reduceLT, Int.reduceLE, Nat.reduceAdd, Nat.reduceLeDiff, Nat.reduceMul]
  exact ⟨by kernel_rfl, ⟨[cmpI k k', cmpI c c'], rfl, by simp⟩, rfl⟩
noncomputable def largeS : PSpec := on_p isA3 (fun _ => .bool false)
theorem w_largeS : PSound GG 93 largeS := by
  refine PSound.of_wpc (C := cxP Tryz.prog B6 [] 7) (T := plan0) Tryz.func93 rfl rfl rfl (Fit.pure (G := GG) hB6 mixed) (fun args h => ?_)
  unfold largeS at h
  obtain ⟨x, rfl, hp⟩ := on_p_inv h
  refine ⟨by simp [cxP], ?_⟩
  simp only [largeS, on_p_eq, Tryz.f93, argL, plan0]
  obtain ⟨d, n, ch, rfl, hc⟩ := hp
  have c1 : decide ((20 : Int) < (ch.length : Int)) = false := by simp; omega
  simp only [c1, List.take_succ_cons, List.take_nil, Tryz.underlying2, sz2, by2, ze2, Tryz.underlying3, sz3, by3, ze3, Tryz.underlying4, sz4, by4, ze4, Tryz.underlying9, sz9, by9, ze9, Tryz.underlying92, sz92, by92, ze92, fa92_0, fa92_1, fa92_2, fa92_3, Tryz.underlying93, sz93, by93, ze93, Tryz.underlying95, sz95, by95, ze95, fa95_0, fa95_1, fa95_2, go_sem, ↓reduceIte, reduceCtorEq, Nat.reduceEqDiff, Nat.reduceLT, ↓all_qV, Int.reduceToNat, Int.reduceLT, Int.reduceLE, Nat.reduceAdd, Nat.reduceLeDiff, Nat.reduceMul, ev_callG, gcallK_b, gcallK_w, callGc_true, callGc_false, List.forall_mem_cons, List.not_mem_nil, PV.one, AV.one]
noncomputable def B7 (g : FuncId) : PSpec := (putΦ (putΦ (putΦ B6 104 changesS) 102 amdsS) 93 largeS) g
theorem hB7 : TabSound GG B7 := (((hB6.put w_changesS).put w_amdsS).put w_largeS)
noncomputable def ifaS : PSpec := on_lp (fun es f => f = .fn 93 [] ∧ (∀ e, e ∈ es → isA3 e) ∧ es.length ≤ 1000) (fun es _ => .int .i64 (-1))
theorem k_large {args : List PV} : B7 93 args = largeS args := rfl
theorem w_ifaS : PSound GG 113 ifaS := by
  refine PSound.of_wpc (C := cxP Tryz.prog B7 [] 19) (T := plan0) Tryz.func113 rfl rfl rfl (Fit.pure (G := GG) hB7 mixed) (fun args h => ?_)
  unfold ifaS at h
  obtain ⟨es, f, rfl, hp⟩ := on_lp_inv h
  refine ⟨by simp [cxP], ?_⟩
  simp only [ifaS, on_lp_eq, Tryz.f113, argL, plan0]
  obtain ⟨rfl, he, hl⟩ := hp
  simp only [Tryz.underlying3, sz3, by3, ze3, Tryz.underlying4, sz4, by4, ze4, Tryz.underlying9, sz9, by9, ze9, Tryz.underlying31, sz31, by31, ze31, Tryz.underlying92, sz92, by92, ze92, fa92_0, fa92_1, fa92_2, fa92_3, Tryz.underlying93, sz93, by93, ze93, Tryz.underlying95, sz95, by95, ze95, fa95_0, fa95_1, fa95_2, Tryz.underlying140, sz140, by140, ze140, go_sem, ↓reduceIte, reduceCtorEq, Nat.reduceEqDiff, Nat.reduceLT, ↓all_qV, Int.reduceToNat, Int.reduceLT, Int.reduceLE, Nat.reduceAdd, Nat.reduceLeDiff, Nat.reduceMul]
  refine AWp.loop (T := plan0) (α := Nat) (fun i => ([(0, .pv (.sl es)), (1, .pv (.fn 93 [])), (7, .pv (.int .i64 es.length)), (8, .pv (.int .i64 i))], [])) (fun i => i ≤ es.length) (fun i => es.length - i)
    ⟨0, Nat.zero_le _, ⟨by simp [fitR, look], trivial, rfl, rfl, rfl⟩⟩ ?_
  intro i h1
  have hi1 : IntKind.i64.wrap ((i : Int) + 1) = ((i + 1 : Nat) : Int) := by rw [i64_in _ (by omega)]; omega
  by_cases hlt : i < es.length
  · have c0 : decide ((i : Int) < (es.length : Int)) = true := by simp; omega
    have hm := he _ (getD_mem hlt)
    generalize hg : es.getD i default = e at hm
    have hm2 := hm
    obtain ⟨d, n, ch, rfl, hx⟩ := hm
    simp only [c0, hg, hi1, k_large, largeS, on_p_eq, ev_callT, callTK, List.take_succ_cons, List.take_nil, Tryz.underlying3, sz3, by3, ze3, Tryz.underlying4, sz4, by4, ze4, Tryz.underlying9, sz9, by9, ze9, Tryz.underlying31, sz31, by31, ze31, Tryz.underlying92, sz92, by92, ze92, fa92_0, fa92_1, fa92_2, fa92_3, Tryz.underlying93, sz93, by93, ze93, Tryz.underlying95, sz95, by95, ze95, fa95_0, fa95_1, fa95_2, Tryz.underlying140, sz140, by140, ze140, plan0, go_sem, ↓reduceIte, reduceCtorEq, Nat.reduceEqDiff, Nat.reduceLT, ↓all_qV, Int.reduceToNat, Int.reduceLT, Int.reduceLE, Nat.reduceAdd, Nat.reduceLeDiff, Nat.reduceMul]
    exact ⟨by omega, hm2, i + 1, by omega, by omega, ⟨by simp [fitR, look], trivial, rfl, rfl, rfl⟩⟩
  · have c0 : decide ((i : Int) < (es.length : Int)) = false := by simp; omega
    simp only [c0, Tryz.underlying3, sz3, by3, ze3, Tryz.underlying4, sz4, by4, ze4, Tryz.underlying9, sz9, by9, ze9, Tryz.underlying31, sz31, by31, ze31, Tryz.underlying92, sz92, by92, ze92, fa92_0, fa92_1, fa92_2, fa92_3, Tryz.underlying93, sz93, by93, ze93, Tryz.underlying95, sz95, by95, ze95, fa95_0, fa95_1, fa95_2, Tryz.underlying140, sz140, by140, ze140, plan0, go_sem, ↓reduceIte, reduceCtorEq, Nat.reduceEqDiff, Nat.reduceLT, ↓all_qV, Int.reduceToNat, Int.reduceLT, Int.reduceLE, Nat.reduceAdd, Nat.reduceLeDiff, Nat.reduceMul]
noncomputable def B8 (g : FuncId) : PSpec := (putΦ B7 113 ifaS) g
theorem hB8 : TabSound GG B8 := (hB7.put w_ifaS)
noncomputable def cfaS : PSpec := on_lp (fun es f => f = .fn 93 [] ∧ (∀ e, e ∈ es → isA3 e) ∧ es.length ≤ 1000) (fun es _ => .bool false)
theorem k_cfaS_113 {args : List PV} : B8 113 args = ifaS args := rfl
theorem w_cfaS : PSound GG 94 cfaS := by
  refine PSound.of_wpc (C := cxP Tryz.prog B8 [] 9) (T := plan0) Tryz.func94 rfl rfl rfl (Fit.pure (G := GG) hB8 mixed) (fun args h => ?_)
  unfold cfaS at h
  obtain ⟨es, f, rfl, hp⟩ := on_lp_inv h
  refine ⟨by simp [cxP], ?_⟩
  simp only [cfaS, on_lp_eq, Tryz.f94, argL, plan0]
  obtain ⟨rfl, he, hl⟩ := hp
  simp only [k_cfaS_113, ifaS, on_lp_eq, Tryz.underlying3, sz3, by3, ze3, Tryz.underlying4, sz4, by4, ze4, Tryz.underlying9, sz9, by9, ze9, Tryz.underlying31, sz31, by31, ze31, Tryz.underlying92, sz92, by92, ze92, fa92_0, fa92_1, fa92_2, fa92_3, Tryz.underlying93, sz93, by93, ze93, Tryz.underlying95, sz95, by95, ze95, fa95_0, fa95_1, fa95_2, Tryz.underlying140, sz140, by140, ze140, go_sem, ↓reduceIte, reduceCtorEq, Nat.reduceEqDiff, Nat.reduceLT, ↓all_qV, Int.reduceToNat, Int.reduceLT, Int.reduceLE, Nat.reduceAdd, Nat.reduceLeDiff, Nat.reduceMul]
  exact ⟨⟨he, hl⟩, rfl⟩
noncomputable def eaLS : PSpec := on_lpp (fun es f g => f = .fn 69 [] ∧ (∃ k, g = .mv 70 [k] ∧ ∀ x, x ∈ es → lineP k x) ∧ (∀ x, x ∈ es → isL3 x) ∧ (∀ i, i + 1 < es.length → linO (es.getD i default) (es.getD (i + 1) default) < 0) ∧ es.length ≤ 1000) (fun _ _ _ => .int .i64 0)
theorem k_eaLo {args : List PV} : B7 69 args = linesS args := rfl
theorem k_eaLc {args : List PV} : B7 70 args = lineS args := rfl
theorem w_eaLS : PSound GG 68 eaLS := by
  refine PSound.of_wpc (C := cxP Tryz.prog B7 [] 37) (T := plan0) Tryz.func68 rfl rfl rfl (Fit.pure (G := GG) hB7 mixed) (fun args h => ?_)
  unfold eaLS at h
  obtain ⟨es, f, g, rfl, hp⟩ := on_lpp_inv h
  refine ⟨by simp [cxP], ?_⟩
  simp only [eaLS, on_lpp_eq, Tryz.f68, argL, plan0]
  obtain ⟨rfl, ⟨k, rfl, hk⟩, hsh, hord, hl⟩ := hp
  simp only [Tryz.underlying3, sz3, by3, ze3, Tryz.underlying4, sz4, by4, ze4, Tryz.underlying9, sz9, by9, ze9, Tryz.underlying26, sz26, by26, ze26, Tryz.underlying46, sz46, by46, ze46, Tryz.underlying86, sz86, by86, ze86, fa86_0, fa86_1, fa86_2, Tryz.underlying115, sz115, by115, ze115, Tryz.underlying116, sz116, by116, ze116, go_sem, ↓reduceIte, reduceCtorEq, Nat.reduceEqDiff, Nat.reduceLT, ↓all_qV, Int.reduceToNat, Int.reduceLT, Int.reduceLE, Nat.reduceAdd, Nat.reduceLeDiff, Nat.reduceMul]
  refine AWp.loop (T := plan0) (α := Nat) (fun i => ([(0, .pv (.sl es)), (1, .pv (.fn 69 [])), (2, .pv (.mv 70 [k])), (10, .pv (.sl es)), (11, .pv (.int .i64 es.length)), (12, .pv (.int .i64 i))], [])) (fun i => i ≤ es.length) (fun i => es.length - i)
    ⟨0, Nat.zero_le _, ⟨by simp [fitR, look], trivial, rfl, rfl, rfl⟩⟩ ?_
  intro i h1
  have hi1 : IntKind.i64.wrap ((i : Int) + 1) = ((i + 1 : Nat) : Int) := by rw [i64_in _ (by omega)]; omega
  by_cases hlt : i < es.length
  · have hgm := getD_mem hlt
    have hkx := hk _ hgm
    have hsx := hsh _ hgm
    obtain ⟨x, hg⟩ : ∃ x, es.getD i default = x := ⟨_, rfl⟩
    rw [hg] at hkx hsx
    have hsx2 := hsx
    obtain ⟨s, y, m, rfl, hs⟩ := hsx
    cases i with
    | zero =>
      have c0 : decide ((0 : Int) < (es.length : Int)) = true := by simp; omega
      have w1 : IntKind.i64.wrap (0 - 1) = -1 := by decide
      simp only [c0, bne_self_eq_false, decide_false, w1, neg1', hg, hi1, k_eaLo, k_eaLc, linesS, lineS, on_pp_eq, ev_callT, ev_callTG, callTK, callTGK, callP_mv, List.take_succ_cons, List.take_nil, Tryz.underlying3, sz3, by3, ze3, Tryz.underlying4, sz4, by4, ze4, Tryz.underlying9, sz9, by9, ze9, Tryz.underlying26, sz26, by26, ze26, Tryz.underlying46, sz46, by46, ze46, Tryz.underlying86, sz86, by86, ze86, fa86_0, fa86_1, fa86_2, Tryz.underlying115, sz115, by115, ze115, Tryz.underlying116, sz116, by116, ze116, plan0, go_sem, ↓reduceIte, reduceCtorEq, Nat.reduceEqDiff, Nat.reduceLT, ↓all_qV, Int.reduceToNat, Int.reduceLT, Int.reduceLE, Nat.reduceAdd, Nat.reduceLeDiff, Nat.reduceMul, ev_callG, gcallK_b, gcallK_w, callGc_true, callGc_false, List.forall_mem_cons, List.not_mem_nil, PV.one, AV.one]
      and_intros
      all_goals try first | exact hkx | exact ⟨hsx2, hsx2⟩ | exact fun _ => ⟨hsx2, hsx2⟩ | omega | trivial | (show checkD _ _ _ = true; kernel_rfl)
      all_goals exact ⟨0 + 1, by omega, by omega, ⟨by simp [fitR, look, show IntKind.i64.wrap (0 + 1) = 1 by decide, show IntKind.i64.wrap 1 = 1 by decide], trivial, rfl, rfl, rfl⟩⟩
    | succ j =>
      have c0 : decide (((j + 1 : Nat) : Int) < (es.length : Int)) = true := by simp; omega
      have c1 : decide ((0 : Int) < ((j + 1 : Nat) : Int)) = true := by simp
      have w1 : IntKind.i64.wrap (((j + 1 : Nat) : Int) - 1) = (j : Int) := by rw [i64_in _ (by omega)]; omega
      have hgj := getD_mem (show j < es.length by omega)
      have hsy := hsh _ hgj
      have ho := hord j (by omega)
      obtain ⟨z, hz⟩ : ∃ z, es.getD j default = z := ⟨_, rfl⟩
      rw [hz] at hsy ho
      rw [hg] at ho
      have hsy2 := hsy
      obtain ⟨s', y', m', rfl, hs'⟩ := hsy
      have co : decide ((0 : Int) ≤ linO (.agg [.str s', .int .i64 y', .int .i64 m']) (.agg [.str s, .int .i64 y, .int .i64 m])) = false := by simp; omega
      simp only [c0, c1, bne_self_eq_false, w1, hg, hz, co, hi1, k_eaLo, k_eaLc, linesS, lineS, on_pp_eq, ev_callT, ev_callTG, callTK, callTGK, callP_mv, List.take_succ_cons, List.take_nil, Tryz.underlying3, sz3, by3, ze3, Tryz.underlying4, sz4, by4, ze4, Tryz.underlying9, sz9, by9, ze9, Tryz.underlying26, sz26, by26, ze26, Tryz.underlying46, sz46, by46, ze46, Tryz.underlying86, sz86, by86, ze86, fa86_0, fa86_1, fa86_2, Tryz.underlying115, sz115, by115, ze115, Tryz.underlying116, sz116, by116, ze116, plan0, go_sem, ↓reduceIte, reduceCtorEq, Nat.reduceEqDiff, Nat.reduceLT, ↓all_qV, Int.reduceToNat, Int.reduceLT, Int.reduceLE, Nat.reduceAdd, Nat.reduceLeDiff, Nat.reduceMul, ev_callG, gcallK_b, gcallK_w, callGc_true, callGc_false, List.forall_mem_cons, List.not_mem_nil, PV.one, AV.one]
      and_intros
      all_goals try first | exact hkx | exact ⟨hsy2, hsx2⟩ | exact fun _ => ⟨hsy2, hsx2⟩ | omega | trivial | (show checkD _ _ _ = true; kernel_rfl)
      all_goals exact ⟨j + 1 + 1, by omega, by omega, ⟨by simp [fitR, look], trivial, rfl, rfl, rfl⟩⟩
  · have c0 : decide ((i : Int) < (es.length : Int)) = false := by simp; omega
    simp only [c0, Tryz.underlying3, sz3, by3, ze3, Tryz.underlying4, sz4, by4, ze4, Tryz.underlying9, sz9, by9, ze9, Tryz.underlying26, sz26, by26, ze26, Tryz.underlying46, sz46, by46, ze46, Tryz.underlying86, sz86, by86, ze86, fa86_0, fa86_1, fa86_2, Tryz.underlying115, sz115, by115, ze115, Tryz.underlying116, sz116, by116, ze116, plan0, go_sem, ↓reduceIte, reduceCtorEq, Nat.reduceEqDiff, Nat.reduceLT, ↓all_qV, Int.reduceToNat, Int.reduceLT, Int.reduceLE, Nat.reduceAdd, Nat.reduceLeDiff, Nat.reduceMul]
noncomputable def eaBS : PSpec := on_lpp (fun es f g => f = .fn 72 [] ∧ (∃ k, g = .mv 73 [k] ∧ ∀ x, x ∈ es → boundP k x) ∧ (∀ x, x ∈ es → isL3 x) ∧ (∀ i, i + 1 < es.length → linO (es.getD i default) (es.getD (i + 1) default) < 0) ∧ es.length ≤ 1000) (fun _ _ _ => .int .i64 0)
theorem k_eaBo {args : List PV} : B7 72 args = boundsS args := rfl
theorem k_eaBc {args : List PV} : B7 73 args = boundS args := rfl
theorem w_eaBS : PSound GG 71 eaBS := by
  refine PSound.of_wpc (C := cxP Tryz.prog B7 [] 37) (T := plan0) Tryz.func71 rfl rfl rfl (Fit.pure (G := GG) hB7 mixed) (fun args h => ?_)
  unfold eaBS at h
  obtain ⟨es, f, g, rfl, hp⟩ := on_lpp_inv h
  refine ⟨by simp [cxP], ?_⟩
  simp only [eaBS, on_lpp_eq, Tryz.f71, argL, plan0]
  obtain ⟨rfl, ⟨k, rfl, hk⟩, hsh, hord, hl⟩ := hp
  simp only [Tryz.underlying3, sz3, by3, ze3, Tryz.underlying4, sz4, by4, ze4, Tryz.underlying9, sz9, by9, ze9, Tryz.underlying27, sz27, by27, ze27, Tryz.underlying46, sz46, by46, ze46, Tryz.underlying89, sz89, by89, ze89, fa89_0, fa89_1, fa89_2, Tryz.underlying118, sz118, by118, ze118, Tryz.underlying119, sz119, by119, ze119, go_sem, ↓reduceIte, reduceCtorEq, Nat.reduceEqDiff, Nat.reduceLT, ↓all_qV, Int.reduceToNat, Int.reduceLT, Int.reduceLE, Nat.reduceAdd, Nat.reduceLeDiff, Nat.reduceMul]
  refine AWp.loop (T := plan0) (α := Nat) (fun i => ([(0, .pv (.sl es)), (1, .pv (.fn 72 [])), (2, .pv (.mv 73 [k])), (10, .pv (.sl es)), (11, .pv (.int .i64 es.length)), (12, .pv (.int .i64 i))], [])) (fun i => i ≤ es.length) (fun i => es.length - i)
    ⟨0, Nat.zero_le _, ⟨by simp [fitR, look], trivial, rfl, rfl, rfl⟩⟩ ?_
  intro i h1
  have hi1 : IntKind.i64.wrap ((i : Int) + 1) = ((i + 1 : Nat) : Int) := by rw [i64_in _ (by omega)]; omega
  by_cases hlt : i < es.length
  · have hgm := getD_mem hlt
    have hkx := hk _ hgm
    have hsx := hsh _ hgm
    obtain ⟨x, hg⟩ : ∃ x, es.getD i default = x := ⟨_, rfl⟩
    rw [hg] at hkx hsx
    have hsx2 := hsx
    obtain ⟨s, y, m, rfl, hs⟩ := hsx
    cases i with
    | zero =>
      have c0 : decide ((0 : Int) < (es.length : Int)) = true := by simp; omega
      have w1 : IntKind.i64.wrap (0 - 1) = -1 := by decide
      simp only [c0, bne_self_eq_false, decide_false, w1, neg1', hg, hi1, k_eaBo, k_eaBc, boundsS, boundS, on_pp_eq, ev_callT, ev_callTG, callTK, callTGK, callP_mv, List.take_succ_cons, List.take_nil, Tryz.underlying3, sz3, by3, ze3, Tryz.underlying4, sz4, by4, ze4, Tryz.underlying9, sz9, by9, ze9, Tryz.underlying27, sz27, by27, ze27, Tryz.underlying46, sz46, by46, ze46, Tryz.underlying89, sz89, by89, ze89, fa89_0, fa89_1, fa89_2, Tryz.underlying118, sz118, by118, ze118, Tryz.underlying119, sz119, by119, ze119, plan0, go_sem, ↓reduceIte, reduceCtorEq, Nat.reduceEqDiff, Nat.reduceLT, ↓all_qV, Int.reduceToNat, Int.reduceLT, Int.reduceLE, Nat.reduceAdd, Nat.reduceLeDiff, Nat.reduceMul, ev_callG, gcallK_b, gcallK_w, callGc_true, callGc_false, List.forall_mem_cons, List.not_mem_nil, PV.one, AV.one]
      and_intros
      all_goals try first | exact hkx | exact ⟨hsx2, hsx2⟩ | exact fun _ => ⟨hsx2, hsx2⟩ | omega | trivial | (show checkD _ _ _ = true; kernel_rfl)
      all_goals exact ⟨0 + 1, by omega, by omega, ⟨by simp [fitR, look, show IntKind.i64.wrap (0 + 1) = 1 by decide, show IntKind.i64.wrap 1 = 1 by decide], trivial, rfl, rfl, rfl⟩⟩
    | succ j =>
      have c0 : decide (((j + 1 : Nat) : Int) < (es.length : Int)) = true := by simp; omega
      have c1 : decide ((0 : Int) < ((j + 1 : Nat) : Int)) = true := by simp
      have w1 : IntKind.i64.wrap (((j + 1 : Nat) : Int) - 1) = (j : Int) := by rw [i64_in _ (by omega)]; omega
      have hgj := getD_mem (show j < es.length by omega)
      have hsy := hsh _ hgj
      have ho := hord j (by omega)
      obtain ⟨z, hz⟩ : ∃ z, es.getD j default = z := ⟨_, rfl⟩
      rw [hz] at hsy ho
      rw [hg] at ho
      have hsy2 := hsy
      obtain ⟨s', y', m', rfl, hs'⟩ := hsy
      have co : decide ((0 : Int) ≤ linO (.agg [.str s', .int .i64 y', .int .i64 m']) (.agg [.str s, .int .i64 y, .int .i64 m])) = false := by simp; omega
      simp only [c0, c1, bne_self_eq_false, w1, hg, hz, co, hi1, k_eaBo, k_eaBc, boundsS, boundS, on_pp_eq, ev_callT, ev_callTG, callTK, callTGK, callP_mv, List.take_succ_cons, List.take_nil, Tryz.underlying3, sz3, by3, ze3, Tryz.underlying4, sz4, by4, ze4, Tryz.underlying9, sz9, by9, ze9, Tryz.underlying27, sz27, by27, ze27, Tryz.underlying46, sz46, by46, ze46, Tryz.underlying89, sz89, by89, ze89, fa89_0, fa89_1, fa89_2, Tryz.underlying118, sz118, by118, ze118, Tryz.underlying119, sz119, by119, ze119, plan0, go_sem, ↓reduceIte, reduceCtorEq, Nat.reduceEqDiff, Nat.reduceLT, ↓all_qV, Int.reduceToNat, Int.reduceLT, Int.reduceLE, Nat.reduceAdd, Nat.reduceLeDiff, Nat.reduceMul, ev_callG, gcallK_b, gcallK_w, callGc_true, callGc_false, List.forall_mem_cons, List.not_mem_nil, PV.one, AV.one]
      and_intros
      all_goals try first | exact hkx | exact ⟨hsy2, hsx2⟩ | exact fun _ => ⟨hsy2, hsx2⟩ | omega | trivial | (show checkD _ _ _ = true; kernel_rfl)
      all_goals exact ⟨j + 1 + 1, by omega, by omega, ⟨by simp [fitR, look], trivial, rfl, rfl, rfl⟩⟩
  · have c0 : decide ((i : Int) < (es.length : Int)) = false := by simp; omega
    simp only [c0, Tryz.underlying3, sz3, by3, ze3, Tryz.underlying4, sz4, by4, ze4, Tryz.underlying9, sz9, by9, ze9, Tryz.underlying27, sz27, by27, ze27, Tryz.underlying46, sz46, by46, ze46, Tryz.underlying89, sz89, by89, ze89, fa89_0, fa89_1, fa89_2, Tryz.underlying118, sz118, by118, ze118, Tryz.underlying119, sz119, by119, ze119, plan0, go_sem, ↓reduceIte, reduceCtorEq, Nat.reduceEqDiff, Nat.reduceLT, ↓all_qV, Int.reduceToNat, Int.reduceLT, Int.reduceLE, Nat.reduceAdd, Nat.reduceLeDiff, Nat.reduceMul]
noncomputable def eaES : PSpec := on_lpp (fun es f g => f = .fn 75 [] ∧ (∃ k, g = .mv 76 [k] ∧ ∀ x, x ∈ es → earmarkP k x) ∧ (∀ x, x ∈ es → isE3 x) ∧ (∀ i, i + 1 < es.length → earO (es.getD i default) (es.getD (i + 1) default) < 0) ∧ es.length ≤ 1000) (fun _ _ _ => .int .i64 0)
theorem k_eaEo {args : List PV} : B7 75 args = earmarksS args := rfl
theorem k_eaEc {args : List PV} : B7 76 args = earmarkS args := rfl
theorem w_eaES : PSound GG 74 eaES := by
  refine PSound.of_wpc (C := cxP Tryz.prog B7 [] 37) (T := plan0) Tryz.func74 rfl rfl rfl (Fit.pure (G := GG) hB7 mixed) (fun args h => ?_)
  unfold eaES at h
  obtain ⟨es, f, g, rfl, hp⟩ := on_lpp_inv h
  refine ⟨by simp [cxP], ?_⟩
  simp only [eaES, on_lpp_eq, Tryz.f74, argL, plan0]
  obtain ⟨rfl, ⟨k, rfl, hk⟩, hsh, hord, hl⟩ := hp
  simp only [Tryz.underlying3, sz3, by3, ze3, Tryz.underlying4, sz4, by4, ze4, Tryz.underlying9, sz9, by9, ze9, Tryz.underlying28, sz28, by28, ze28, Tryz.underlying46, sz46, by46, ze46, Tryz.underlying77, sz77, by77, ze77, fa77_0, fa77_1, fa77_2, Tryz.underlying121, sz121, by121, ze121, Tryz.underlying122, sz122, by122, ze122, go_sem, ↓reduceIte, reduceCtorEq, Nat.reduceEqDiff, Nat.reduceLT, ↓all_qV, Int.reduceToNat, Int.reduceLT, Int.reduceLE, Nat.reduceAdd, Nat.reduceLeDiff, Nat.reduceMul]
  refine AWp.loop (T := plan0) (α := Nat) (fun i => ([(0, .pv (.sl es)), (1, .pv (.fn 75 [])), (2, .pv (.mv 76 [k])), (10, .pv (.sl es)), (11, .pv (.int .i64 es.length)), (12, .pv (.int .i64 i))], [])) (fun i => i ≤ es.length) (fun i => es.length - i)
    ⟨0, Nat.zero_le _, ⟨by simp [fitR, look], trivial, rfl, rfl, rfl⟩⟩ ?_
  intro i h1
  have hi1 : IntKind.i64.wrap ((i : Int) + 1) = ((i + 1 : Nat) : Int) := by rw [i64_in _ (by omega)]; omega
  by_cases hlt : i < es.length
  · have hgm := getD_mem hlt
    have hkx := hk _ hgm
    have hsx := hsh _ hgm
    obtain ⟨x, hg⟩ : ∃ x, es.getD i default = x := ⟨_, rfl⟩
    rw [hg] at hkx hsx
    have hsx2 := hsx
    obtain ⟨s, y, m, rfl, hs⟩ := hsx
    cases i with
    | zero =>
      have c0 : decide ((0 : Int) < (es.length : Int)) = true := by simp; omega
      have w1 : IntKind.i64.wrap (0 - 1) = -1 := by decide
      simp only [c0, bne_self_eq_false, decide_false, w1, neg1', hg, hi1, k_eaEo, k_eaEc, earmarksS, earmarkS, on_pp_eq, ev_callT, ev_callTG, callTK, callTGK, callP_mv, List.take_succ_cons, List.take_nil, Tryz.underlying3, sz3, by3, ze3, Tryz.underlying4, sz4, by4, ze4, Tryz.underlying9, sz9, by9, ze9, Tryz.underlying28, sz28, by28, ze28, Tryz.underlying46, sz46, by46, ze46, Tryz.underlying77, sz77, by77, ze77, fa77_0, fa77_1, fa77_2, Tryz.underlying121, sz121, by121, ze121, Tryz.underlying122, sz122, by122, ze122, plan0, go_sem, ↓reduceIte, reduceCtorEq, Nat.reduceEqDiff, Nat.reduceLT, ↓all_qV, Int.reduceToNat, Int.reduceLT, Int.reduceLE, Nat.reduceAdd, Nat.reduceLeDiff, Nat.reduceMul, ev_callG, gcallK_b, gcallK_w, callGc_true, callGc_false, List.forall_mem_cons, List.not_mem_nil, PV.one, AV.one]
      and_intros
      all_goals try first | exact hkx | exact ⟨hsx2, hsx2⟩ | exact fun _ => ⟨hsx2, hsx2⟩ | omega | trivial | (show checkD _ _ _ = true; kernel_rfl)
      all_goals exact ⟨0 + 1, by omega, by omega, ⟨by simp [fitR, look, show IntKind.i64.wrap (0 + 1) = 1 by decide, show IntKind.i64.wrap 1 = 1 by decide], trivial, rfl, rfl, rfl⟩⟩
    | succ j =>
      have c0 : decide (((j + 1 : Nat) : Int) < (es.length : Int)) = true := by simp; omega
      have c1 : decide ((0 : Int) < ((j + 1 : Nat) : Int)) = true := by simp
      have w1 : IntKind.i64.wrap (((j + 1 : Nat) : Int) - 1) = (j : Int) := by rw [i64_in _ (by omega)]; omega
      have hgj := getD_mem (show j < es.length by omega)
      have hsy := hsh _ hgj
      have ho := hord j (by omega)
      obtain ⟨z, hz⟩ : ∃ z, es.getD j default = z := ⟨_, rfl⟩
      rw [hz] at hsy ho
      rw [hg] at ho
      have hsy2 := hsy
      obtain ⟨s', y', m', rfl, hs'⟩ := hsy
      have co : decide ((0 : Int) ≤ earO (.agg [.str s', .str y', .int .i64 m']) (.agg [.str s, .str y, .int .i64 m])) = false := by simp; omega
      simp only [c0, c1, bne_self_eq_false, w1, hg, hz, co, hi1, k_eaEo, k_eaEc, earmarksS, earmarkS, on_pp_eq, ev_callT, ev_callTG, callTK, callTGK, callP_mv, List.take_succ_cons, List.take_nil, Tryz.underlying3, sz3, by3, ze3, Tryz.underlying4, sz4, by4, ze4, Tryz.underlying9, sz9, by9, ze9, Tryz.underlying28, sz28, by28, ze28, Tryz.underlying46, sz46, by46, ze46, Tryz.underlying77, sz77, by77, ze77, fa77_0, fa77_1, fa77_2, Tryz.underlying121, sz121, by121, ze121, Tryz.underlying122, sz122, by122, ze122, plan0, go_sem, ↓reduceIte, reduceCtorEq, Nat.reduceEqDiff, Nat.reduceLT, ↓all_qV, Int.reduceToNat, Int.reduceLT, Int.reduceLE, Nat.reduceAdd, Nat.reduceLeDiff, Nat.reduceMul, ev_callG, gcallK_b, gcallK_w, callGc_true, callGc_false, List.forall_mem_cons, List.not_mem_nil, PV.one, AV.one]
      and_intros
      all_goals try first | exact hkx | exact ⟨hsy2, hsx2⟩ | exact fun _ => ⟨hsy2, hsx2⟩ | omega | trivial | (show checkD _ _ _ = true; kernel_rfl)
      all_goals exact ⟨j + 1 + 1, by omega, by omega, ⟨by simp [fitR, look], trivial, rfl, rfl, rfl⟩⟩
  · have c0 : decide ((i : Int) < (es.length : Int)) = false := by simp; omega
    simp only [c0, Tryz.underlying3, sz3, by3, ze3, Tryz.underlying4, sz4, by4, ze4, Tryz.underlying9, sz9, by9, ze9, Tryz.underlying28, sz28, by28, ze28, Tryz.underlying46, sz46, by46, ze46, Tryz.underlying77, sz77, by77, ze77, fa77_0, fa77_1, fa77_2, Tryz.underlying121, sz121, by121, ze121, Tryz.underlying122, sz122, by122, ze122, plan0, go_sem, ↓reduceIte, reduceCtorEq, Nat.reduceEqDiff, Nat.reduceLT, ↓all_qV, Int.reduceToNat, Int.reduceLT, Int.reduceLE, Nat.reduceAdd, Nat.reduceLeDiff, Nat.reduceMul]
noncomputable def eaCS : PSpec := on_lpp (fun es f g => f = .fn 66 [] ∧ (∃ k, g = .mv 79 [k] ∧ ∀ x, x ∈ es → condP k x) ∧ (∀ x, x ∈ es → isC7 x) ∧ (∀ i, i + 1 < es.length → anyO (es.getD i default) (es.getD (i + 1) default) < 0) ∧ es.length ≤ 1000) (fun _ _ _ => .int .i64 0)
theorem k_eaCo {args : List PV} : B7 66 args = anyS args := rfl
theorem k_eaCc {args : List PV} : B7 79 args = condCS args := rfl
theorem w_eaCS : PSound GG 78 eaCS := by
  refine PSound.of_wpc (C := cxP Tryz.prog B7 [] 37) (T := plan0) Tryz.func78 rfl rfl rfl (Fit.pure (G := GG) hB7 mixed) (fun args h => ?_)
  unfold eaCS at h
  obtain ⟨es, f, g, rfl, hp⟩ := on_lpp_inv h
  refine ⟨by simp [cxP], ?_⟩
  simp only [eaCS, on_lpp_eq, Tryz.f78, argL, plan0]
  obtain ⟨rfl, ⟨k, rfl, hk⟩, hsh, hord, hl⟩ := hp
  simp only [Tryz.underlying3, sz3, by3, ze3, Tryz.underlying4, sz4, by4, ze4, Tryz.underlying9, sz9, by9, ze9, Tryz.underlying29, sz29, by29, ze29, Tryz.underlying46, sz46, by46, ze46, Tryz.underlying57, sz57, by57, ze57, fa57_0, fa57_1, fa57_2, fa57_3, fa57_4, fa57_5, fa57_6, Tryz.underlying112, sz112, by112, ze112, Tryz.underlying124, sz124, by124, ze124, go_sem, ↓reduceIte, reduceCtorEq, Nat.reduceEqDiff, Nat.reduceLT, ↓all_qV, Int.reduceToNat, Int.reduceLT, Int.reduceLE, Nat.reduceAdd, Nat.reduceLeDiff, Nat.reduceMul]
  refine AWp.loop (T := plan0) (α := Nat) (fun i => ([(0, .pv (.sl es)), (1, .pv (.fn 66 [])), (2, .pv (.mv 79 [k])), (10, .pv (.sl es)), (11, .pv (.int .i64 es.length)), (12, .pv (.int .i64 i))], [])) (fun i => i ≤ es.length) (fun i => es.length - i)
    ⟨0, Nat.zero_le _, ⟨by simp [fitR, look], trivial, rfl, rfl, rfl⟩⟩ ?_
  intro i h1
  have hi1 : IntKind.i64.wrap ((i : Int) + 1) = ((i + 1 : Nat) : Int) := by rw [i64_in _ (by omega)]; omega
  by_cases hlt : i < es.length
  · have hgm := getD_mem hlt
    have hkx := hk _ hgm
    have hsx := hsh _ hgm
    obtain ⟨x, hg⟩ : ∃ x, es.getD i default = x := ⟨_, rfl⟩
    rw [hg] at hkx hsx
    have hsx2 := hsx
    obtain ⟨c, y, am, kd, d, s, l, rfl, hs⟩ := hsx
    cases i with
    | zero =>
      have c0 : decide ((0 : Int) < (es.length : Int)) = true := by simp; omega
      have w1 : IntKind.i64.wrap (0 - 1) = -1 := by decide
      simp only [c0, bne_self_eq_false, decide_false, w1, neg1', hg, hi1, k_eaCo, k_eaCc, anyS, condCS, on_pp_eq, ev_callT, ev_callTG, callTK, callTGK, callP_mv, List.take_succ_cons, List.take_nil, Tryz.underlying3, sz3, by3, ze3, Tryz.underlying4, sz4, by4, ze4, Tryz.underlying9, sz9, by9, ze9, Tryz.underlying29, sz29, by29, ze29, Tryz.underlying46, sz46, by46, ze46, Tryz.underlying57, sz57, by57, ze57, fa57_0, fa57_1, fa57_2, fa57_3, fa57_4, fa57_5, fa57_6, Tryz.underlying112, sz112, by112, ze112, Tryz.underlying124, sz124, by124, ze124, plan0, go_sem, ↓reduceIte, reduceCtorEq, Nat.reduceEqDiff, Nat.reduceLT, ↓all_qV, Int.reduceToNat, Int.reduceLT, Int.reduceLE, Nat.reduceAdd, Nat.reduceLeDiff, Nat.reduceMul, ev_callG, gcallK_b, gcallK_w, callGc_true, callGc_false, List.forall_mem_cons, List.not_mem_nil, PV.one, AV.one]
      and_intros
      all_goals try first | exact hkx | exact ⟨hsx2, hsx2⟩ | exact fun _ => ⟨hsx2, hsx2⟩ | omega | trivial | (show checkD _ _ _ = true; kernel_rfl)
      all_goals exact ⟨0 + 1, by omega, by omega, ⟨by simp [fitR, look, show IntKind.i64.wrap (0 + 1) = 1 by decide, show IntKind.i64.wrap 1 = 1 by decide], trivial, rfl, rfl, rfl⟩⟩
    | succ j =>
      have c0 : decide (((j + 1 : Nat) : Int) < (es.length : Int)) = true := by simp; omega
      have c1 : decide ((0 : Int) < ((j + 1 : Nat) : Int)) = true := by simp
      have w1 : IntKind.i64.wrap (((j + 1 : Nat) : Int) - 1) = (j : Int) := by rw [i64_in _ (by omega)]; omega
      have hgj := getD_mem (show j < es.length by omega)
      have hsy := hsh _ hgj
      have ho := hord j (by omega)
      obtain ⟨z, hz⟩ : ∃ z, es.getD j default = z := ⟨_, rfl⟩
      rw [hz] at hsy ho
      rw [hg] at ho
      have hsy2 := hsy
      obtain ⟨c', y', am', kd', d', s', l', rfl, hs'⟩ := hsy
      have co : decide ((0 : Int) ≤ anyO (.agg [.str c', .int .i64 y', .int .i64 am', .int .i64 kd', .int .i64 d', .str s', .int .i64 l']) (.agg [.str c, .int .i64 y, .int .i64 am, .int .i64 kd, .int .i64 d, .str s, .int .i64 l])) = false := by simp; omega
      simp only [c0, c1, bne_self_eq_false, w1, hg, hz, co, hi1, k_eaCo, k_eaCc, anyS, condCS, on_pp_eq, ev_callT, ev_callTG, callTK, callTGK, callP_mv, List.take_succ_cons, List.take_nil, Tryz.underlying3, sz3, by3, ze3, Tryz.underlying4, sz4, by4, ze4, Tryz.underlying9, sz9, by9, ze9, Tryz.underlying29, sz29, by29, ze29, Tryz.underlying46, sz46, by46, ze46, Tryz.underlying57, sz57, by57, ze57, fa57_0, fa57_1, fa57_2, fa57_3, fa57_4, fa57_5, fa57_6, Tryz.underlying112, sz112, by112, ze112, Tryz.underlying124, sz124, by124, ze124, plan0, go_sem, ↓reduceIte, reduceCtorEq, Nat.reduceEqDiff, Nat.reduceLT, ↓all_qV, Int.reduceToNat, Int.reduceLT, Int.reduceLE, Nat.reduceAdd, Nat.reduceLeDiff, Nat.reduceMul, ev_callG, gcallK_b, gcallK_w, callGc_true, callGc_false, List.forall_mem_cons, List.not_mem_nil, PV.one, AV.one]
      and_intros
      all_goals try first | exact hkx | exact ⟨hsy2, hsx2⟩ | exact fun _ => ⟨hsy2, hsx2⟩ | omega | trivial | (show checkD _ _ _ = true; kernel_rfl)
      all_goals exact ⟨j + 1 + 1, by omega, by omega, ⟨by simp [fitR, look], trivial, rfl, rfl, rfl⟩⟩
  · have c0 : decide ((i : Int) < (es.length : Int)) = false := by simp; omega
    simp only [c0, Tryz.underlying3, sz3, by3, ze3, Tryz.underlying4, sz4, by4, ze4, Tryz.underlying9, sz9, by9, ze9, Tryz.underlying29, sz29, by29, ze29, Tryz.underlying46, sz46, by46, ze46, Tryz.underlying57, sz57, by57, ze57, fa57_0, fa57_1, fa57_2, fa57_3, fa57_4, fa57_5, fa57_6, Tryz.underlying112, sz112, by112, ze112, Tryz.underlying124, sz124, by124, ze124, plan0, go_sem, ↓reduceIte, reduceCtorEq, Nat.reduceEqDiff, Nat.reduceLT, ↓all_qV, Int.reduceToNat, Int.reduceLT, Int.reduceLE, Nat.reduceAdd, Nat.reduceLeDiff, Nat.reduceMul]
noncomputable def eaRS : PSpec := on_lpp (fun es f g => f = .fn 81 [] ∧ (∃ k, g = .mv 82 [k] ∧ ∀ x, x ∈ es → rulP k x) ∧ (∀ x, x ∈ es → isR4 x) ∧ (∀ i, i + 1 < es.length → rulO (es.getD i default) (es.getD (i + 1) default) < 0) ∧ es.length ≤ 1000) (fun _ _ _ => .int .i64 0)
theorem k_eaRo {args : List PV} : B7 81 args = rulesS args := rfl
theorem k_eaRc {args : List PV} : B7 82 args = ruleCS args := rfl
theorem w_eaRS : PSound GG 80 eaRS := by
  refine PSound.of_wpc (C := cxP Tryz.prog B7 [] 37) (T := plan0) Tryz.func80 rfl rfl rfl (Fit.pure (G := GG) hB7 mixed) (fun args h => ?_)
  unfold eaRS at h
  obtain ⟨es, f, g, rfl, hp⟩ := on_lpp_inv h
  refine ⟨by simp [cxP], ?_⟩
  simp only [eaRS, on_lpp_eq, Tryz.f80, argL, plan0]
  obtain ⟨rfl, ⟨k, rfl, hk⟩, hsh, hord, hl⟩ := hp
  simp only [Tryz.underlying3, sz3, by3, ze3, Tryz.underlying4, sz4, by4, ze4, Tryz.underlying9, sz9, by9, ze9, Tryz.underlying30, sz30, by30, ze30, Tryz.underlying46, sz46, by46, ze46, Tryz.underlying88, sz88, by88, ze88, fa88_0, fa88_1, fa88_2, fa88_3, Tryz.underlying126, sz126, by126, ze126, Tryz.underlying127, sz127, by127, ze127, go_sem, ↓reduceIte, reduceCtorEq, Nat.reduceEqDiff, Nat.reduceLT, ↓all_qV, Int.reduceToNat, Int.reduceLT, Int.reduceLE, Nat.reduceAdd, Nat.reduceLeDiff, Nat.reduceMul]
  refine AWp.loop (T := plan0) (α := Nat) (fun i => ([(0, .pv (.sl es)), (1, .pv (.fn 81 [])), (2, .pv (.mv 82 [k])), (10, .pv (.sl es)), (11, .pv (.int .i64 es.length)), (12, .pv (.int .i64 i))], [])) (fun i => i ≤ es.length) (fun i => es.length - i)
    ⟨0, Nat.zero_le _, ⟨by simp [fitR, look], trivial, rfl, rfl, rfl⟩⟩ ?_
  intro i h1
  have hi1 : IntKind.i64.wrap ((i : Int) + 1) = ((i + 1 : Nat) : Int) := by rw [i64_in _ (by omega)]; omega
  by_cases hlt : i < es.length
  · have hgm := getD_mem hlt
    have hkx := hk _ hgm
    have hsx := hsh _ hgm
    obtain ⟨x, hg⟩ : ∃ x, es.getD i default = x := ⟨_, rfl⟩
    rw [hg] at hkx hsx
    have hsx2 := hsx
    obtain ⟨n, s, c, p, rfl, hs⟩ := hsx
    cases i with
    | zero =>
      have c0 : decide ((0 : Int) < (es.length : Int)) = true := by simp; omega
      have w1 : IntKind.i64.wrap (0 - 1) = -1 := by decide
      simp only [c0, bne_self_eq_false, decide_false, w1, neg1', hg, hi1, k_eaRo, k_eaRc, rulesS, ruleCS, on_pp_eq, ev_callT, ev_callTG, callTK, callTGK, callP_mv, List.take_succ_cons, List.take_nil, Tryz.underlying3, sz3, by3, ze3, Tryz.underlying4, sz4, by4, ze4, Tryz.underlying9, sz9, by9, ze9, Tryz.underlying30, sz30, by30, ze30, Tryz.underlying46, sz46, by46, ze46, Tryz.underlying88, sz88, by88, ze88, fa88_0, fa88_1, fa88_2, fa88_3, Tryz.underlying126, sz126, by126, ze126, Tryz.underlying127, sz127, by127, ze127, plan0, go_sem, ↓reduceIte, reduceCtorEq, Nat.reduceEqDiff, Nat.reduceLT, ↓all_qV, Int.reduceToNat, Int.reduceLT, Int.reduceLE, Nat.reduceAdd, Nat.reduceLeDiff, Nat.reduceMul, ev_callG, gcallK_b, gcallK_w, callGc_true, callGc_false, List.forall_mem_cons, List.not_mem_nil, PV.one, AV.one]
      and_intros
      all_goals try first | exact hkx | exact ⟨hsx2, hsx2⟩ | exact fun _ => ⟨hsx2, hsx2⟩ | omega | trivial | (show checkD _ _ _ = true; kernel_rfl)
      all_goals exact ⟨0 + 1, by omega, by omega, ⟨by simp [fitR, look, show IntKind.i64.wrap (0 + 1) = 1 by decide, show IntKind.i64.wrap 1 = 1 by decide], trivial, rfl, rfl, rfl⟩⟩
    | succ j =>
      have c0 : decide (((j + 1 : Nat) : Int) < (es.length : Int)) = true := by simp; omega
      have c1 : decide ((0 : Int) < ((j + 1 : Nat) : Int)) = true := by simp
      have w1 : IntKind.i64.wrap (((j + 1 : Nat) : Int) - 1) = (j : Int) := by rw [i64_in _ (by omega)]; omega
      have hgj := getD_mem (show j < es.length by omega)
      have hsy := hsh _ hgj
      have ho := hord j (by omega)
      obtain ⟨z, hz⟩ : ∃ z, es.getD j default = z := ⟨_, rfl⟩
      rw [hz] at hsy ho
      rw [hg] at ho
      have hsy2 := hsy
      obtain ⟨n', s', c', p', rfl, hs'⟩ := hsy
      have co : decide ((0 : Int) ≤ rulO (.agg [.int .i64 n', .str s', .str c', .int .i64 p']) (.agg [.int .i64 n, .str s, .str c, .int .i64 p])) = false := by simp; omega
      simp only [c0, c1, bne_self_eq_false, w1, hg, hz, co, hi1, k_eaRo, k_eaRc, rulesS, ruleCS, on_pp_eq, ev_callT, ev_callTG, callTK, callTGK, callP_mv, List.take_succ_cons, List.take_nil, Tryz.underlying3, sz3, by3, ze3, Tryz.underlying4, sz4, by4, ze4, Tryz.underlying9, sz9, by9, ze9, Tryz.underlying30, sz30, by30, ze30, Tryz.underlying46, sz46, by46, ze46, Tryz.underlying88, sz88, by88, ze88, fa88_0, fa88_1, fa88_2, fa88_3, Tryz.underlying126, sz126, by126, ze126, Tryz.underlying127, sz127, by127, ze127, plan0, go_sem, ↓reduceIte, reduceCtorEq, Nat.reduceEqDiff, Nat.reduceLT, ↓all_qV, Int.reduceToNat, Int.reduceLT, Int.reduceLE, Nat.reduceAdd, Nat.reduceLeDiff, Nat.reduceMul, ev_callG, gcallK_b, gcallK_w, callGc_true, callGc_false, List.forall_mem_cons, List.not_mem_nil, PV.one, AV.one]
      and_intros
      all_goals try first | exact hkx | exact ⟨hsy2, hsx2⟩ | exact fun _ => ⟨hsy2, hsx2⟩ | omega | trivial | (show checkD _ _ _ = true; kernel_rfl)
      all_goals exact ⟨j + 1 + 1, by omega, by omega, ⟨by simp [fitR, look], trivial, rfl, rfl, rfl⟩⟩
  · have c0 : decide ((i : Int) < (es.length : Int)) = false := by simp; omega
    simp only [c0, Tryz.underlying3, sz3, by3, ze3, Tryz.underlying4, sz4, by4, ze4, Tryz.underlying9, sz9, by9, ze9, Tryz.underlying30, sz30, by30, ze30, Tryz.underlying46, sz46, by46, ze46, Tryz.underlying88, sz88, by88, ze88, fa88_0, fa88_1, fa88_2, fa88_3, Tryz.underlying126, sz126, by126, ze126, Tryz.underlying127, sz127, by127, ze127, plan0, go_sem, ↓reduceIte, reduceCtorEq, Nat.reduceEqDiff, Nat.reduceLT, ↓all_qV, Int.reduceToNat, Int.reduceLT, Int.reduceLE, Nat.reduceAdd, Nat.reduceLeDiff, Nat.reduceMul]
noncomputable def eaXS : PSpec := on_lpp (fun es f g => f = .fn 104 [] ∧ (∃ k, g = .mv 105 [k] ∧ ∀ x, x ∈ es → changeP k x) ∧ (∀ x, x ∈ es → isX4 x) ∧ (∀ i, i + 1 < es.length → chaO (es.getD i default) (es.getD (i + 1) default) < 0) ∧ es.length ≤ 1000) (fun _ _ _ => .int .i64 0)
theorem k_eaXo {args : List PV} : B7 104 args = changesS args := rfl
theorem k_eaXc {args : List PV} : B7 105 args = changeS args := rfl
theorem w_eaXS : PSound GG 103 eaXS := by
  refine PSound.of_wpc (C := cxP Tryz.prog B7 [] 37) (T := plan0) Tryz.func103 rfl rfl rfl (Fit.pure (G := GG) hB7 mixed) (fun args h => ?_)
  unfold eaXS at h
  obtain ⟨es, f, g, rfl, hp⟩ := on_lpp_inv h
  refine ⟨by simp [cxP], ?_⟩
  simp only [eaXS, on_lpp_eq, Tryz.f103, argL, plan0]
  obtain ⟨rfl, ⟨k, rfl, hk⟩, hsh, hord, hl⟩ := hp
  simp only [Tryz.underlying3, sz3, by3, ze3, Tryz.underlying4, sz4, by4, ze4, Tryz.underlying9, sz9, by9, ze9, Tryz.underlying46, sz46, by46, ze46, Tryz.underlying92, sz92, by92, ze92, fa92_0, fa92_1, fa92_2, fa92_3, Tryz.underlying93, sz93, by93, ze93, Tryz.underlying147, sz147, by147, ze147, Tryz.underlying148, sz148, by148, ze148, go_sem, ↓reduceIte, reduceCtorEq, Nat.reduceEqDiff, Nat.reduceLT, ↓all_qV, Int.reduceToNat, Int.reduceLT, Int.reduceLE, Nat.reduceAdd, Nat.reduceLeDiff, Nat.reduceMul]
  refine AWp.loop (T := plan0) (α := Nat) (fun i => ([(0, .pv (.sl es)), (1, .pv (.fn 104 [])), (2, .pv (.mv 105 [k])), (10, .pv (.sl es)), (11, .pv (.int .i64 es.length)), (12, .pv (.int .i64 i))], [])) (fun i => i ≤ es.length) (fun i => es.length - i)
    ⟨0, Nat.zero_le _, ⟨by simp [fitR, look], trivial, rfl, rfl, rfl⟩⟩ ?_
  intro i h1
  have hi1 : IntKind.i64.wrap ((i : Int) + 1) = ((i + 1 : Nat) : Int) := by rw [i64_in _ (by omega)]; omega
  by_cases hlt : i < es.length
  · have hgm := getD_mem hlt
    have hkx := hk _ hgm
    have hsx := hsh _ hgm
    obtain ⟨x, hg⟩ : ∃ x, es.getD i default = x := ⟨_, rfl⟩
    rw [hg] at hkx hsx
    have hsx2 := hsx
    obtain ⟨n, s, c, p, rfl, hs⟩ := hsx
    cases i with
    | zero =>
      have c0 : decide ((0 : Int) < (es.length : Int)) = true := by simp; omega
      have w1 : IntKind.i64.wrap (0 - 1) = -1 := by decide
      simp only [c0, bne_self_eq_false, decide_false, w1, neg1', hg, hi1, k_eaXo, k_eaXc, changesS, changeS, on_pp_eq, ev_callT, ev_callTG, callTK, callTGK, callP_mv, List.take_succ_cons, List.take_nil, Tryz.underlying3, sz3, by3, ze3, Tryz.underlying4, sz4, by4, ze4, Tryz.underlying9, sz9, by9, ze9, Tryz.underlying46, sz46, by46, ze46, Tryz.underlying92, sz92, by92, ze92, fa92_0, fa92_1, fa92_2, fa92_3, Tryz.underlying93, sz93, by93, ze93, Tryz.underlying147, sz147, by147, ze147, Tryz.underlying148, sz148, by148, ze148, plan0, go_sem, ↓reduceIte, reduceCtorEq, Nat.reduceEqDiff, Nat.reduceLT, ↓all_qV, Int.reduceToNat, Int.reduceLT, Int.reduceLE, Nat.reduceAdd, Nat.reduceLeDiff, Nat.reduceMul, ev_callG, gcallK_b, gcallK_w, callGc_true, callGc_false, List.forall_mem_cons, List.not_mem_nil, PV.one, AV.one]
      and_intros
      all_goals try first | exact hkx | exact ⟨hsx2, hsx2⟩ | exact fun _ => ⟨hsx2, hsx2⟩ | omega | trivial | (show checkD _ _ _ = true; kernel_rfl)
      all_goals exact ⟨0 + 1, by omega, by omega, ⟨by simp [fitR, look, show IntKind.i64.wrap (0 + 1) = 1 by decide, show IntKind.i64.wrap 1 = 1 by decide], trivial, rfl, rfl, rfl⟩⟩
    | succ j =>
      have c0 : decide (((j + 1 : Nat) : Int) < (es.length : Int)) = true := by simp; omega
      have c1 : decide ((0 : Int) < ((j + 1 : Nat) : Int)) = true := by simp
      have w1 : IntKind.i64.wrap (((j + 1 : Nat) : Int) - 1) = (j : Int) := by rw [i64_in _ (by omega)]; omega
      have hgj := getD_mem (show j < es.length by omega)
      have hsy := hsh _ hgj
      have ho := hord j (by omega)
      obtain ⟨z, hz⟩ : ∃ z, es.getD j default = z := ⟨_, rfl⟩
      rw [hz] at hsy ho
      rw [hg] at ho
      have hsy2 := hsy
      obtain ⟨n', s', c', p', rfl, hs'⟩ := hsy
      have co : decide ((0 : Int) ≤ chaO (.agg [.int .i64 n', .str s', .int .i64 c', .int .i64 p']) (.agg [.int .i64 n, .str s, .int .i64 c, .int .i64 p])) = false := by simp; omega
      simp only [c0, c1, bne_self_eq_false, w1, hg, hz, co, hi1, k_eaXo, k_eaXc, changesS, changeS, on_pp_eq, ev_callT, ev_callTG, callTK, callTGK, callP_mv, List.take_succ_cons, List.take_nil, Tryz.underlying3, sz3, by3, ze3, Tryz.underlying4, sz4, by4, ze4, Tryz.underlying9, sz9, by9, ze9, Tryz.underlying46, sz46, by46, ze46, Tryz.underlying92, sz92, by92, ze92, fa92_0, fa92_1, fa92_2, fa92_3, Tryz.underlying93, sz93, by93, ze93, Tryz.underlying147, sz147, by147, ze147, Tryz.underlying148, sz148, by148, ze148, plan0, go_sem, ↓reduceIte, reduceCtorEq, Nat.reduceEqDiff, Nat.reduceLT, ↓all_qV, Int.reduceToNat, Int.reduceLT, Int.reduceLE, Nat.reduceAdd, Nat.reduceLeDiff, Nat.reduceMul, ev_callG, gcallK_b, gcallK_w, callGc_true, callGc_false, List.forall_mem_cons, List.not_mem_nil, PV.one, AV.one]
      and_intros
      all_goals try first | exact hkx | exact ⟨hsy2, hsx2⟩ | exact fun _ => ⟨hsy2, hsx2⟩ | omega | trivial | (show checkD _ _ _ = true; kernel_rfl)
      all_goals exact ⟨j + 1 + 1, by omega, by omega, ⟨by simp [fitR, look], trivial, rfl, rfl, rfl⟩⟩
  · have c0 : decide ((i : Int) < (es.length : Int)) = false := by simp; omega
    simp only [c0, Tryz.underlying3, sz3, by3, ze3, Tryz.underlying4, sz4, by4, ze4, Tryz.underlying9, sz9, by9, ze9, Tryz.underlying46, sz46, by46, ze46, Tryz.underlying92, sz92, by92, ze92, fa92_0, fa92_1, fa92_2, fa92_3, Tryz.underlying93, sz93, by93, ze93, Tryz.underlying147, sz147, by147, ze147, Tryz.underlying148, sz148, by148, ze148, plan0, go_sem, ↓reduceIte, reduceCtorEq, Nat.reduceEqDiff, Nat.reduceLT, ↓all_qV, Int.reduceToNat, Int.reduceLT, Int.reduceLE, Nat.reduceAdd, Nat.reduceLeDiff, Nat.reduceMul]
noncomputable def B9 (g : FuncId) : PSpec := (putΦ (putΦ (putΦ (putΦ (putΦ (putΦ (putΦ B7 94 cfaS) 68 eaLS) 71 eaBS) 74 eaES) 78 eaCS) 80 eaRS) 103 eaXS) g
theorem hB9 : TabSound GG B9 := (((((((hB7.put w_cfaS).put w_eaLS).put w_eaBS).put w_eaES).put w_eaCS).put w_eaRS).put w_eaXS)
end Go.AM
