/-
  A part of a proof: see the last text of this claim for what is proved.
-/
import Derived.Test.YthfmoamiaofamaaGreatDoorP6
import Derived.Test.YthfmoamiaofamaaGreatDoorZMa
namespace Go.AM
open Go Go.Proofs Go.IntWalk
set_option maxRecDepth 100000
set_option linter.unusedSimpArgs false
set_option linter.unusedVariables false
def amg (a b c : Int) : Bool := decide (b ≤ a) && decide (a ≤ c)
noncomputable def amongS : PSpec := on_iii (fun _ _ _ => True) (fun a b c => .bool (amg a b c))
def vldM (n : Int) : Bool := decide (0 ≤ n) && decide (n ≤ 1000000000000)
noncomputable def validMS : PSpec := on_i (fun _ => True) (fun n => .bool (vldM n))
def totB (n : Int) : Bool := decide (-1000000000000000 ≤ n) && decide (n ≤ 1000000000000000)
noncomputable def totalS : PSpec := on_i (fun _ => True) (fun n => .bool (totB n))
noncomputable def among2S : PSpec := amongS
theorem w_amongS : PSound GG 35 amongS := by
  refine PSound.of_wpc (C := cxP Tryz.prog Φ0 [] 15) (T := plan0) Tryz.func35 rfl rfl rfl (Fit.pure (G := GG) hΦ0 mixed) (fun args h => ?_)
  unfold amongS at h
  obtain ⟨a, b, c, rfl, hp⟩ := on_iii_inv h
  refine ⟨by simp [cxP], ?_⟩
  simp only [amongS, on_iii_eq, Tryz.f35, argL, plan0]
  simp only [go_sem, ↓reduceIte, reduceCtorEq, Nat.reduceEqDiff, Nat.reduceLT, ↓all_qV, Int.reduceToNat, Int.reduceLT, Int.reduceLE, Nat.reduceAdd, Nat.reduceLeDiff, Nat.reduceMul]
  rfl
theorem w_among2S : PSound GG 77 among2S := by
  refine PSound.of_wpc (C := cxP Tryz.prog Φ0 [] 15) (T := plan0) Tryz.func77 rfl rfl rfl (Fit.pure (G := GG) hΦ0 mixed) (fun args h => ?_)
  unfold among2S amongS at h
  obtain ⟨a, b, c, rfl, hp⟩ := on_iii_inv h
  refine ⟨by simp [cxP], ?_⟩
  simp only [among2S, amongS, on_iii_eq, Tryz.f77, argL, plan0]
  simp only [go_sem, ↓reduceIte, reduceCtorEq, Nat.reduceEqDiff, Nat.reduceLT, ↓all_qV, Int.reduceToNat, Int.reduceLT, Int.reduceLE, Nat.reduceAdd, Nat.reduceLeDiff, Nat.reduceMul]
  rfl
theorem w_validMS : PSound GG 63 validMS := by
  refine PSound.of_wpc (C := cxP Tryz.prog Φ0 [] 9) (T := plan0) Tryz.func63 rfl rfl rfl (Fit.pure (G := GG) hΦ0 mixed) (fun args h => ?_)
  unfold validMS at h
  obtain ⟨n, rfl, hp⟩ := on_i_inv h
  refine ⟨by simp [cxP], ?_⟩
  simp only [validMS, on_i_eq, Tryz.f63, argL, plan0]
  simp only [go_sem, ↓reduceIte, reduceCtorEq, Nat.reduceEqDiff, Nat.reduceLT, ↓all_qV, Int.reduceToNat, Int.reduceLT, Int.reduceLE, Nat.reduceAdd, Nat.reduceLeDiff, Nat.reduceMul]
  rfl
theorem w_totalS : PSound GG 38 totalS := by
  refine PSound.of_wpc (C := cxP Tryz.prog Φ0 [] 9) (T := plan0) Tryz.func38 rfl rfl rfl (Fit.pure (G := GG) hΦ0 mixed) (fun args h => ?_)
  unfold totalS at h
  obtain ⟨n, rfl, hp⟩ := on_i_inv h
  refine ⟨by simp [cxP], ?_⟩
  simp only [totalS, on_i_eq, Tryz.f38, argL, plan0]
  simp only [go_sem, ↓reduceIte, reduceCtorEq, Nat.reduceEqDiff, Nat.reduceLT, ↓all_qV, Int.reduceToNat, Int.reduceLT, Int.reduceLE, Nat.reduceAdd, Nat.reduceLeDiff, Nat.reduceMul]
  rfl
noncomputable def Φ1 (g : FuncId) : PSpec := putΦ (putΦ (putΦ (putΦ (putΦ Φ0 35 amongS) 77 among2S) 63 validMS) 38 totalS) 79 partsCS g
theorem hΦ1 : TabSound GG Φ1 := ((((hΦ0.put w_amongS).put w_among2S).put w_validMS).put w_totalS).put w_partsCS
def posB (n : Int) : Bool := decide (0 < n) && vldM n
noncomputable def posS : PSpec := on_i (fun _ => True) (fun n => .bool (posB n))
theorem w_posS : PSound GG 78 posS := by
  refine PSound.of_wpc (C := cxP Tryz.prog Φ1 [] 9) (T := plan0) Tryz.func78 rfl rfl rfl (Fit.pure (G := GG) hΦ1 mixed) (fun args h => ?_)
  unfold posS at h
  obtain ⟨n, rfl, hp⟩ := on_i_inv h
  refine ⟨by simp [cxP], ?_⟩
  simp only [posS, on_i_eq, Tryz.f78, argL, plan0]
  simp only [Φ1, validMS, on_i_eq, go_sem, ↓reduceIte, reduceCtorEq, Nat.reduceEqDiff, Nat.reduceLT, ↓all_qV, Int.reduceToNat, Int.reduceLT, Int.reduceLE, Nat.reduceAdd, Nat.reduceLeDiff, Nat.reduceMul]
  rfl
noncomputable def Φ2 (g : FuncId) : PSpec := putΦ Φ1 78 posS g
theorem hΦ2 : TabSound GG Φ2 := hΦ1.put w_posS
/-! ### Claims -/
def claimV (id pa am op d : Int) (c : List UInt8) : PV := .agg [.int .i64 id, .int .i64 pa, .int .i64 am, .int .i64 op, .int .i64 d, .str c]
def isCl (e : PV) : Prop := ∃ id pa am op d c, e = claimV id pa am op d c ∧ c.length ≤ 1000000000000
def clB : PV → Bool
  | .agg [.int _ id, .int _ pa, .int _ am, .int _ op, .int _ d, .str c] => amg id 1 1000000 && amg pa 1 1000000 && posB am && amg op 0 am && amg d 0 36000 && decide ((0 : Int) < (partsR c).length)
  | _ => false
noncomputable def claimS : PSpec := on_p isCl (fun e => .bool (clB e))
theorem clB_eq {id pa am op d : Int} {c : List UInt8} : clB (.agg [.int .i64 id, .int .i64 pa, .int .i64 am, .int .i64 op, .int .i64 d, .str c]) = (amg id 1 1000000 && amg pa 1 1000000 && posB am && amg op 0 am && amg d 0 36000 && decide ((0 : Int) < (partsR c).length)) := rfl
theorem w_claimS : PSound GG 60 claimS := by
  refine PSound.of_wpc (C := cxP Tryz.prog Φ2 [] 35) (T := plan0) Tryz.func60 rfl rfl rfl (Fit.pure (G := GG) hΦ2 mixed) (fun args h => ?_)
  unfold claimS at h
  obtain ⟨e, rfl, hp⟩ := on_p_inv h
  refine ⟨by simp [cxP], ?_⟩
  simp only [claimS, on_p_eq, Tryz.f60, argL, plan0]
  obtain ⟨id, pa, am, op, d, c, rfl, hc⟩ := hp
  simp only [claimV, clB_eq, Φ2, Φ1, among2S, amongS, posS, partsCS, on_iii_eq, on_i_eq, on_s_eq, List.length_map, Tryz.underlying1, sz1, by1, ze1, Tryz.underlying2, sz2, by2, ze2, Tryz.underlying3, sz3, by3, ze3, Tryz.underlying4, sz4, by4, ze4, Tryz.underlying5, sz5, by5, ze5, Tryz.underlying9, sz9, by9, ze9, Tryz.underlying22, sz22, by22, ze22, Tryz.underlying40, sz40, by40, ze40, fa40_0, fa40_1, fa40_2, fa40_3, fa40_4, fa40_5, go_sem, ↓reduceIte, reduceCtorEq, Nat.reduceEqDiff, Nat.reduceLT, ↓all_qV, Int.reduceToNat, Int.reduceLT, Int.reduceLE, Nat.reduceAdd, Nat.reduceLeDiff, Nat.reduceMul]
  exact fun _ => hc
noncomputable def Φ3 (g : FuncId) : PSpec := putΦ Φ2 60 claimS g
theorem hΦ3 : TabSound GG Φ3 := hΦ2.put w_claimS
noncomputable def notClS : PSpec := on_p isCl (fun e => .bool (!clB e))
theorem w_notClS : PSound GG 59 notClS := by
  refine PSound.of_wpc (C := cxP Tryz.prog Φ3 [] 6) (T := plan0) Tryz.func59 rfl rfl rfl (Fit.pure (G := GG) hΦ3 mixed) (fun args h => ?_)
  unfold notClS at h
  obtain ⟨e, rfl, hp⟩ := on_p_inv h
  refine ⟨by simp [cxP], ?_⟩
  simp only [notClS, on_p_eq, Tryz.f59, argL, plan0]
  obtain ⟨id, pa, am, op, d, c, rfl, hc⟩ := hp
  have hC : isCl (claimV id pa am op d c) := ⟨id, pa, am, op, d, c, rfl, hc⟩
  unfold claimV at hC
  simp only [claimV, List.take_succ_cons, List.take_nil, Φ3, claimS, on_p_eq, Tryz.underlying3, sz3, by3, ze3, Tryz.underlying4, sz4, by4, ze4, Tryz.underlying9, sz9, by9, ze9, Tryz.underlying40, sz40, by40, ze40, fa40_0, fa40_1, fa40_2, fa40_3, fa40_4, fa40_5, go_sem, ↓reduceIte, reduceCtorEq, Nat.reduceEqDiff, Nat.reduceLT, ↓all_qV, Int.reduceToNat, Int.reduceLT, Int.reduceLE, Nat.reduceAdd, Nat.reduceLeDiff, Nat.reduceMul]
  refine ⟨fun c1 hc1 => ?_, hC⟩
  simp only [List.mem_cons, List.not_mem_nil, or_false] at hc1
  rcases hc1 with rfl | rfl | rfl | rfl | rfl | rfl <;> exact ⟨rfl, by simp [frzOk]⟩
noncomputable def Φ4 (g : FuncId) : PSpec := putΦ Φ3 59 notClS g
theorem hΦ4 : TabSound GG Φ4 := hΦ3.put w_notClS
/-- Where the first bad claim is. -/
def idxF : List PV → Int → Int
  | [], _ => -1
  | e :: r, i => bif !clB e then i else idxF r (i + 1)
noncomputable def indexS : PSpec := on_lp (fun es f => f = .fn 59 [] ∧ (∀ e, e ∈ es → isCl e) ∧ es.length ≤ 4611686018427387904) (fun es _ => .int .i64 (idxF es 0))
theorem w_indexS : PSound GG 76 indexS := by
  refine PSound.of_wpc (C := cxP Tryz.prog Φ4 [] 19) (T := plan0) Tryz.func76 rfl rfl rfl (Fit.pure (G := GG) hΦ4 mixed) (fun args h => ?_)
  unfold indexS at h
  obtain ⟨es, f, rfl, hp⟩ := on_lp_inv h
  refine ⟨by simp [cxP], ?_⟩
  simp only [indexS, on_lp_eq, Tryz.f76, argL, plan0]
  obtain ⟨rfl, he, hl⟩ := hp
  simp only [Tryz.underlying3, sz3, by3, ze3, Tryz.underlying4, sz4, by4, ze4, Tryz.underlying9, sz9, by9, ze9, Tryz.underlying26, sz26, by26, ze26, Tryz.underlying40, sz40, by40, ze40, fa40_0, fa40_1, fa40_2, fa40_3, fa40_4, fa40_5, Tryz.underlying71, sz71, by71, ze71, go_sem, ↓reduceIte, reduceCtorEq, Nat.reduceEqDiff, Nat.reduceLT, ↓all_qV, Int.reduceToNat, Int.reduceLT, Int.reduceLE, Nat.reduceAdd, Nat.reduceLeDiff, Nat.reduceMul]
  refine AWp.loop (T := plan0) (α := Nat) (fun i => ([(0, .pv (.sl es)), (1, .pv (.fn 59 [])), (7, .pv (.int .i64 es.length)), (8, .pv (.int .i64 i))], [])) (fun i => i ≤ es.length ∧ idxF (es.drop i) i = idxF es 0) (fun i => es.length - i)
    ⟨0, ⟨Nat.zero_le _, rfl⟩, ⟨by simp [fitR, look], trivial, rfl, rfl, rfl⟩⟩ ?_
  rintro i ⟨h1, h2⟩
  have hi1 : IntKind.i64.wrap ((i : Int) + 1) = ((i + 1 : Nat) : Int) := by rw [i64_in _ (by omega)]; omega
  by_cases hlt : i < es.length
  · have c0 : decide ((i : Int) < (es.length : Int)) = true := by simp; omega
    have hm : es.getD i default ∈ es := by rw [List.getD_eq_getElem?_getD, List.getElem?_eq_getElem hlt]; exact List.getElem_mem _
    have hd : es.drop i = es.getD i default :: es.drop (i + 1) := by rw [List.drop_eq_getElem_cons hlt]; simp [List.getD_eq_getElem?_getD, hlt]
    have hcl := he _ hm
    rw [hd, idxF] at h2
    obtain ⟨e, hg⟩ : ∃ e, es.getD i default = e := ⟨_, rfl⟩
    rw [hg] at hcl h2
    have hC := hcl
    obtain ⟨id, pa, am, op, d, c, rfl, hc⟩ := hcl
    unfold claimV at hg h2 hC
    simp only [c0, hg, hi1, Φ4, notClS, on_p_eq, ev_callT, callTK, List.take_succ_cons, List.take_nil, Tryz.underlying3, sz3, by3, ze3, Tryz.underlying4, sz4, by4, ze4, Tryz.underlying9, sz9, by9, ze9, Tryz.underlying26, sz26, by26, ze26, Tryz.underlying40, sz40, by40, ze40, fa40_0, fa40_1, fa40_2, fa40_3, fa40_4, fa40_5, Tryz.underlying71, sz71, by71, ze71, plan0, go_sem, ↓reduceIte, reduceCtorEq, Nat.reduceEqDiff, Nat.reduceLT, ↓all_qV, Int.reduceToNat, Int.reduceLT, Int.reduceLE, Nat.reduceAdd, Nat.reduceLeDiff, Nat.reduceMul]
    refine ⟨by omega, hC, fun h9 => ?_, fun h9 => ⟨i + 1, ⟨by omega, ?_⟩, by omega, ⟨by simp [fitR, look], trivial, rfl, rfl, rfl⟩⟩⟩
    · rw [h9, cond_true] at h2
      rw [h2]
    · rw [h9, cond_false] at h2
      rw [← h2]; simp
  · have c0 : decide ((i : Int) < (es.length : Int)) = false := by simp; omega
    rw [List.drop_eq_nil_of_le (by omega), idxF] at h2
    simp only [c0, Tryz.underlying3, sz3, by3, ze3, Tryz.underlying4, sz4, by4, ze4, Tryz.underlying9, sz9, by9, ze9, Tryz.underlying26, sz26, by26, ze26, Tryz.underlying40, sz40, by40, ze40, fa40_0, fa40_1, fa40_2, fa40_3, fa40_4, fa40_5, Tryz.underlying71, sz71, by71, ze71, plan0, go_sem, ↓reduceIte, reduceCtorEq, Nat.reduceEqDiff, Nat.reduceLT, ↓all_qV, Int.reduceToNat, Int.reduceLT, Int.reduceLE, Nat.reduceAdd, Nat.reduceLeDiff, Nat.reduceMul]
    rw [← h2]
noncomputable def Φ5 (g : FuncId) : PSpec := putΦ Φ4 76 indexS g
theorem hΦ5 : TabSound GG Φ5 := hΦ4.put w_indexS
noncomputable def containsS : PSpec := on_lp (fun es f => f = .fn 59 [] ∧ (∀ e, e ∈ es → isCl e) ∧ es.length ≤ 4611686018427387904) (fun es _ => .bool (decide (0 ≤ idxF es 0)))
theorem w_containsS : PSound GG 58 containsS := by
  refine PSound.of_wpc (C := cxP Tryz.prog Φ5 [] 9) (T := plan0) Tryz.func58 rfl rfl rfl (Fit.pure (G := GG) hΦ5 mixed) (fun args h => ?_)
  unfold containsS at h
  obtain ⟨es, f, rfl, hp⟩ := on_lp_inv h
  refine ⟨by simp [cxP], ?_⟩
  simp only [containsS, on_lp_eq, Tryz.f58, argL, plan0]
  obtain ⟨rfl, he, hl⟩ := hp
  simp only [Φ5, indexS, on_lp_eq, Tryz.underlying3, sz3, by3, ze3, Tryz.underlying4, sz4, by4, ze4, Tryz.underlying9, sz9, by9, ze9, Tryz.underlying26, sz26, by26, ze26, Tryz.underlying40, sz40, by40, ze40, fa40_0, fa40_1, fa40_2, fa40_3, fa40_4, fa40_5, Tryz.underlying71, sz71, by71, ze71, go_sem, ↓reduceIte, reduceCtorEq, Nat.reduceEqDiff, Nat.reduceLT, ↓all_qV, Int.reduceToNat, Int.reduceLT, Int.reduceLE, Nat.reduceAdd, Nat.reduceLeDiff, Nat.reduceMul]
  exact ⟨he, hl⟩
noncomputable def Φ6 (g : FuncId) : PSpec := putΦ Φ5 58 containsS g
theorem hΦ6 : TabSound GG Φ6 := hΦ5.put w_containsS
def clsF (es : List PV) : Int := bif decide (60 < (es.length : Int)) then 3 else bif decide (0 ≤ idxF es 0) then 87 else 0
noncomputable def claimsS : PSpec := on_l (fun es => (∀ e, e ∈ es → isCl e) ∧ es.length ≤ 4611686018427387904) (fun es => .int .i64 (clsF es))
theorem w_claimsS : PSound GG 31 claimsS := by
  refine PSound.of_wpc (C := cxP Tryz.prog Φ6 [] 10) (T := plan0) Tryz.func31 rfl rfl rfl (Fit.pure (G := GG) hΦ6 mixed) (fun args h => ?_)
  unfold claimsS at h
  obtain ⟨es, rfl, hp⟩ := on_l_inv h
  refine ⟨by simp [cxP], ?_⟩
  simp only [claimsS, on_l_eq, Tryz.f31, argL, plan0]
  obtain ⟨he, hl⟩ := hp
  simp only [Φ6, containsS, on_lp_eq, Tryz.underlying3, sz3, by3, ze3, Tryz.underlying4, sz4, by4, ze4, Tryz.underlying9, sz9, by9, ze9, Tryz.underlying26, sz26, by26, ze26, Tryz.underlying40, sz40, by40, ze40, fa40_0, fa40_1, fa40_2, fa40_3, fa40_4, fa40_5, Tryz.underlying41, sz41, by41, ze41, Tryz.underlying71, sz71, by71, ze71, go_sem, ↓reduceIte, reduceCtorEq, Nat.reduceEqDiff, Nat.reduceLT, ↓all_qV, Int.reduceToNat, Int.reduceLT, Int.reduceLE, Nat.reduceAdd, Nat.reduceLeDiff, Nat.reduceMul]
  refine ⟨fun h1 => ?_, fun h1 => ⟨⟨he, hl⟩, fun h2 => ?_, fun h2 => ?_⟩⟩ <;> unfold clsF
  · rw [h1]; rfl
  · rw [h1, h2]; rfl
  · rw [h1, h2]; rfl
noncomputable def Φ7 (g : FuncId) : PSpec := putΦ Φ6 31 claimsS g
theorem hΦ7 : TabSound GG Φ7 := hΦ6.put w_claimsS
def pctF (d : Int) : Int := if d ≤ 90 then 0 else if d ≤ 180 then 25 else if d ≤ 360 then 50 else 100
noncomputable def percentS : PSpec := on_i (fun _ => True) (fun d => .int .i64 (pctF d))
theorem w_percentS : PSound GG 37 percentS := by
  refine PSound.of_wpc (C := cxP Tryz.prog Φ0 [] 19) (T := plan0) Tryz.func37 rfl rfl rfl (Fit.pure (G := GG) hΦ0 mixed) (fun args h => ?_)
  unfold percentS at h
  obtain ⟨d, rfl, hp⟩ := on_i_inv h
  refine ⟨by simp [cxP], ?_⟩
  simp only [percentS, on_i_eq, Tryz.f37, argL, plan0]
  simp only [Tryz.underlying3, sz3, by3, ze3, Tryz.underlying4, sz4, by4, ze4, Tryz.underlying48, sz48, by48, ze48, Tryz.underlying50, sz50, by50, ze50, go_sem, ↓reduceIte, reduceCtorEq, Nat.reduceEqDiff, Nat.reduceLT, ↓all_qV, Int.reduceToNat, Int.reduceLT, Int.reduceLE, Nat.reduceAdd, Nat.reduceLeDiff, Nat.reduceMul]
  refine AWp.loop (T := plan0) (α := Int) (fun i => ([(0, .pv (.int .i64 d)), (8, .pv (.agg [.int .i64 90, .int .i64 0, .int .i64 180, .int .i64 25, .int .i64 360, .int .i64 50])), (9, .pv (.int .i64 i))], [])) (fun i => 0 ≤ i ∧ i ≤ 3 ∧ (0 < i → 90 < d) ∧ (1 < i → 180 < d) ∧ (2 < i → 360 < d)) (fun i => (3 - i).toNat)
    ⟨0, ⟨by omega, by omega, by omega, by omega, by omega⟩, ⟨by simp [fitR, look], trivial, rfl, rfl, rfl⟩⟩ ?_
  rintro i ⟨h0, h1, h2, h3, h4⟩
  have hi : i = 0 ∨ i = 1 ∨ i = 2 ∨ i = 3 := by omega
  have w0 : IntKind.i64.wrap 1 = 1 := by decide
  have w1 : IntKind.i64.wrap 2 = 2 := by decide
  have w2 : IntKind.i64.wrap 3 = 3 := by decide
  rcases hi with rfl | rfl | rfl | rfl
  · simp only [w0, decide_true, indexA, Int.reduceAdd, Int.reduceMul, Nat.reduceMul, List.take_succ_cons, List.take_nil, List.drop_succ_cons, Tryz.underlying3, sz3, by3, ze3, Tryz.underlying4, sz4, by4, ze4, Tryz.underlying48, sz48, by48, ze48, Tryz.underlying50, sz50, by50, ze50, plan0, go_sem, ↓reduceIte, reduceCtorEq, Nat.reduceEqDiff, Nat.reduceLT, ↓all_qV, Int.reduceToNat, Int.reduceLT, Int.reduceLE, Nat.reduceAdd, Nat.reduceLeDiff, Nat.reduceMul]
    refine ⟨fun h9 => ?_, fun h9 => ⟨1, ⟨by omega, by omega, fun _ => ?_, fun _ => ?_, fun _ => ?_⟩, by decide, ⟨by simp [fitR, look], trivial, rfl, rfl, rfl⟩⟩⟩
    · have h9 := of_decide_eq_true h9
      simp only [pctF]
      have a1 := h2; have a2 := h3
      simp at a1 a2
      repeat (first | rw [if_pos (by omega)] | rw [if_neg (by omega)])
    all_goals (have h9 := of_decide_eq_false h9; omega)
  · simp only [w1, decide_true, indexA, Int.reduceAdd, Int.reduceMul, Nat.reduceMul, List.take_succ_cons, List.take_nil, List.drop_succ_cons, Tryz.underlying3, sz3, by3, ze3, Tryz.underlying4, sz4, by4, ze4, Tryz.underlying48, sz48, by48, ze48, Tryz.underlying50, sz50, by50, ze50, plan0, go_sem, ↓reduceIte, reduceCtorEq, Nat.reduceEqDiff, Nat.reduceLT, ↓all_qV, Int.reduceToNat, Int.reduceLT, Int.reduceLE, Nat.reduceAdd, Nat.reduceLeDiff, Nat.reduceMul]
    refine ⟨fun h9 => ?_, fun h9 => ⟨2, ⟨by omega, by omega, fun _ => ?_, fun _ => ?_, fun _ => ?_⟩, by decide, ⟨by simp [fitR, look], trivial, rfl, rfl, rfl⟩⟩⟩
    · have h9 := of_decide_eq_true h9
      simp only [pctF]
      have a1 := h2; have a2 := h3
      simp at a1 a2
      repeat (first | rw [if_pos (by omega)] | rw [if_neg (by omega)])
    all_goals (have h9 := of_decide_eq_false h9; omega)
  · simp only [w2, decide_true, indexA, Int.reduceAdd, Int.reduceMul, Nat.reduceMul, List.take_succ_cons, List.take_nil, List.drop_succ_cons, Tryz.underlying3, sz3, by3, ze3, Tryz.underlying4, sz4, by4, ze4, Tryz.underlying48, sz48, by48, ze48, Tryz.underlying50, sz50, by50, ze50, plan0, go_sem, ↓reduceIte, reduceCtorEq, Nat.reduceEqDiff, Nat.reduceLT, ↓all_qV, Int.reduceToNat, Int.reduceLT, Int.reduceLE, Nat.reduceAdd, Nat.reduceLeDiff, Nat.reduceMul]
    refine ⟨fun h9 => ?_, fun h9 => ⟨3, ⟨by omega, by omega, fun _ => ?_, fun _ => ?_, fun _ => ?_⟩, by decide, ⟨by simp [fitR, look], trivial, rfl, rfl, rfl⟩⟩⟩
    · have h9 := of_decide_eq_true h9
      simp only [pctF]
      have a1 := h2; have a2 := h3
      simp at a1 a2
      repeat (first | rw [if_pos (by omega)] | rw [if_neg (by omega)])
    all_goals (have h9 := of_decide_eq_false h9; omega)
  · simp only [decide_false, indexA, Tryz.underlying3, sz3, by3, ze3, Tryz.underlying4, sz4, by4, ze4, Tryz.underlying48, sz48, by48, ze48, Tryz.underlying50, sz50, by50, ze50, plan0, go_sem, ↓reduceIte, reduceCtorEq, Nat.reduceEqDiff, Nat.reduceLT, ↓all_qV, Int.reduceToNat, Int.reduceLT, Int.reduceLE, Nat.reduceAdd, Nat.reduceLeDiff, Nat.reduceMul]
    simp only [pctF]
    have a2 := h4 (by omega)
    rw [if_neg (by omega), if_neg (by omega), if_neg (by omega)]
def prcF (a p : Int) : Int × Int := bif !vldM a || decide (p < 0) || decide (100 < p) then (0, 2) else (a * p / 100, 0)
noncomputable def prcS : PSpec := on_ii (fun _ _ => True) (fun a p => .tup [.int .i64 (prcF a p).1, .int .i64 (prcF a p).2])
theorem w_prcS : PSound GG 36 prcS := by
  refine PSound.of_wpc (C := cxP Tryz.prog Φ1 [] 21) (T := plan0) Tryz.func36 rfl rfl rfl (Fit.pure (G := GG) hΦ1 mixed) (fun args h => ?_)
  unfold prcS at h
  obtain ⟨a, p, rfl, hp⟩ := on_ii_inv h
  refine ⟨by simp [cxP], ?_⟩
  simp only [prcS, on_ii_eq, Tryz.f36, argL, plan0]
  simp only [Φ1, validMS, on_i_eq, go_sem, ↓reduceIte, reduceCtorEq, Nat.reduceEqDiff, Nat.reduceLT, ↓all_qV, Int.reduceToNat, Int.reduceLT, Int.reduceLE, Nat.reduceAdd, Nat.reduceLeDiff, Nat.reduceMul]
  refine ⟨by simp, fun h1 => ?_, fun h1 => ⟨by decide, ?_⟩⟩ <;> unfold prcF
  · rw [h1]; rfl
  · have h2 : (0 ≤ a ∧ a ≤ 1000000000000) ∧ 0 ≤ p ∧ p ≤ 100 := by
      simp only [vldM, Bool.or_eq_false_iff, Bool.not_eq_false', Bool.and_eq_true, decide_eq_true_eq, decide_eq_false_iff_not] at h1
      exact ⟨h1.1.1, by omega, by omega⟩
    have h3 : 0 ≤ a * p := Int.mul_nonneg h2.1.1 h2.2.1
    have h4 : a * p ≤ 1000000000000 * 100 := Int.mul_le_mul h2.1.2 h2.2.2 h2.2.1 (by omega)
    rw [h1, cond_false, i64_in (a * p) (by omega), Int.tdiv_eq_ediv_of_nonneg h3, i64_in _ (by omega)]
end Go.AM
namespace Go.AM
open Go Go.Proofs Go.IntWalk
set_option maxRecDepth 100000
set_option maxHeartbeats 1000000
set_option linter.unusedSimpArgs false
set_option linter.unusedVariables false
noncomputable def Φ8 (g : FuncId) : PSpec := putΦ (putΦ Φ7 37 percentS) 36 prcS g
theorem hΦ8 : TabSound GG Φ8 := (hΦ7.put w_percentS).put w_prcS
theorem Φ8_claims {args : List PV} : Φ8 31 args = claimsS args := rfl
theorem Φ8_among {args : List PV} : Φ8 35 args = amongS args := rfl
theorem Φ8_percent {args : List PV} : Φ8 37 args = percentS args := rfl
theorem Φ8_prc {args : List PV} : Φ8 36 args = prcS args := rfl
theorem Φ8_total {args : List PV} : Φ8 38 args = totalS args := rfl
/-- What a claim is set aside for on a day. -/
def setF (day : Int) : PV → Int
  | .agg [_, _, _, .int _ op, .int _ d, _] => (prcF op (pctF (day - d))).1
  | _ => 0
def sumI : List Int → Int
  | [] => 0
  | x :: r => x + sumI r
theorem sumI_append (a b : List Int) : sumI (a ++ b) = sumI a + sumI b := by
  induction a with
  | nil => simp [sumI]
  | cons x r ih => simp only [List.cons_append, sumI, ih]; omega
def provF (es : List PV) (day : Int) : Int × Int :=
  bif clsF es != 0 then (0, clsF es) else bif !amg day 0 36000 then (0, 2) else (sumI (es.map (setF day)), 0)
theorem pct_le (d : Int) : 0 ≤ pctF d ∧ pctF d ≤ 100 := by unfold pctF; repeat (first | (split; omega) | omega)
theorem pct_mono {a b : Int} (h : a ≤ b) : pctF a ≤ pctF b := by unfold pctF; repeat (first | omega | split)
theorem idx_ok : ∀ {es : List PV} {i : Int}, 0 ≤ i → idxF es i < 0 → ∀ e, e ∈ es → clB e = true
  | [], _, _, _, e, he => by cases he
  | x :: r, i, hi, h, e, he => by
    unfold idxF at h
    cases hx : clB x with
    | false => rw [hx] at h; simp at h; omega
    | true =>
      rw [hx] at h
      simp only [Bool.not_true, cond_false] at h
      rcases List.mem_cons.1 he with rfl | he
      · exact hx
      · exact idx_ok (by omega) h e he
theorem cls_ok {es : List PV} (h : clsF es = 0) : es.length ≤ 60 ∧ ∀ e, e ∈ es → clB e = true := by
  unfold clsF at h
  cases h1 : decide (60 < (es.length : Int)) with
  | true => rw [h1] at h; cases h
  | false =>
    rw [h1, cond_false] at h
    cases h2 : decide (0 ≤ idxF es 0) with
    | true => rw [h2] at h; cases h
    | false =>
      have h3 := of_decide_eq_false h1
      have h4 := of_decide_eq_false h2
      exact ⟨by omega, idx_ok (Int.le_refl 0) (by omega)⟩
theorem set_le (day : Int) {id pa am op d : Int} {c : List UInt8} (h : clB (.agg [.int .i64 id, .int .i64 pa, .int .i64 am, .int .i64 op, .int .i64 d, .str c]) = true) :
    (0 ≤ op ∧ op ≤ 1000000000000) ∧ (0 ≤ d ∧ d ≤ 36000) ∧ (prcF op (pctF (day - d))).1 = op * pctF (day - d) / 100 ∧ 0 ≤ op * pctF (day - d) / 100 ∧ op * pctF (day - d) / 100 ≤ 1000000000000 := by
  rw [clB_eq] at h
  simp only [Bool.and_eq_true, amg, posB, vldM, decide_eq_true_eq] at h
  have hp := pct_le (day - d)
  have h1 : (0 ≤ op ∧ op ≤ 1000000000000) := by omega
  have h2 : (0 ≤ d ∧ d ≤ 36000) := by omega
  have h3 : 0 ≤ op * pctF (day - d) := Int.mul_nonneg h1.1 hp.1
  have h4 : op * pctF (day - d) ≤ 1000000000000 * 100 := Int.mul_le_mul h1.2 hp.2 hp.1 (by omega)
  refine ⟨h1, h2, ?_, Int.ediv_nonneg h3 (by omega), ?_⟩
  · unfold prcF
    have e1 : vldM op = true := by unfold vldM; simp; omega
    have e2 : decide (pctF (day - d) < 0) = false := by simp; omega
    have e3 : decide (100 < pctF (day - d)) = false := by simp; omega
    rw [e1, e2, e3]; rfl
  · omega
theorem sumI_le {es : List PV} {day : Int} (hc : ∀ e, e ∈ es → isCl e ∧ clB e = true) : 0 ≤ sumI (es.map (setF day)) ∧ sumI (es.map (setF day)) ≤ 1000000000000 * es.length := by
  induction es with
  | nil => simp [sumI]
  | cons e r ih =>
    have h1 := ih (fun x hx => hc x (List.mem_cons_of_mem _ hx))
    obtain ⟨⟨id, pa, am, op, d, c, rfl, _⟩, h2⟩ := hc e List.mem_cons_self
    obtain ⟨_, _, e1, e2, e3⟩ := set_le day h2
    have e4 : setF day (claimV id pa am op d c) = (prcF op (pctF (day - d))).1 := rfl
    simp only [List.map_cons, sumI, List.length_cons, e4, e1]
    rw [Int.natCast_add, Int.mul_add]; omega
noncomputable def provS : PSpec := on_li (fun es _ => (∀ e, e ∈ es → isCl e) ∧ es.length ≤ 4611686018427387904) (fun es day => .tup [.int .i64 (provF es day).1, .int .i64 (provF es day).2])
theorem w_provS : PSound GG 18 provS := by
  refine PSound.of_wpc (C := cxP Tryz.prog Φ8 [] 45) (T := plan0) Tryz.func18 rfl rfl rfl (Fit.pure (G := GG) hΦ8 mixed) (fun args h => ?_)
  unfold provS at h
  obtain ⟨es, day, rfl, hp⟩ := on_li_inv h
  refine ⟨by simp [cxP], ?_⟩
  simp only [provS, on_li_eq, Tryz.f18, argL, plan0]
  obtain ⟨he, hl⟩ := hp
  simp only [Φ8_claims, Φ8_among, claimsS, amongS, on_l_eq, on_iii_eq, Tryz.underlying1, sz1, by1, ze1, Tryz.underlying3, sz3, by3, ze3, Tryz.underlying4, sz4, by4, ze4, Tryz.underlying9, sz9, by9, ze9, Tryz.underlying26, sz26, by26, ze26, Tryz.underlying40, sz40, by40, ze40, fa40_0, fa40_1, fa40_2, fa40_3, fa40_4, fa40_5, Tryz.underlying41, sz41, by41, ze41, Tryz.underlying51, sz51, by51, ze51, go_sem, ↓reduceIte, reduceCtorEq, Nat.reduceEqDiff, Nat.reduceLT, ↓all_qV, Int.reduceToNat, Int.reduceLT, Int.reduceLE, Nat.reduceAdd, Nat.reduceLeDiff, Nat.reduceMul]
  refine ⟨⟨he, hl⟩, fun h1 => ?_, fun h1 => ⟨fun h2 => ?_, fun h2 => ?_⟩⟩
  · unfold provF; rw [h1]; rfl
  · unfold provF; rw [h1, h2]; rfl
  have hc0 : clsF es = 0 := by simpa using h1
  obtain ⟨hl6, hok⟩ := cls_ok hc0
  have hday : 0 ≤ day ∧ day ≤ 36000 := by simpa [amg] using h2
  have hres : provF es day = (sumI (es.map (setF day)), 0) := by unfold provF; rw [h1, h2]; rfl
  refine AWp.loop (T := plan0) (α := Nat) (fun i => ([(1, .pv (.int .i64 day)), (7, .pv (.int .i64 (sumI ((es.take i).map (setF day))))), (20, .pv (.sl es)), (21, .pv (.int .i64 es.length)), (22, .pv (.int .i64 i))], [])) (fun i => i ≤ es.length) (fun i => es.length - i)
    ⟨0, Nat.zero_le _, ⟨by simp [fitR, look, sumI], trivial, rfl, rfl, rfl⟩⟩ ?_
  intro i hi
  have hi1 : IntKind.i64.wrap ((i : Int) + 1) = ((i + 1 : Nat) : Int) := by rw [i64_in _ (by omega)]; omega
  have hsum := sumI_le (es := es.take i) (day := day) (fun e he' => ⟨he e (List.mem_of_mem_take he'), hok e (List.mem_of_mem_take he')⟩)
  have htl : (es.take i).length ≤ 60 := by rw [List.length_take]; omega
  by_cases hlt : i < es.length
  · have c0 : decide ((i : Int) < (es.length : Int)) = true := by simp; omega
    have hm : es.getD i default ∈ es := by rw [List.getD_eq_getElem?_getD, List.getElem?_eq_getElem hlt]; exact List.getElem_mem _
    have hnext : sumI ((es.take (i + 1)).map (setF day)) = sumI ((es.take i).map (setF day)) + setF day (es.getD i default) := by
      rw [List.take_add_one, List.map_append, sumI_append]
      simp [List.getElem?_eq_getElem hlt, List.getD_eq_getElem?_getD, sumI]
    have hcl := he _ hm
    have hcb := hok _ hm
    obtain ⟨e, hg⟩ : ∃ e, es.getD i default = e := ⟨_, rfl⟩
    rw [hg] at hcl hcb hnext
    obtain ⟨id, pa, am, op, d, c, rfl, hc⟩ := hcl
    unfold claimV at hg hcb hnext
    obtain ⟨k1, k2, k3, k4, k5⟩ := set_le day hcb
    have hst : setF day (.agg [.int .i64 id, .int .i64 pa, .int .i64 am, .int .i64 op, .int .i64 d, .str c]) = op * pctF (day - d) / 100 := k3
    rw [hst] at hnext
    have w1 : IntKind.i64.wrap (day - d) = day - d := i64_in _ (by omega)
    generalize sumI ((es.take i).map (setF day)) = acc at hsum hnext ⊢
    have w2 : IntKind.i64.wrap (acc + op * pctF (day - d) / 100) = acc + op * pctF (day - d) / 100 := i64_in _ (by omega)
    simp only [c0, hg, hi1, w1, k3, w2, List.take_succ_cons, List.take_nil, Φ8_percent, Φ8_prc, percentS, prcS, on_i_eq, on_ii_eq, Tryz.underlying1, sz1, by1, ze1, Tryz.underlying3, sz3, by3, ze3, Tryz.underlying4, sz4, by4, ze4, Tryz.underlying9, sz9, by9, ze9, Tryz.underlying26, sz26, by26, ze26, Tryz.underlying40, sz40, by40, ze40, fa40_0, fa40_1, fa40_2, fa40_3, fa40_4, fa40_5, Tryz.underlying41, sz41, by41, ze41, Tryz.underlying51, sz51, by51, ze51, plan0, go_sem, ↓reduceIte, reduceCtorEq, Nat.reduceEqDiff, Nat.reduceLT, ↓all_qV, Int.reduceToNat, Int.reduceLT, Int.reduceLE, Nat.reduceAdd, Nat.reduceLeDiff, Nat.reduceMul]
    refine ⟨by omega, by kernel_rfl, i + 1, by omega, by omega, ⟨?_, trivial, rfl, rfl, rfl⟩⟩
    rw [hnext]
    simp [fitR, look]
  · have c0 : decide ((i : Int) < (es.length : Int)) = false := by simp; omega
    have e1 : i = es.length := by omega
    subst e1
    rw [List.take_length] at hsum htl ⊢
    rw [hres]
    generalize sumI (es.map (setF day)) = acc at hsum ⊢
    have ht : totB acc = true := by unfold totB; simp; omega
    simp only [c0, ht, Φ8_total, totalS, on_i_eq, Tryz.underlying1, sz1, by1, ze1, Tryz.underlying3, sz3, by3, ze3, Tryz.underlying4, sz4, by4, ze4, Tryz.underlying9, sz9, by9, ze9, Tryz.underlying26, sz26, by26, ze26, Tryz.underlying40, sz40, by40, ze40, fa40_0, fa40_1, fa40_2, fa40_3, fa40_4, fa40_5, Tryz.underlying41, sz41, by41, ze41, Tryz.underlying51, sz51, by51, ze51, plan0, go_sem, ↓reduceIte, reduceCtorEq, Nat.reduceEqDiff, Nat.reduceLT, ↓all_qV, Int.reduceToNat, Int.reduceLT, Int.reduceLE, Nat.reduceAdd, Nat.reduceLeDiff, Nat.reduceMul]
noncomputable def Φ9 (g : FuncId) : PSpec := putΦ Φ8 18 provS g
theorem hΦ9 : TabSound GG Φ9 := hΦ8.put w_provS
theorem Φ9_prov {args : List PV} : Φ9 18 args = provS args := rfl
noncomputable def saneS : PSpec := on_ (True) (.bool true)
theorem w_saneS : PSound GG 5 saneS := by
  refine PSound.of_wpc (C := cxP Tryz.prog Φ9 [] 15) (T := plan0) Tryz.func5 rfl rfl rfl (Fit.pure (G := GG) hΦ9 mixed) (fun args h => ?_)
  unfold saneS at h
  obtain ⟨rfl, hp⟩ := on__inv h
  refine ⟨by simp [cxP], ?_⟩
  simp only [saneS, on__eq, Tryz.f5, argL, plan0]
  have k : provF [.agg [.int .i64 1, .int .i64 1, .int .i64 1000, .int .i64 1000, .int .i64 0, .str [49]]] 100 = (250, 0) := by decide +kernel
  simp only [k, List.take_succ_cons, List.take_nil, Φ9_prov, provS, on_li_eq, Tryz.underlying1, sz1, by1, ze1, Tryz.underlying3, sz3, by3, ze3, Tryz.underlying4, sz4, by4, ze4, Tryz.underlying9, sz9, by9, ze9, Tryz.underlying26, sz26, by26, ze26, Tryz.underlying40, sz40, by40, ze40, fa40_0, fa40_1, fa40_2, fa40_3, fa40_4, fa40_5, Tryz.underlying41, sz41, by41, ze41, Tryz.underlying51, sz51, by51, ze51, go_sem, ↓reduceIte, reduceCtorEq, Nat.reduceEqDiff, Nat.reduceLT, ↓all_qV, Int.reduceToNat, Int.reduceLT, Int.reduceLE, Nat.reduceAdd, Nat.reduceLeDiff, Nat.reduceMul]
  exact fun e he => (by simp only [List.mem_singleton] at he; subst he; exact ⟨_, _, _, _, _, _, rfl, by simp⟩)
noncomputable def Φ10 (g : FuncId) : PSpec := putΦ Φ9 5 saneS g
theorem hΦ10 : TabSound GG Φ10 := hΦ9.put w_saneS
end Go.AM
