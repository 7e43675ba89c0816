/-
  A part of a proof: see the last text of this claim for what is proved.
-/
import Derived.Test.YthfmoamiaofamaaGreatDoorV1x
import Derived.Test.YthfmoamiaofamaaGreatDoorZMa
import Derived.Test.YthfmoamiaofamaaGreatDoorPN
namespace Go.AM
open Go Go.Proofs Go.IntWalk
set_option maxRecDepth 100000
set_option maxHeartbeats 4000000
set_option linter.unusedSimpArgs false
set_option linter.unusedVariables false
def okOd (_ : List PV) (n : Int) : Prop := -9223372036854775808 ≤ n ∧ n ≤ 9223372036854775807
noncomputable def oddS : QSpec := qV Tp preC intV okOd
def odds : List Int := [-1, 0, 1, 2, 9223372036854775807, -9223372036854775808, 1000000000000, 1000000000001, 1000000000000000, 1000000000000001, 36000, 36001, 35991, 1000000, 1000001, 1000, 1001, 360]
theorem w_oddS : QSound GG 10 oddS := by
  unfold oddS
  refine QSound.of_wpcV (C := cxQ Tryz.prog Φ0 Θ9 noΨ [] [9000] 6) 9000 Tryz.func10 rfl rfl rfl (Fit.all (G := GG) hΦ0 hΘ9 hnoΨ mixed) rfl (fun args h => ?_) (fun args h => ?_)
  · obtain rfl := h
    exact ⟨0, by unfold okOd; decide⟩
  · obtain rfl := h
    refine ⟨by simp [cxQ], ?_⟩
    refine wpc_sound (T := plan0) _ _ _ ?_
    simp only [Θ9, Θ8, Θ7, Θ6, Θ5, Θ4, Θ3, Θ2, Θ1, nS, preN_eq, preR_eq, preP_eq, preX_eq, preC_eq, okP_eq, okX_eq, okN, okR, okC, arg1, arg2, intV, strV, Nat.reduceBEq, plan0, List.take_succ_cons, List.take_nil, Tryz.underlying3, sz3, by3, ze3, Tryz.underlying17, sz17, by17, ze17, Tryz.underlying18, sz18, by18, ze18, fa18_0, Tryz.underlying22, sz22, by22, ze22, Tryz.underlying31, sz31, by31, ze31, Tryz.f10, go_sem, ↓reduceIte, reduceCtorEq, Nat.reduceEqDiff, Nat.reduceLT, ↓all_qV, Int.reduceToNat, Int.reduceLT, Int.reduceLE, Nat.reduceAdd, Nat.reduceLeDiff, Nat.reduceMul, ev_callG, gcallK_b, gcallK_w, callGc_true, callGc_false]
    refine ⟨isI_map odds (by decide), fun n hn => ⟨n, rfl, ?_⟩⟩
    have hn : n ∈ odds := by simpa [odds] using hn
    have : ∀ n, n ∈ odds → -9223372036854775808 ≤ n ∧ n ≤ 9223372036854775807 := by decide
    exact this n hn
noncomputable def ΘA (g : FuncId) : Option QSpec := putΘ Θ9 10 (qV Tp preC intV okOd) g
theorem hΘA : QTab GG ΘA := hΘ9.put w_oddS
/-! ### BentLedger -/
def preB (args : List PV) : Prop := ∃ l : List Pst, args = [lgV l] ∧ l.length ≤ 1000 ∧ ∀ x, x ∈ l → pB x = true
theorem preB_eq {es : List PV} : preB [.agg [.sl es]] = (∃ l : List Pst, es = l.map psV ∧ l.length ≤ 1000 ∧ ∀ x, x ∈ l → pB x = true) := propext ⟨fun ⟨l, e, h⟩ => by
  simp only [lgV, List.cons.injEq, PV.agg.injEq, PV.sl.injEq, and_true] at e
  exact ⟨l, e, h⟩, fun ⟨l, e, h⟩ => ⟨l, by rw [e]; rfl, h⟩⟩
def okB1 (args : List PV) (l : List Pst) : Prop := l.length ≤ 1000
theorem bent_set {l : List Pst} {n : Nat} {X : PV} {y : Pst} (h : X = psV y) : ∃ x : List Pst, PV.agg [.sl (List.take l.length ((l.map psV).set n X))] = .agg [.sl (x.map psV)] ∧ x.length ≤ l.length := by
  subst h
  exact ⟨l.set n y, by rw [List.map_set, List.take_of_length_le (by simp)], by simp⟩
noncomputable def bentS : QSpec := qV Tp preB lgV okB1
theorem w_bentS : QSound GG 14 bentS := by
  unfold bentS
  refine QSound.of_wpcV (C := cxQ Tryz.prog Φ0 ΘA noΨ [] [9000] 76) 9000 Tryz.func14 rfl rfl rfl (Fit.all (G := GG) hΦ0 hΘA hnoΨ mixed) rfl (fun args h => ?_) (fun args h => ?_)
  · exact ⟨[], Nat.zero_le _⟩
  · obtain ⟨l, rfl, hl, hpb⟩ := h
    refine ⟨by simp [cxQ], ?_⟩
    refine wpc_sound (T := plan0) _ _ _ ?_
    have tkl : (l.map psV).take l.length = l.map psV := List.take_of_length_le (by simp)
    have hflat : ∀ e : PV, e ∈ l.map psV → e.cells.length = 8 := fun e he => by obtain ⟨x, _, rfl⟩ := List.mem_map.1 he; rfl
    simp (config := {maxSteps := 1000000}) only [lgV, tkl, ΘA, loadC_eq, Θ9, Θ8, Θ7, Θ6, Θ5, Θ4, Θ3, Θ2, Θ1, nS, preN_eq, preR_eq, preP_eq, preX_eq, preC_eq, okP_eq, okX_eq, okN, okR, okC, arg1, arg2, intV, strV, Nat.reduceBEq, plan0, List.length_map, List.take_succ_cons, List.take_nil, Tryz.underlying1, sz1, by1, ze1, Tryz.underlying2, sz2, by2, ze2, Tryz.underlying3, sz3, by3, ze3, Tryz.underlying4, sz4, by4, ze4, Tryz.underlying5, sz5, by5, ze5, Tryz.underlying6, sz6, by6, ze6, Tryz.underlying22, sz22, by22, ze22, Tryz.underlying23, sz23, by23, ze23, Tryz.underlying25, sz25, by25, ze25, fa25_0, Tryz.underlying31, sz31, by31, ze31, Tryz.underlying63, sz63, by63, ze63, fa63_0, fa63_1, fa63_2, fa63_3, fa63_4, fa63_5, fa63_6, fa63_7, Tryz.underlying67, sz67, by67, ze67, Tryz.f14, go_sem, ↓reduceIte, reduceCtorEq, Nat.reduceEqDiff, Nat.reduceLT, ↓all_qV, Int.reduceToNat, Int.reduceLT, Int.reduceLE, Nat.reduceAdd, Nat.reduceLeDiff, Nat.reduceMul, ev_callG, gcallK_b, gcallK_w, callGc_true, callGc_false]
    refine ⟨rfl, hflat, by omega, by simp only [maxLen]; omega, fun h1 => ⟨okL1, [⟨2, 0, 0, 0, 0, 0, 0, 0⟩], rfl, by unfold okB1; simp⟩, fun h1 => ⟨by kernel_rfl, ?_⟩⟩
    have h1' : ¬ (l.length : Int) = 0 := by simpa using h1
    refine ⟨⟨by omega, by omega⟩, fun n hn k hk => ?_⟩
    have hlt : n.toNat < l.length := by omega
    have e1 := getD_ps hlt
    have hz := pB_parts (hpb _ (mem_getD' hlt))
    generalize l.getD n.toNat default = z at e1 hz
    obtain ⟨nu, d, en, db, cr, am, pa, re⟩ := z
    simp only [psV] at e1
    simp only at hz
    have okR : ∀ {H : AHeap} {X : PV}, hget H 8 = some (.row 8 ((l.map psV).set n.toNat X)) → ∀ c, c ∈ [AV.rs 8 l.length] → c.one = true ∧ frzOk H 3 c := fun hh c hc => by
      rw [List.mem_singleton] at hc; subst hc
      exact ⟨rfl, by simp only [frzOk, hh]; simp⟩
    have fin : ∀ {X : PV} {y : Pst}, X = psV y → ∃ x : List Pst, PV.agg [.sl (List.take l.length ((l.map psV).set n.toNat X))] = .agg [.sl (x.map psV)] ∧ okB1 [.agg [.sl (l.map psV)]] x := fun h => by
      obtain ⟨x, hx, h2⟩ := bent_set (l := l) (n := n.toNat) h
      exact ⟨x, hx, by unfold okB1; omega⟩
    rw [e1]
    refine ⟨fun _ => ⟨isI_map [0, 3, 1000001] (by decide), fun v hv => ⟨hlt, okR (by rfl), fin (y := ⟨v, d, en, db, cr, am, pa, re⟩) rfl⟩⟩, fun _ => ⟨fun _ v hv => ⟨hlt, okR (by rfl), fin (y := ⟨nu, v, en, db, cr, am, pa, re⟩) rfl⟩, fun _ => ⟨fun _ v hv => ⟨hlt, okR (by rfl), fin (y := ⟨nu, d, en, db, cr, v, pa, re⟩) rfl⟩, fun _ => ⟨fun _ => ⟨isI_map [99, 100, 599, 600] (by decide), fun v hv => ⟨hlt, okR (by rfl), fin (y := ⟨nu, d, en, v, cr, am, pa, re⟩) rfl⟩⟩, fun _ => ?_⟩⟩⟩⟩
    refine ⟨fun _ => ⟨⟨hlt, by show 3 ≤ 8; decide⟩, ⟨rfl, rfl⟩, isI_map [-1, en, 10, 11] (fun x hx => ?_), fun v hv => ⟨hlt, okR (by rfl), fin (y := ⟨nu, d, en, db, cr, am, v, re⟩) rfl⟩⟩, fun _ => ⟨isI_map [0, 10, 11] (by decide), fun v hv => ⟨hlt, okR (by rfl), fin (y := ⟨nu, d, v, db, cr, am, pa, re⟩) rfl⟩⟩⟩
    simp only [List.mem_cons, List.not_mem_nil, or_false] at hx
    omega
noncomputable def ΘB (g : FuncId) : Option QSpec := putΘ ΘA 14 (qV Tp preB lgV okB1) g
theorem hΘB : QTab GG ΘB := hΘA.put w_bentS
end Go.AM
namespace Go.AM
open Go Go.Proofs Go.IntWalk
set_option maxRecDepth 100000
set_option maxHeartbeats 4000000
set_option linter.unusedSimpArgs false
set_option linter.unusedVariables false
def postK (args : List PV) (ps : Option (List PV)) (es : List PV) : Prop := ps = none ∧ okO args es
theorem w_clmT : ESound GG 30 (psiT Tp preO 6 postK) := by
  refine ESound.of_tape (C := cxQ Tryz.prog Φ0 Θ5 noΨ [] [9000] 36) (r := .tmp 4) 9000 (by decide) Tryz.func30 rfl rfl rfl rfl (Fit.all (G := GG) hΦ0 hΘ5 hnoΨ mixed) rfl (fun args h => ?_)
  obtain ⟨k, rfl, h1, h2⟩ := h
  refine ⟨by simp [cxQ], ?_⟩
  refine wpc_sound (T := plan0) _ _ _ ?_
  have hw : IntKind.i64.wrap (k + 1) = k + 1 := i64_in _ (by omega)
  simp only [hw, FinT, tapeR, resA1, Θ5, Θ4, Θ3, Θ2, Θ1, nS, preN_eq, preR_eq, preP_eq, preX_eq, preC_eq, okP_eq, okX_eq, okN, okR, okC, arg1, arg2, intV, strV, Nat.reduceBEq, plan0, Tryz.underlying1, sz1, by1, ze1, Tryz.underlying3, sz3, by3, ze3, Tryz.underlying4, sz4, by4, ze4, Tryz.underlying5, sz5, by5, ze5, Tryz.underlying9, sz9, by9, ze9, Tryz.underlying22, sz22, by22, ze22, Tryz.underlying26, sz26, by26, ze26, Tryz.underlying31, sz31, by31, ze31, Tryz.underlying40, sz40, by40, ze40, fa40_0, fa40_1, fa40_2, fa40_3, fa40_4, fa40_5, Tryz.f30, go_sem, ↓reduceIte, reduceCtorEq, Nat.reduceEqDiff, Nat.reduceLT, ↓all_qV, Int.reduceToNat, Int.reduceLT, Int.reduceLE, Nat.reduceAdd, Nat.reduceLeDiff, Nat.reduceMul]
  refine ⟨⟨by omega, by omega⟩, fun n hn => ?_⟩
  refine AWp.adoptS (s := 5) (κ := 8000) (k := 6) (by simp [look]) rfl (by decide) ?_
  refine AWp.loop (T := plan0) (α := Int × List PV) (fun z => ([(0, .ptr 9000 0), (5, .rs 8000 z.2.length), (6, .pv (.int .i64 z.1))], [(9000, .obj Tp), (8000, .row 6 z.2)])) (fun z => 0 ≤ z.1 ∧ (z.2.length : Int) + z.1 ≤ k ∧ ∀ e, e ∈ z.2 → clG e) (fun z => z.1.toNat)
    ⟨(n, []), ⟨by simpa using hn.1, by simp only [List.length_nil]; omega, fun x hx => by simp at hx⟩, ⟨by simp [fitR, look, upd], by simp [fitH, hget, hset], rfl, rfl, rfl⟩⟩ ?_
  rintro ⟨i, l⟩ ⟨g1, g2, g3⟩
  simp only at g1 g2 g3
  have hi1 : 0 < i → IntKind.i64.wrap (i - 1) = i - 1 := fun _ => i64_in _ (by omega)
  have hl3 : IntKind.i64.wrap ((l.length : Int) * 3) = (l.length : Int) * 3 := i64_in _ (by omega)
  have hl1 : IntKind.i64.wrap ((l.length : Int) * 3 + 1) = (l.length : Int) * 3 + 1 := i64_in _ (by omega)
  have tk : l.take l.length = l := List.take_length
  by_cases hlt : 0 < i
  · have c0 : decide (0 < i) = true := by simp; exact hlt
    simp only [c0, hi1 hlt, hl3, hl1, tk, FinT, tapeR, resA1, List.length_map, List.take_succ_cons, List.take_nil, Θ5, Θ4, Θ3, Θ2, Θ1, nS, preN_eq, preR_eq, preP_eq, preX_eq, preC_eq, okP_eq, okX_eq, okN, okR, okC, arg1, arg2, intV, strV, Nat.reduceBEq, plan0, Tryz.underlying1, sz1, by1, ze1, Tryz.underlying3, sz3, by3, ze3, Tryz.underlying4, sz4, by4, ze4, Tryz.underlying5, sz5, by5, ze5, Tryz.underlying9, sz9, by9, ze9, Tryz.underlying22, sz22, by22, ze22, Tryz.underlying26, sz26, by26, ze26, Tryz.underlying31, sz31, by31, ze31, Tryz.underlying40, sz40, by40, ze40, fa40_0, fa40_1, fa40_2, fa40_3, fa40_4, fa40_5, go_sem, ↓reduceIte, reduceCtorEq, Nat.reduceEqDiff, Nat.reduceLT, ↓all_qV, Int.reduceToNat, Int.reduceLT, Int.reduceLE, Nat.reduceAdd, Nat.reduceLeDiff, Nat.reduceMul, ev_callG, gcallK_b, gcallK_w, callGc_true, callGc_false]
    refine ⟨fun e he => ?_, fun n5 hn5 pa hpa d hd c hc => ⟨rfl, fun e he => by rw [List.mem_singleton] at he; subst he; rfl, Nat.le_refl _, by omega, by simp only [maxLen]; omega, (i - 1, l ++ [.agg [.int .i64 ((l.length : Int) * 3 + 1), .int .i64 pa, .int .i64 n5, .int .i64 n5, .int .i64 d, .str c]]), ⟨by simp only; omega, by simp only [List.length_append, List.length_singleton]; omega, fun e he => ?_⟩, by simp only; omega, ⟨by simp [fitR, look], by simp [fitH, hget], rfl, rfl, rfl⟩⟩⟩
    · simp only [List.mem_cons, List.not_mem_nil, or_false] at he
      rcases he with rfl | rfl | rfl | rfl | rfl <;> exact ⟨_, rfl, by decide, by decide⟩
    · rcases List.mem_append.1 he with he | he
      · exact g3 e he
      · rw [List.mem_singleton] at he
        subst he
        have h5 : n5 = 5 ∨ n5 = 10 ∨ n5 = 100 ∨ n5 = 250 := by simpa using hn5
        exact clG_of (by omega) hpa (by omega) hd hc
  · have c0 : decide (0 < i) = false := by simp; omega
    simp only [c0, tk, FinT, tapeR, resA1, List.length_map, Θ5, Θ4, Θ3, Θ2, Θ1, nS, preN_eq, preR_eq, preP_eq, preX_eq, preC_eq, okP_eq, okX_eq, okN, okR, okC, arg1, arg2, intV, strV, Nat.reduceBEq, plan0, Tryz.underlying1, sz1, by1, ze1, Tryz.underlying3, sz3, by3, ze3, Tryz.underlying4, sz4, by4, ze4, Tryz.underlying5, sz5, by5, ze5, Tryz.underlying9, sz9, by9, ze9, Tryz.underlying22, sz22, by22, ze22, Tryz.underlying26, sz26, by26, ze26, Tryz.underlying31, sz31, by31, ze31, Tryz.underlying40, sz40, by40, ze40, fa40_0, fa40_1, fa40_2, fa40_3, fa40_4, fa40_5, go_sem, ↓reduceIte, reduceCtorEq, Nat.reduceEqDiff, Nat.reduceLT, ↓all_qV, Int.reduceToNat, Int.reduceLT, Int.reduceLE, Nat.reduceAdd, Nat.reduceLeDiff, Nat.reduceMul, ev_callG, gcallK_b, gcallK_w, callGc_true, callGc_false]
    exact ⟨.rs 8000 l.length, none, l, rfl, ⟨l, by simp [hget], Nat.le_refl _, List.take_length.symm⟩, rfl, by simp only [arg1]; omega, g3⟩
noncomputable def ΨK (g : FuncId) : Option ESpec := putΨ noΨ 30 (psiT Tp preO 6 postK) g
theorem hΨK : ETab GG ΨK := hnoΨ.put w_clmT psiT_mono
def postC (_ : List PV) (ps : Option (List PV)) (es : List PV) : Prop := ∃ i u p : Int, ps = some [.int .i64 i, .int .i64 u, .int .i64 p] ∧ cloG ⟨i, u, p, es⟩
theorem w_clngT : ESound GG 8 (psiT Tp preC 6 postC) := by
  refine ESound.of_tape (C := cxQ Tryz.prog Φ0 Θ5 ΨK [] [9000] 15) (r := .cell 2 28) 9000 (by decide) Tryz.func8 rfl rfl rfl rfl (Fit.all (G := GG) hΦ0 hΘ5 hΨK mixed) rfl (fun args h => ?_)
  obtain rfl := h
  refine ⟨by simp [cxQ], ?_⟩
  refine wpc_sound (T := plan0) _ _ _ ?_
  simp only [ΨK, psiT_eq, preO_eq, loadC_eq, FinT, tapeR, resA1, Θ5, Θ4, Θ3, Θ2, Θ1, nS, preN_eq, preR_eq, preP_eq, preX_eq, preC_eq, okP_eq, okX_eq, okN, okR, okC, arg1, arg2, intV, strV, Nat.reduceBEq, plan0, List.take_succ_cons, List.take_nil, Tryz.underlying2, sz2, by2, ze2, Tryz.underlying3, sz3, by3, ze3, Tryz.underlying9, sz9, by9, ze9, Tryz.underlying22, sz22, by22, ze22, Tryz.underlying26, sz26, by26, ze26, Tryz.underlying28, sz28, by28, ze28, fa28_0, fa28_1, fa28_2, fa28_3, Tryz.underlying31, sz31, by31, ze31, Tryz.underlying40, sz40, by40, ze40, fa40_0, fa40_1, fa40_2, fa40_3, fa40_4, fa40_5, Tryz.f8, go_sem, ↓reduceIte, reduceCtorEq, Nat.reduceEqDiff, Nat.reduceLT, ↓all_qV, Int.reduceToNat, Int.reduceLT, Int.reduceLE, Nat.reduceAdd, Nat.reduceLeDiff, Nat.reduceMul, ev_callG, gcallK_b, gcallK_w, callGc_true, callGc_false]
  refine ⟨isI_map [0, 7, 120] (by decide), fun i hi => ⟨isI_map [0, 30, 500] (by decide), fun u hu => ⟨isI_map [0, 12] (by decide), fun p hp => ?_⟩⟩⟩
  rintro _ cl ⟨rfl, hcl⟩
  simp only [wrapA, psiT_eq, preO_eq, loadC_eq, FinT, tapeR, resA1, Θ5, Θ4, Θ3, Θ2, Θ1, nS, preN_eq, preR_eq, preP_eq, preX_eq, preC_eq, okP_eq, okX_eq, okN, okR, okC, arg1, arg2, intV, strV, Nat.reduceBEq, plan0, List.take_succ_cons, List.take_nil, Tryz.underlying2, sz2, by2, ze2, Tryz.underlying3, sz3, by3, ze3, Tryz.underlying9, sz9, by9, ze9, Tryz.underlying22, sz22, by22, ze22, Tryz.underlying26, sz26, by26, ze26, Tryz.underlying28, sz28, by28, ze28, fa28_0, fa28_1, fa28_2, fa28_3, Tryz.underlying31, sz31, by31, ze31, Tryz.underlying40, sz40, by40, ze40, fa40_0, fa40_1, fa40_2, fa40_3, fa40_4, fa40_5, Tryz.f8, go_sem, ↓reduceIte, reduceCtorEq, Nat.reduceEqDiff, Nat.reduceLT, ↓all_qV, Int.reduceToNat, Int.reduceLT, Int.reduceLE, Nat.reduceAdd, Nat.reduceLeDiff, Nat.reduceMul, ev_callG, gcallK_b, gcallK_w, callGc_true, callGc_false]
  have hi : i = 0 ∨ i = 7 ∨ i = 120 := by simpa using hi
  have hu : u = 0 ∨ u = 30 ∨ u = 500 := by simpa using hu
  have hp : p = 0 ∨ p = 12 := by simpa using hp
  have hl : (cl.length : Int) ≤ 5 := by simpa [arg1] using hcl.1
  exact ⟨.rs 13 cl.length, some [.int .i64 i, .int .i64 u, .int .i64 p], cl, rfl, ⟨cl, by simp [hget], Nat.le_refl _, List.take_length.symm⟩, i, u, p, rfl, by simp only; omega, by simp only; omega, by simp only; omega, by simp only; omega, hcl.2⟩
/-! ### small -/
def isCl0 (e : PV) : Prop := ∃ id pa am op d c, e = claimV id pa am op d c ∧ c.length ≤ 9223372036854775807
def isLg0 (e : PV) : Prop := ∃ l : List Pst, e = lgV l ∧ l.length ≤ 9223372036854775807
def isClo0 (e : PV) : Prop := ∃ c : Clo, e = cloV c ∧ (∀ x, x ∈ c.cl → isCl0 x) ∧ c.cl.length ≤ 9223372036854775807
def clLen : PV → Int
  | .agg [_, _, _, _, _, .str c] => (c.length : Int)
  | _ => 0
def smB (l : List Pst) (c : Clo) : Bool := c.cl.all (fun x => !decide (30 < clLen x)) && (decide ((l.length : Int) ≤ 20) && decide ((c.cl.length : Int) ≤ 70))
noncomputable def smallS : PSpec := on_pp (fun a b => isLg0 a ∧ isClo0 b) (fun a b => .bool (smB (lgOf a) (cloOf b)))
theorem w_smallS : PSound GG 4 smallS := by
  refine PSound.of_wpc (C := cxP Tryz.prog BJ [] 29) (T := plan0) Tryz.func4 rfl rfl rfl (Fit.pure (G := GG) hBJ mixed) (fun args h => ?_)
  unfold smallS at h
  obtain ⟨a, b, rfl, hp⟩ := on_pp_inv h
  refine ⟨by simp [cxP], ?_⟩
  simp only [smallS, on_pp_eq, Tryz.f4, argL, plan0]
  obtain ⟨⟨l, rfl, hl⟩, ⟨⟨i, u, p, cl⟩, rfl, hc, hcl⟩⟩ := hp
  simp only at hc hcl
  simp only [lgV, lgOf_agg, cloV, cloOf_agg, map_psOf, List.length_map, Tryz.underlying3, sz3, by3, ze3, Tryz.underlying4, sz4, by4, ze4, Tryz.underlying5, sz5, by5, ze5, Tryz.underlying9, sz9, by9, ze9, Tryz.underlying23, sz23, by23, ze23, Tryz.underlying25, sz25, by25, ze25, fa25_0, Tryz.underlying26, sz26, by26, ze26, Tryz.underlying28, sz28, by28, ze28, fa28_0, fa28_1, fa28_2, fa28_3, Tryz.underlying40, sz40, by40, ze40, fa40_0, fa40_1, fa40_2, fa40_3, fa40_4, fa40_5, Tryz.underlying63, sz63, by63, ze63, fa63_0, fa63_1, fa63_2, fa63_3, fa63_4, fa63_5, fa63_6, fa63_7, go_sem, ↓reduceIte, reduceCtorEq, Nat.reduceEqDiff, Nat.reduceLT, ↓all_qV, Int.reduceToNat, Int.reduceLT, Int.reduceLE, Nat.reduceAdd, Nat.reduceLeDiff, Nat.reduceMul]
  refine AWp.loop (T := plan0) (α := Nat) (fun k => ([(2, .ptr 2 0), (3, .ptr 3 0), (8, .pv (.sl cl)), (9, .pv (.int .i64 cl.length)), (10, .pv (.int .i64 k))], [(2, .cells [.pv (.sl (l.map psV))]), (3, .cells [.pv (.int .i64 i), .pv (.int .i64 u), .pv (.int .i64 p), .pv (.sl cl)])])) (fun k => k ≤ cl.length ∧ (cl.take k).all (fun x => !decide (30 < clLen x)) = true) (fun k => cl.length - k)
    ⟨0, ⟨Nat.zero_le _, rfl⟩, ⟨by simp [fitR, look], by simp [fitH, hget], rfl, rfl, rfl⟩⟩ ?_
  rintro k ⟨hk, hg⟩
  by_cases hlt : k < cl.length
  · have c0 : decide ((k : Int) < (cl.length : Int)) = true := by simp; omega
    have hi1 : IntKind.i64.wrap ((k : Int) + 1) = ((k + 1 : Nat) : Int) := by rw [i64_in _ (by omega)]; omega
    have hm : cl.getD k default ∈ cl := by rw [List.getD_eq_getElem?_getD, List.getElem?_eq_getElem hlt]; exact List.getElem_mem _
    have hcl2 := hc _ hm
    have ht : cl.take (k + 1) = cl.take k ++ [cl.getD k default] := by rw [List.take_add_one]; simp [List.getElem?_eq_getElem hlt, List.getD_eq_getElem?_getD]
    obtain ⟨e, hg2⟩ : ∃ e, cl.getD k default = e := ⟨_, rfl⟩
    rw [hg2] at hcl2 hm ht
    obtain ⟨id, pa, am, op, d, c, rfl, hcc⟩ := hcl2
    unfold claimV at hg2 hm ht
    simp only [c0, hg2, hi1, List.take_succ_cons, List.take_nil, Tryz.underlying3, sz3, by3, ze3, Tryz.underlying4, sz4, by4, ze4, Tryz.underlying5, sz5, by5, ze5, Tryz.underlying9, sz9, by9, ze9, Tryz.underlying23, sz23, by23, ze23, Tryz.underlying25, sz25, by25, ze25, fa25_0, Tryz.underlying26, sz26, by26, ze26, Tryz.underlying28, sz28, by28, ze28, fa28_0, fa28_1, fa28_2, fa28_3, Tryz.underlying40, sz40, by40, ze40, fa40_0, fa40_1, fa40_2, fa40_3, fa40_4, fa40_5, Tryz.underlying63, sz63, by63, ze63, fa63_0, fa63_1, fa63_2, fa63_3, fa63_4, fa63_5, fa63_6, fa63_7, plan0, go_sem, ↓reduceIte, reduceCtorEq, Nat.reduceEqDiff, Nat.reduceLT, ↓all_qV, Int.reduceToNat, Int.reduceLT, Int.reduceLE, Nat.reduceAdd, Nat.reduceLeDiff, Nat.reduceMul]
    have hsm : ∀ b : Bool, decide (30 < (c.length : Int)) = b → (!decide (30 < clLen (PV.agg [.int .i64 id, .int .i64 pa, .int .i64 am, .int .i64 op, .int .i64 d, .str c]))) = !b := fun b h => by rw [← h]; rfl
    refine ⟨⟨by omega, by omega⟩, fun h9 => ?_, fun h9 => ⟨k + 1, ⟨by omega, ?_⟩, by omega, ⟨by simp [fitR, look], by simp [fitH, hget], rfl, rfl, rfl⟩⟩⟩
    · have : cl.all (fun x => !decide (30 < clLen x)) = false := by
        rw [List.all_eq_false]
        exact ⟨_, hm, by rw [hsm true h9]; simp⟩
      unfold smB; simp only [this, Bool.false_and]
    · rw [ht, List.all_append, hg, List.all_cons, hsm false h9]; rfl
  · have c0 : decide ((k : Int) < (cl.length : Int)) = false := by simp; omega
    rw [List.take_of_length_le (by omega)] at hg
    simp only [c0, List.length_map, Tryz.underlying3, sz3, by3, ze3, Tryz.underlying4, sz4, by4, ze4, Tryz.underlying5, sz5, by5, ze5, Tryz.underlying9, sz9, by9, ze9, Tryz.underlying23, sz23, by23, ze23, Tryz.underlying25, sz25, by25, ze25, fa25_0, Tryz.underlying26, sz26, by26, ze26, Tryz.underlying28, sz28, by28, ze28, fa28_0, fa28_1, fa28_2, fa28_3, Tryz.underlying40, sz40, by40, ze40, fa40_0, fa40_1, fa40_2, fa40_3, fa40_4, fa40_5, Tryz.underlying63, sz63, by63, ze63, fa63_0, fa63_1, fa63_2, fa63_3, fa63_4, fa63_5, fa63_6, fa63_7, plan0, go_sem, ↓reduceIte, reduceCtorEq, Nat.reduceEqDiff, Nat.reduceLT, ↓all_qV, Int.reduceToNat, Int.reduceLT, Int.reduceLE, Nat.reduceAdd, Nat.reduceLeDiff, Nat.reduceMul]
    unfold smB
    simp only [hg, Bool.true_and]
    try rfl
noncomputable def BK (g : FuncId) : PSpec := (putΦ BJ 4 smallS) g
theorem hBK : TabSound GG BK := (hBJ.put w_smallS)
theorem sm_ok {l : List Pst} {c : Clo} (hc : ∀ x, x ∈ c.cl → isCl0 x) (h : smB l c = true) : l.length ≤ 20 ∧ c.cl.length ≤ 70 ∧ ∀ x, x ∈ c.cl → isCl x := by
  unfold smB at h
  simp only [Bool.and_eq_true, decide_eq_true_eq, List.all_eq_true] at h
  obtain ⟨h1, h2, h3⟩ := h
  refine ⟨by omega, by omega, fun x hx => ?_⟩
  obtain ⟨id, pa, am, op, d, s, rfl, _⟩ := hc x hx
  have h4 := h1 _ hx
  have h5 : clLen (claimV id pa am op d s) = (s.length : Int) := rfl
  rw [h5] at h4
  exact ⟨id, pa, am, op, d, s, rfl, by simp at h4; omega⟩
end Go.AM
