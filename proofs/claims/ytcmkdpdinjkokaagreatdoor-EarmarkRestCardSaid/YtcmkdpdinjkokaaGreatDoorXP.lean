/-
  A part of a proof: see the last text of this claim for what is proved.
-/
import Derived.Test.YtcmkdpdinjkokaaGreatDoorX6o
import Derived.Test.YtcmkdpdinjkokaaGreatDoorZMa
namespace Go.AM
open Go Go.Proofs Go.IntWalk
set_option maxRecDepth 100000
set_option maxHeartbeats 1000000
set_option linter.unusedSimpArgs false
set_option linter.unusedVariables false
noncomputable def Θ7 (g : FuncId) : Option QSpec := putΘ Θ6 26 (qV Tp preNo Law.v okLaw) g
theorem hΘ7 : QTab GG Θ7 := hΘ6.put w_ruledS
theorem preRe_eq {l : PV} {n : Int} : preRe [l, .int .i64 n] = (lawP l ∧ 0 ≤ n ∧ n ≤ 10) := propext ⟨fun ⟨l', k', e, h⟩ => by simp only [List.cons.injEq, PV.int.injEq, and_true, true_and] at e; obtain ⟨rfl, rfl⟩ := e; exact h, fun h => ⟨l, n, rfl, h⟩⟩
theorem preNo_eq : preNo [] = True := propext ⟨fun _ => trivial, fun _ => rfl⟩
structure Facts where
  law : Law
  tr : List PV
  re : List PV
  ca : List PV
def Facts.v (f : Facts) : PV := .agg [.int .i64 f.law.first, .int .i64 f.law.years, .sl f.law.tree, .sl f.law.a, .sl f.law.b, .sl f.law.c, .sl f.law.d, .sl f.law.e, .sl f.law.f, .sl f.law.g, .sl f.tr, .sl f.re, .sl f.ca]
def Facts.ok (f : Facts) : Prop := f.law.ok ∧ f.re.length ≤ 20 ∧ (∀ x, x ∈ f.re → recP f.law.v x) ∧ ∃ day, RecI day f.re
def okFacts (_ : List PV) (f : Facts) : Prop := f.ok
noncomputable def factsS : QSpec := qV Tp preNo Facts.v okFacts
theorem w_factsS : QSound GG 8 factsS := by
  unfold factsS
  refine QSound.of_wpcV (C := cxQ Tryz.prog Φ14 Θ7 noΨ [] [9000] 17) 9000 Tryz.func8 rfl rfl rfl (Fit.all (G := GG) hΦ14 hΘ7 hnoΨ mixed) rfl (fun args h => ?_) (fun args h => ?_)
  · exact ⟨⟨law00, [], [], []⟩, law00_ok, Nat.zero_le _, by simp, 0, RecI.nil⟩
  · unfold preNo at h
    subst h
    refine ⟨by simp [cxQ], ?_⟩
    refine wpc_sound (T := plan0) _ _ _ ?_
    simp (config := {maxSteps := 1000000}) only [Θ7, Θ6, Θ5, Θ4, Θ3, Θ2, Θ1, preN_eq, preP_eq, okP_eq, preR_eq, allI_nil, allI_cons, memI_nil, memI_cons, or_false, false_or, okN, okR, arg1, arg2, ne_eq, not_false_eq_true, intV, Nat.reduceBEq, preRe_eq, preNo_eq, List.take_succ_cons, List.take_nil, slV, loadC_eq, Law.v, lawV, Tryz.underlying3, sz3, by3, ze3, Tryz.underlying9, sz9, by9, ze9, Tryz.underlying23, sz23, by23, ze23, Tryz.underlying25, sz25, by25, ze25, Tryz.underlying26, sz26, by26, ze26, Tryz.underlying27, sz27, by27, ze27, Tryz.underlying28, sz28, by28, ze28, Tryz.underlying29, sz29, by29, ze29, Tryz.underlying30, sz30, by30, ze30, Tryz.underlying31, sz31, by31, ze31, Tryz.underlying33, sz33, by33, ze33, fa33_0, fa33_1, fa33_2, fa33_3, fa33_4, fa33_5, fa33_6, fa33_7, fa33_8, fa33_9, Tryz.underlying34, sz34, by34, ze34, Tryz.underlying35, sz35, by35, ze35, Tryz.underlying36, sz36, by36, ze36, Tryz.underlying38, sz38, by38, ze38, fa38_0, fa38_1, fa38_2, fa38_3, Tryz.underlying41, sz41, by41, ze41, fa41_0, fa41_1, fa41_2, fa41_3, Tryz.underlying55, sz55, by55, ze55, fa55_0, fa55_1, Tryz.underlying57, sz57, by57, ze57, fa57_0, fa57_1, fa57_2, fa57_3, fa57_4, fa57_5, fa57_6, Tryz.underlying77, sz77, by77, ze77, fa77_0, fa77_1, fa77_2, Tryz.underlying86, sz86, by86, ze86, fa86_0, fa86_1, fa86_2, Tryz.underlying88, sz88, by88, ze88, fa88_0, fa88_1, fa88_2, fa88_3, Tryz.underlying89, sz89, by89, ze89, fa89_0, fa89_1, fa89_2, Tryz.underlying92, sz92, by92, ze92, fa92_0, fa92_1, fa92_2, fa92_3, Tryz.underlying93, sz93, by93, ze93, Tryz.underlying95, sz95, by95, ze95, fa95_0, fa95_1, fa95_2, Tryz.underlying97, sz97, by97, ze97, fa97_0, fa97_1, fa97_2, fa97_3, fa97_4, fa97_5, fa97_6, Tryz.underlying99, sz99, by99, ze99, fa99_0, fa99_1, fa99_2, fa99_3, fa99_4, plan0, Tryz.f8, go_sem, ↓reduceIte, reduceCtorEq, Nat.reduceEqDiff, Nat.reduceLT, ↓all_qV, Int.reduceToNat, Int.reduceLT, Int.reduceLE, Nat.reduceAdd, Nat.reduceLeDiff, Nat.reduceMul]
    have hc10 : ∀ {H : AHeap} {x : Law} (c : AV), c ∈ [AV.pv (PV.int IntKind.i64 x.first), AV.pv (PV.int IntKind.i64 x.years), AV.pv (PV.sl x.tree), AV.pv (PV.sl x.a), AV.pv (PV.sl x.b), AV.pv (PV.sl x.c), AV.pv (PV.sl x.d), AV.pv (PV.sl x.e), AV.pv (PV.sl x.f), AV.pv (PV.sl x.g)] → c.one = true ∧ frzOk H 3 c := fun c hc => by simp only [List.mem_cons, List.not_mem_nil, or_false] at hc; rcases hc with rfl | rfl | rfl | rfl | rfl | rfl | rfl | rfl | rfl | rfl <;> exact ⟨rfl, by simp [frzOk]⟩
    refine fun x hx => ⟨by kernel_rfl, ⟨hc10, Law.ok.P hx⟩, fun x1 _ => ⟨⟨hc10, Law.ok.P hx⟩, fun x2 h2 => ⟨⟨hc10, Law.ok.P hx⟩, fun x3 _ => ⟨fun c hc => ?_, ⟨x, x1, x2, x3⟩, rfl, hx, h2⟩⟩⟩⟩
    simp only [List.mem_cons, List.not_mem_nil, or_false] at hc
    rcases hc with rfl | rfl | rfl | rfl | rfl | rfl | rfl | rfl | rfl | rfl | rfl | rfl | rfl <;> exact ⟨rfl, by simp [frzOk]⟩
end Go.AM
namespace Go.AM
open Go Go.Proofs Go.IntWalk
set_option maxRecDepth 100000
noncomputable def Θ8 (g : FuncId) : Option QSpec := putΘ Θ7 8 (qV Tp preNo Facts.v okFacts) g
theorem hΘ8 : QTab GG Θ8 := hΘ7.put w_factsS
noncomputable def Ξ0 (g : FuncId) : PSpec := putΦ Φ36 13 awake11S g
theorem hΞ0 : TabSound GG Ξ0 := hΦ36.put w_awake11S
theorem preT_eq {es : List PV} : preT [.sl es] = (es.length ≤ 9223372036854775807 ∧ ∀ e, e ∈ es → isI e) := propext ⟨fun ⟨es', e, h⟩ => by simp only [List.cons.injEq, PV.sl.injEq, and_true] at e; subst e; exact h, fun h => ⟨es, rfl, h⟩⟩
end Go.AM
