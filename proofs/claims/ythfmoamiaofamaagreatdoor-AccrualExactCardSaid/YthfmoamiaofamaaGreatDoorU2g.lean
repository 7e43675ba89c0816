/-
  A part of a proof: see the last text of this claim for what is proved.
-/
import Derived.Test.YthfmoamiaofamaaGreatDoorU2f
import Derived.Test.YthfmoamiaofamaaGreatDoorZMa
/-! the tape: claims, ledgers, closings -/
namespace Go.AM
open Go Go.Proofs Go.IntWalk
set_option maxRecDepth 100000
set_option maxHeartbeats 4000000
set_option linter.unusedSimpArgs false
set_option linter.unusedVariables false
def preR (args : List PV) : Prop := ∃ a b : Int, args = [.int .i64 a, .int .i64 b] ∧ -1000000000000000 ≤ a ∧ a ≤ b ∧ b ≤ 1000000000000000
theorem preR_eq {a b : Int} : preR [.int .i64 a, .int .i64 b] = (-1000000000000000 ≤ a ∧ a ≤ b ∧ b ≤ 1000000000000000) := propext ⟨fun ⟨a', b', e, h⟩ => by simp only [List.cons.injEq, PV.int.injEq, and_true, true_and] at e; obtain ⟨rfl, rfl⟩ := e; exact h, fun h => ⟨a, b, rfl, h⟩⟩
def okR (args : List PV) (n : Int) : Prop := arg1 args ≤ n ∧ n ≤ arg2 args
noncomputable def rangeS : QSpec := qV Tp preR intV okR
theorem w_rangeS : QSound GG 17 rangeS := by
  unfold rangeS
  refine QSound.of_wpcV (C := cxQ Tryz.prog Φ0 Θ1 noΨ [] [9000] 15) 9000 Tryz.func17 rfl rfl rfl (Fit.all (G := GG) hΦ0 hΘ1 hnoΨ mixed) rfl (fun args h => ?_) (fun args h => ?_)
  · obtain ⟨a, b, rfl, h1, h2, h3⟩ := h
    exact ⟨a, Int.le_refl _, h2⟩
  · obtain ⟨a, b, rfl, h1, h2, h3⟩ := h
    refine ⟨by simp [cxQ], ?_⟩
    refine wpc_sound (T := plan0) _ _ _ ?_
    have hw : IntKind.i64.wrap (IntKind.i64.wrap (b - a) + 1) = b - a + 1 := by rw [i64_in (b - a) (by omega), i64_in _ (by omega)]
    simp only [hw, Θ1, nS, preN_eq, okN, arg1, intV, Tryz.f17, plan0, go_sem, ↓reduceIte, reduceCtorEq, Nat.reduceEqDiff, Nat.reduceLT, ↓all_qV, Int.reduceToNat, Int.reduceLT, Int.reduceLE, Nat.reduceAdd, Nat.reduceLeDiff, Nat.reduceMul]
    refine ⟨⟨by omega, by omega⟩, fun n hn => ⟨_, rfl, ?_⟩⟩
    rw [i64_in _ (by omega)]
    exact ⟨by simp only [arg1]; omega, by simp only [arg2]; omega⟩
noncomputable def Θ2 (g : FuncId) : Option QSpec := putΘ Θ1 17 (qV Tp preR intV okR) g
theorem hΘ2 : QTab GG Θ2 := hΘ1.put w_rangeS
def preP (args : List PV) : Prop := ∃ es, args = [.sl es] ∧ es ≠ [] ∧ es.length ≤ 1000000 ∧ ∀ e, e ∈ es → isI e
theorem preP_eq {es : List PV} : preP [.sl es] = (es ≠ [] ∧ es.length ≤ 1000000 ∧ ∀ e, e ∈ es → isI e) := propext ⟨fun ⟨es', e, h⟩ => by simp only [List.cons.injEq, PV.sl.injEq, and_true] at e; subst e; exact h, fun h => ⟨es, rfl, h⟩⟩
def okP (args : List PV) (n : Int) : Prop := ∃ es, args = [.sl es] ∧ intV n ∈ es
theorem okP_eq {es : List PV} {n : Int} : okP [.sl es] n = (intV n ∈ es) := propext ⟨fun ⟨es', e, h⟩ => by simp only [List.cons.injEq, PV.sl.injEq, and_true] at e; subst e; exact h, fun h => ⟨es, rfl, h⟩⟩
noncomputable def pickS : QSpec := qV Tp preP intV okP
theorem w_pickS : QSound GG 11 pickS := by
  unfold pickS
  refine QSound.of_wpcV (C := cxQ Tryz.prog Φ0 Θ2 noΨ [] [9000] 12) 9000 Tryz.func11 rfl rfl rfl (Fit.all (G := GG) hΦ0 hΘ2 hnoΨ mixed) rfl (fun args h => ?_) (fun args h => ?_)
  · obtain ⟨es, rfl, h1, h2, h3⟩ := h
    cases es with
    | nil => exact absurd rfl h1
    | cons e r =>
      obtain ⟨n, rfl, _⟩ := h3 e List.mem_cons_self
      exact ⟨n, _, rfl, List.mem_cons_self⟩
  · obtain ⟨es, rfl, h1, h2, h3⟩ := h
    refine ⟨by simp [cxQ], ?_⟩
    refine wpc_sound (T := plan0) _ _ _ ?_
    have hpos := List.length_pos_iff.2 h1
    simp only [Θ2, Θ1, nS, preN_eq, okN, arg1, Tryz.underlying3, sz3, by3, ze3, Tryz.underlying22, sz22, by22, ze22, Tryz.underlying31, sz31, by31, ze31, Tryz.f11, plan0, go_sem, ↓reduceIte, reduceCtorEq, Nat.reduceEqDiff, Nat.reduceLT, ↓all_qVs, Int.reduceToNat, Int.reduceLT, Int.reduceLE, Nat.reduceAdd, Nat.reduceLeDiff, Nat.reduceMul]
    refine ⟨⟨by omega, by omega⟩, fun n hn => ?_⟩
    obtain ⟨j, rfl⟩ := Int.eq_ofNat_of_zero_le hn.1
    have hj : j < es.length := by omega
    obtain ⟨m, hm, b1, b2⟩ : ∃ m, es.getD j default = .int .i64 m ∧ .int .i64 m ∈ es ∧ True := by
      have h4 := h3 (es[j]'hj) (List.getElem_mem _)
      obtain ⟨m, e, _⟩ := h4
      exact ⟨m, by simp [List.getD_eq_getElem?_getD, hj, e], by rw [← e]; exact List.getElem_mem _, trivial⟩
    simp only [Later_eq, intV, hm, Tryz.underlying3, sz3, by3, ze3, Tryz.underlying22, sz22, by22, ze22, Tryz.underlying31, sz31, by31, ze31, plan0, go_sem, ↓reduceIte, reduceCtorEq, Nat.reduceEqDiff, Nat.reduceLT, ↓all_qV, Int.reduceToNat, Int.reduceLT, Int.reduceLE, Nat.reduceAdd, Nat.reduceLeDiff, Nat.reduceMul]
    exact ⟨hn, m, rfl, es, rfl, b1⟩
noncomputable def Θ3 (g : FuncId) : Option QSpec := putΘ Θ2 11 (qV Tp preP intV okP) g
theorem hΘ3 : QTab GG Θ3 := hΘ2.put w_pickS
def strV (s : List UInt8) : PV := .str s
def preX (args : List PV) : Prop := ∃ es, args = [.sl es] ∧ es ≠ [] ∧ es.length ≤ 1000000 ∧ ∀ e, e ∈ es → ∃ s, e = strV s
theorem preX_eq {es : List PV} : preX [.sl es] = (es ≠ [] ∧ es.length ≤ 1000000 ∧ ∀ e, e ∈ es → ∃ s, e = strV s) := propext ⟨fun ⟨es', e, h⟩ => by simp only [List.cons.injEq, PV.sl.injEq, and_true] at e; subst e; exact h, fun h => ⟨es, rfl, h⟩⟩
def okX (args : List PV) (s : List UInt8) : Prop := ∃ es, args = [.sl es] ∧ strV s ∈ es
theorem okX_eq {es : List PV} {s : List UInt8} : okX [.sl es] s = (strV s ∈ es) := propext ⟨fun ⟨es', e, h⟩ => by simp only [List.cons.injEq, PV.sl.injEq, and_true] at e; subst e; exact h, fun h => ⟨es, rfl, h⟩⟩
noncomputable def textS : QSpec := qV Tp preX strV okX
theorem w_textS : QSound GG 12 textS := by
  unfold textS
  refine QSound.of_wpcV (C := cxQ Tryz.prog Φ0 Θ3 noΨ [] [9000] 12) 9000 Tryz.func12 rfl rfl rfl (Fit.all (G := GG) hΦ0 hΘ3 hnoΨ mixed) rfl (fun args h => ?_) (fun args h => ?_)
  · obtain ⟨es, rfl, h1, h2, h3⟩ := h
    cases es with
    | nil => exact absurd rfl h1
    | cons e r =>
      obtain ⟨n, rfl⟩ := h3 e List.mem_cons_self
      exact ⟨n, _, rfl, List.mem_cons_self⟩
  · obtain ⟨es, rfl, h1, h2, h3⟩ := h
    refine ⟨by simp [cxQ], ?_⟩
    refine wpc_sound (T := plan0) _ _ _ ?_
    have hpos := List.length_pos_iff.2 h1
    simp only [Θ3, Θ2, Θ1, nS, preN_eq, okN, arg1, Tryz.underlying3, sz3, by3, ze3, Tryz.underlying9, sz9, by9, ze9, Tryz.underlying31, sz31, by31, ze31, Tryz.underlying66, sz66, by66, ze66, Tryz.f12, plan0, go_sem, ↓reduceIte, reduceCtorEq, Nat.reduceEqDiff, Nat.reduceLT, ↓all_qVs, Int.reduceToNat, Int.reduceLT, Int.reduceLE, Nat.reduceAdd, Nat.reduceLeDiff, Nat.reduceMul]
    refine ⟨⟨by omega, by omega⟩, fun n hn => ?_⟩
    obtain ⟨j, rfl⟩ := Int.eq_ofNat_of_zero_le hn.1
    have hj : j < es.length := by omega
    obtain ⟨m, hm, b1⟩ : ∃ m, es.getD j default = .str m ∧ .str m ∈ es := by
      obtain ⟨m, e⟩ := h3 (es[j]'hj) (List.getElem_mem _)
      have e' : es[j] = .str m := e
      exact ⟨m, by simp [List.getD_eq_getElem?_getD, hj, e'], by rw [← e']; exact List.getElem_mem _⟩
    simp only [Later_eq, intV, hm, Tryz.underlying3, sz3, by3, ze3, Tryz.underlying9, sz9, by9, ze9, Tryz.underlying31, sz31, by31, ze31, Tryz.underlying66, sz66, by66, ze66, plan0, go_sem, ↓reduceIte, reduceCtorEq, Nat.reduceEqDiff, Nat.reduceLT, ↓all_qV, Int.reduceToNat, Int.reduceLT, Int.reduceLE, Nat.reduceAdd, Nat.reduceLeDiff, Nat.reduceMul]
    exact ⟨hn, m, rfl, es, rfl, b1⟩
noncomputable def Θ4 (g : FuncId) : Option QSpec := putΘ Θ3 12 (qV Tp preX strV okX) g
theorem hΘ4 : QTab GG Θ4 := hΘ3.put w_textS
/-! ### Code -/
def codes7 : List (List UInt8) := [[49], [49, 46, 49], [49, 46, 50], [49, 46, 50, 46, 51], [50], [50, 46, 49, 48], [50, 46, 57]]
def preC (args : List PV) : Prop := args = []
theorem preC_eq : preC [] = True := propext ⟨fun _ => trivial, fun _ => rfl⟩
def okC (_ : List PV) (s : List UInt8) : Prop := s ∈ codes7
noncomputable def codeS : QSpec := qV Tp preC strV okC
theorem w_codeS : QSound GG 57 codeS := by
  unfold codeS
  refine QSound.of_wpcV (C := cxQ Tryz.prog Φ0 Θ4 noΨ [] [9000] 6) 9000 Tryz.func57 rfl rfl rfl (Fit.all (G := GG) hΦ0 hΘ4 hnoΨ mixed) rfl (fun args h => ?_) (fun args h => ?_)
  · obtain rfl := h
    exact ⟨[49], by simp [okC, codes7]⟩
  · obtain rfl := h
    refine ⟨by simp [cxQ], ?_⟩
    refine wpc_sound (T := plan0) _ _ _ ?_
    simp only [Θ4, Θ3, Θ2, Θ1, nS, preN_eq, preR_eq, preP_eq, preX_eq, preC_eq, okP_eq, okX_eq, okN, okR, okC, arg1, arg2, intV, strV, Nat.reduceBEq, plan0, List.take_succ_cons, List.take_nil, Tryz.underlying2, sz2, by2, ze2, Tryz.underlying3, sz3, by3, ze3, Tryz.underlying4, sz4, by4, ze4, Tryz.underlying6, sz6, by6, ze6, Tryz.underlying7, sz7, by7, ze7, fa7_0, fa7_1, fa7_2, fa7_3, Tryz.underlying9, sz9, by9, ze9, Tryz.underlying31, sz31, by31, ze31, Tryz.underlying66, sz66, by66, ze66, Tryz.f57, go_sem, ↓reduceIte, reduceCtorEq, Nat.reduceEqDiff, Nat.reduceLT, ↓all_qV, Int.reduceToNat, Int.reduceLT, Int.reduceLE, Nat.reduceAdd, Nat.reduceLeDiff, Nat.reduceMul, ev_callG, gcallK_b, gcallK_w, callGc_true, callGc_false]
    refine ⟨fun e he => ?_, fun s hs => ⟨s, rfl, by simpa [codes7] using hs⟩⟩
    simp only [List.mem_cons, List.not_mem_nil, or_false] at he
    rcases he with rfl | rfl | rfl | rfl | rfl | rfl | rfl <;> exact ⟨_, rfl⟩
noncomputable def Θ5 (g : FuncId) : Option QSpec := putΘ Θ4 57 (qV Tp preC strV okC) g
theorem hΘ5 : QTab GG Θ5 := hΘ4.put w_codeS
/-! ### Claims -/
def clG (e : PV) : Prop := isCl e ∧ clB e = true ∧ openF e ≤ 250
def preO (args : List PV) : Prop := ∃ k : Int, args = [.int .i64 k] ∧ 0 ≤ k ∧ k ≤ 50
theorem preO_eq {k : Int} : preO [.int .i64 k] = (0 ≤ k ∧ k ≤ 50) := propext ⟨fun ⟨k', e, h⟩ => by simp only [List.cons.injEq, PV.int.injEq, and_true, true_and] at e; subst e; exact h, fun h => ⟨k, rfl, h⟩⟩
def okO (args : List PV) (l : List PV) : Prop := (l.length : Int) ≤ arg1 args ∧ ∀ e, e ∈ l → clG e
noncomputable def clmS : QSpec := qV Tp preO PV.sl okO
theorem codes7_ok : ∀ c, c ∈ codes7 → decide ((0 : Int) < (partsR c).length) = true ∧ c.length ≤ 100 := by
  intro c hc
  simp only [codes7, List.mem_cons, List.not_mem_nil, or_false] at hc
  rcases hc with rfl | rfl | rfl | rfl | rfl | rfl | rfl <;> exact ⟨by decide +kernel, by decide⟩
theorem clG_of {id pa n d : Int} {c : List UInt8} (h1 : 1 ≤ id ∧ id ≤ 1000) (h2 : 1 ≤ pa ∧ pa ≤ 3) (h3 : 1 ≤ n ∧ n ≤ 250) (h4 : 0 ≤ d ∧ d < 60) (hc : c ∈ codes7) : clG (.agg [.int .i64 id, .int .i64 pa, .int .i64 n, .int .i64 n, .int .i64 d, .str c]) := by
  obtain ⟨g1, g2⟩ := codes7_ok c hc
  refine ⟨⟨id, pa, n, n, d, c, rfl, by omega⟩, ?_, ?_⟩
  · rw [clB_eq, g1]; simp [amg, posB, vldM]; omega
  · show n ≤ 250; omega
theorem w_clmS : QSound GG 30 clmS := by
  unfold clmS
  refine QSound.of_wpcV (C := cxQ Tryz.prog Φ0 Θ5 noΨ [] [9000] 36) 9000 Tryz.func30 rfl rfl rfl (Fit.all (G := GG) hΦ0 hΘ5 hnoΨ mixed) rfl (fun args h => ?_) (fun args h => ?_)
  · obtain ⟨k, rfl, h1, h2⟩ := h
    exact ⟨[], by simpa [arg1] using h1, fun x hx => by simp at hx⟩
  · obtain ⟨k, rfl, h1, h2⟩ := h
    refine ⟨by simp [cxQ], ?_⟩
    refine wpc_sound (T := plan0) _ _ _ ?_
    have hw : IntKind.i64.wrap (k + 1) = k + 1 := i64_in _ (by omega)
    simp only [hw, Θ5, Θ4, Θ3, Θ2, Θ1, nS, preN_eq, preR_eq, preP_eq, preX_eq, preC_eq, okP_eq, okX_eq, okN, okR, okC, arg1, arg2, intV, strV, Nat.reduceBEq, plan0, Tryz.underlying1, sz1, by1, ze1, Tryz.underlying3, sz3, by3, ze3, Tryz.underlying4, sz4, by4, ze4, Tryz.underlying5, sz5, by5, ze5, Tryz.underlying9, sz9, by9, ze9, Tryz.underlying22, sz22, by22, ze22, Tryz.underlying26, sz26, by26, ze26, Tryz.underlying31, sz31, by31, ze31, Tryz.underlying40, sz40, by40, ze40, fa40_0, fa40_1, fa40_2, fa40_3, fa40_4, fa40_5, Tryz.f30, go_sem, ↓reduceIte, reduceCtorEq, Nat.reduceEqDiff, Nat.reduceLT, ↓all_qV, Int.reduceToNat, Int.reduceLT, Int.reduceLE, Nat.reduceAdd, Nat.reduceLeDiff, Nat.reduceMul]
    refine ⟨⟨by omega, by omega⟩, fun n hn => ?_⟩
    refine AWp.adoptS (s := 5) (κ := 8000) (k := 6) (by simp [look]) rfl (by decide) ?_
    refine AWp.loop (T := plan0) (α := Int × List PV) (fun z => ([(0, .ptr 9000 0), (5, .rs 8000 z.2.length), (6, .pv (.int .i64 z.1))], [(9000, .obj Tp), (8000, .row 6 z.2)])) (fun z => 0 ≤ z.1 ∧ (z.2.length : Int) + z.1 ≤ k ∧ ∀ e, e ∈ z.2 → clG e) (fun z => z.1.toNat)
      ⟨(n, []), ⟨by simpa using hn.1, by simp only [List.length_nil]; omega, fun x hx => by simp at hx⟩, ⟨by simp [fitR, look, upd], by simp [fitH, hget, hset], rfl, rfl, rfl⟩⟩ ?_
    rintro ⟨i, l⟩ ⟨g1, g2, g3⟩
    simp only at g1 g2 g3
    have hi1 : 0 < i → IntKind.i64.wrap (i - 1) = i - 1 := fun _ => i64_in _ (by omega)
    have hl3 : IntKind.i64.wrap ((l.length : Int) * 3) = (l.length : Int) * 3 := i64_in _ (by omega)
    have hl1 : IntKind.i64.wrap ((l.length : Int) * 3 + 1) = (l.length : Int) * 3 + 1 := i64_in _ (by omega)
    have tk : l.take l.length = l := List.take_length
    by_cases hlt : 0 < i
    · have c0 : decide (0 < i) = true := by simp; exact hlt
      simp only [c0, hi1 hlt, hl3, hl1, tk, List.length_map, List.take_succ_cons, List.take_nil, Θ5, Θ4, Θ3, Θ2, Θ1, nS, preN_eq, preR_eq, preP_eq, preX_eq, preC_eq, okP_eq, okX_eq, okN, okR, okC, arg1, arg2, intV, strV, Nat.reduceBEq, plan0, Tryz.underlying1, sz1, by1, ze1, Tryz.underlying3, sz3, by3, ze3, Tryz.underlying4, sz4, by4, ze4, Tryz.underlying5, sz5, by5, ze5, Tryz.underlying9, sz9, by9, ze9, Tryz.underlying22, sz22, by22, ze22, Tryz.underlying26, sz26, by26, ze26, Tryz.underlying31, sz31, by31, ze31, Tryz.underlying40, sz40, by40, ze40, fa40_0, fa40_1, fa40_2, fa40_3, fa40_4, fa40_5, go_sem, ↓reduceIte, reduceCtorEq, Nat.reduceEqDiff, Nat.reduceLT, ↓all_qV, Int.reduceToNat, Int.reduceLT, Int.reduceLE, Nat.reduceAdd, Nat.reduceLeDiff, Nat.reduceMul, ev_callG, gcallK_b, gcallK_w, callGc_true, callGc_false]
      refine ⟨fun e he => ?_, fun n5 hn5 pa hpa d hd c hc => ⟨rfl, fun e he => by rw [List.mem_singleton] at he; subst he; rfl, Nat.le_refl _, by omega, by simp only [maxLen]; omega, (i - 1, l ++ [.agg [.int .i64 ((l.length : Int) * 3 + 1), .int .i64 pa, .int .i64 n5, .int .i64 n5, .int .i64 d, .str c]]), ⟨by simp only; omega, by simp only [List.length_append, List.length_cons, List.length_nil]; omega, fun e he => ?_⟩, by simp only; omega, ⟨by simp [fitR, look], by simp [fitH, hget], rfl, rfl, rfl⟩⟩⟩
      · simp only [List.mem_cons, List.not_mem_nil, or_false] at he
        rcases he with rfl | rfl | rfl | rfl | rfl <;> exact ⟨_, rfl, by decide, by decide⟩
      · rcases List.mem_append.1 he with he | he
        · exact g3 e he
        · rw [List.mem_singleton] at he
          subst he
          have h5 : n5 = 5 ∨ n5 = 10 ∨ n5 = 100 ∨ n5 = 250 := by simpa using hn5
          exact clG_of (by omega) hpa (by omega) hd hc
    · have c0 : decide (0 < i) = false := by simp; omega
      simp only [c0, tk, List.length_map, Θ4, Θ3, Θ2, Θ1, nS, preN_eq, preR_eq, preP_eq, preX_eq, preC_eq, okP_eq, okX_eq, okN, okR, okC, arg1, arg2, intV, strV, Nat.reduceBEq, plan0, Tryz.underlying1, sz1, by1, ze1, Tryz.underlying3, sz3, by3, ze3, Tryz.underlying4, sz4, by4, ze4, Tryz.underlying5, sz5, by5, ze5, Tryz.underlying9, sz9, by9, ze9, Tryz.underlying22, sz22, by22, ze22, Tryz.underlying26, sz26, by26, ze26, Tryz.underlying31, sz31, by31, ze31, Tryz.underlying40, sz40, by40, ze40, fa40_0, fa40_1, fa40_2, fa40_3, fa40_4, fa40_5, go_sem, ↓reduceIte, reduceCtorEq, Nat.reduceEqDiff, Nat.reduceLT, ↓all_qV, Int.reduceToNat, Int.reduceLT, Int.reduceLE, Nat.reduceAdd, Nat.reduceLeDiff, Nat.reduceMul, ev_callG, gcallK_b, gcallK_w, callGc_true, callGc_false]
      exact ⟨Nat.le_refl _, l, rfl, by simp only [arg1]; omega, g3⟩
noncomputable def Θ6 (g : FuncId) : Option QSpec := putΘ Θ5 30 (qV Tp preO PV.sl okO) g
theorem hΘ6 : QTab GG Θ6 := hΘ5.put w_clmS
theorem isI_map (l : List Int) (h : ∀ n, n ∈ l → -9223372036854775808 ≤ n ∧ n ≤ 9223372036854775807) : ∀ e, e ∈ l.map intV → isI e := by
  intro e he
  obtain ⟨n, hn, rfl⟩ := List.mem_map.1 he
  exact ⟨n, rfl, h n hn⟩
/-! ### closing -/
def cloG (c : Clo) : Prop := (0 ≤ c.i ∧ c.i ≤ 120) ∧ (0 ≤ c.u ∧ c.u ≤ 500) ∧ (0 ≤ c.p ∧ c.p ≤ 12) ∧ c.cl.length ≤ 5 ∧ ∀ e, e ∈ c.cl → clG e
def okQ (_ : List PV) (c : Clo) : Prop := cloG c
noncomputable def clngS : QSpec := qV Tp preC cloV okQ
theorem w_clngS : QSound GG 8 clngS := by
  unfold clngS
  refine QSound.of_wpcV (C := cxQ Tryz.prog Φ0 Θ6 noΨ [] [9000] 15) 9000 Tryz.func8 rfl rfl rfl (Fit.all (G := GG) hΦ0 hΘ6 hnoΨ mixed) rfl (fun args h => ?_) (fun args h => ?_)
  · obtain rfl := h
    exact ⟨⟨0, 0, 0, []⟩, by simp [okQ, cloG]⟩
  · obtain rfl := h
    refine ⟨by simp [cxQ], ?_⟩
    refine wpc_sound (T := plan0) _ _ _ ?_
    simp only [Θ6, Θ5, preO_eq, okO, loadC_eq, Θ4, Θ3, Θ2, Θ1, nS, preN_eq, preR_eq, preP_eq, preX_eq, preC_eq, okP_eq, okX_eq, okN, okR, okC, arg1, arg2, intV, strV, Nat.reduceBEq, plan0, List.take_succ_cons, List.take_nil, Tryz.underlying2, sz2, by2, ze2, Tryz.underlying3, sz3, by3, ze3, Tryz.underlying9, sz9, by9, ze9, Tryz.underlying22, sz22, by22, ze22, Tryz.underlying26, sz26, by26, ze26, Tryz.underlying28, sz28, by28, ze28, fa28_0, fa28_1, fa28_2, fa28_3, Tryz.underlying31, sz31, by31, ze31, Tryz.underlying40, sz40, by40, ze40, fa40_0, fa40_1, fa40_2, fa40_3, fa40_4, fa40_5, Tryz.f8, go_sem, ↓reduceIte, reduceCtorEq, Nat.reduceEqDiff, Nat.reduceLT, ↓all_qV, Int.reduceToNat, Int.reduceLT, Int.reduceLE, Nat.reduceAdd, Nat.reduceLeDiff, Nat.reduceMul, ev_callG, gcallK_b, gcallK_w, callGc_true, callGc_false]
    refine ⟨isI_map [0, 7, 120] (by decide), fun i hi => ⟨isI_map [0, 30, 500] (by decide), fun u hu => ⟨isI_map [0, 12] (by decide), fun p hp cl hcl => ⟨okC4, ⟨i, u, p, cl⟩, rfl, ?_⟩⟩⟩⟩
    have hi : i = 0 ∨ i = 7 ∨ i = 120 := by simpa using hi
    have hu : u = 0 ∨ u = 30 ∨ u = 500 := by simpa using hu
    have hp : p = 0 ∨ p = 12 := by simpa using hp
    exact ⟨by simp only; omega, by simp only; omega, by simp only; omega, by simp only; omega, hcl.2⟩
noncomputable def Θ7 (g : FuncId) : Option QSpec := putΘ Θ6 8 (qV Tp preC cloV okQ) g
theorem hΘ7 : QTab GG Θ7 := hΘ6.put w_clngS
end Go.AM
