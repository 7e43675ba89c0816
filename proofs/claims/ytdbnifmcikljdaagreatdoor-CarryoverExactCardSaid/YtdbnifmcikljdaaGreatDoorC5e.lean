/-
  A part of a proof: see the last text of this claim for what is proved.
-/
import Derived.Test.YtdbnifmcikljdaaGreatDoorC5d
import Derived.Test.YtdbnifmcikljdaaGreatDoorDM
import Derived.Test.YtdbnifmcikljdaaGreatDoorZMa
namespace Go.AM
open Go Go.Proofs Go.IntWalk
set_option maxRecDepth 100000
set_option maxHeartbeats 1000000
set_option linter.unusedSimpArgs false
set_option linter.unusedVariables false
def preR (args : List PV) : Prop := ∃ a b : Int, args = [.int .i64 a, .int .i64 b] ∧ -1000000000000000 ≤ a ∧ a ≤ b ∧ b ≤ 1000000000000000
theorem preR_eq {a b : Int} : preR [.int .i64 a, .int .i64 b] = (-1000000000000000 ≤ a ∧ a ≤ b ∧ b ≤ 1000000000000000) := propext ⟨fun ⟨a', b', e, h⟩ => by simp only [List.cons.injEq, PV.int.injEq, and_true, true_and] at e; obtain ⟨rfl, rfl⟩ := e; exact h, fun h => ⟨a, b, rfl, h⟩⟩
def okR (args : List PV) (n : Int) : Prop := arg1 args ≤ n ∧ n ≤ arg2 args
noncomputable def rangeS : QSpec := qV Tp preR intV okR
theorem w_rangeS : QSound GG 9 rangeS := by
  unfold rangeS
  refine QSound.of_wpcV (C := cxQ Tryz.prog Φ0 Θ1 noΨ [] [9000] 15) 9000 Tryz.func9 rfl rfl rfl (Fit.all (G := GG) hΦ0 hΘ1 hnoΨ mixed) rfl (fun args h => ?_) (fun args h => ?_)
  · obtain ⟨a, b, rfl, h1, h2, h3⟩ := h
    exact ⟨a, Int.le_refl _, h2⟩
  · obtain ⟨a, b, rfl, h1, h2, h3⟩ := h
    refine ⟨by simp [cxQ], ?_⟩
    refine wpc_sound (T := plan0) _ _ _ ?_
    have hw : IntKind.i64.wrap (IntKind.i64.wrap (b - a) + 1) = b - a + 1 := by rw [i64_in (b - a) (by omega), i64_in _ (by omega)]
    simp only [hw, Θ1, nS, preN_eq, okN, arg1, intV, Tryz.f9, plan0, go_sem, ↓reduceIte, reduceCtorEq, Nat.reduceEqDiff, Nat.reduceLT, ↓all_qV, Int.reduceToNat, Int.reduceLT, Int.reduceLE, Nat.reduceAdd, Nat.reduceLeDiff, Nat.reduceMul]
    refine ⟨⟨by omega, by omega⟩, fun n hn => ⟨_, rfl, ?_⟩⟩
    rw [i64_in _ (by omega)]
    exact ⟨by simp only [arg1]; omega, by simp only [arg2]; omega⟩
noncomputable def Θ2 (g : FuncId) : Option QSpec := putΘ Θ1 9 (qV Tp preR intV okR) g
theorem hΘ2 : QTab GG Θ2 := hΘ1.put w_rangeS
def preP (args : List PV) : Prop := ∃ es, args = [.sl es] ∧ es ≠ [] ∧ es.length ≤ 1000000 ∧ ∀ e, e ∈ es → isI e
theorem preP_eq {es : List PV} : preP [.sl es] = (es ≠ [] ∧ es.length ≤ 1000000 ∧ ∀ e, e ∈ es → isI e) := propext ⟨fun ⟨es', e, h⟩ => by simp only [List.cons.injEq, PV.sl.injEq, and_true] at e; subst e; exact h, fun h => ⟨es, rfl, h⟩⟩
def okP (args : List PV) (n : Int) : Prop := ∃ es, args = [.sl es] ∧ intV n ∈ es
theorem okP_eq {es : List PV} {n : Int} : okP [.sl es] n = (intV n ∈ es) := propext ⟨fun ⟨es', e, h⟩ => by simp only [List.cons.injEq, PV.sl.injEq, and_true] at e; subst e; exact h, fun h => ⟨es, rfl, h⟩⟩
noncomputable def pickS : QSpec := qV Tp preP intV okP
theorem w_pickS : QSound GG 11 pickS := by
  unfold pickS
  refine QSound.of_wpcV (C := cxQ Tryz.prog Φ0 Θ2 noΨ [] [9000] 12) 9000 Tryz.func11 rfl rfl rfl (Fit.all (G := GG) hΦ0 hΘ2 hnoΨ mixed) rfl (fun args h => ?_) (fun args h => ?_)
  · obtain ⟨es, rfl, h1, h2, h3⟩ := h
    cases es with
    | nil => exact absurd rfl h1
    | cons e r =>
      obtain ⟨n, rfl, _⟩ := h3 e List.mem_cons_self
      exact ⟨n, _, rfl, List.mem_cons_self⟩
  · obtain ⟨es, rfl, h1, h2, h3⟩ := h
    refine ⟨by simp [cxQ], ?_⟩
    refine wpc_sound (T := plan0) _ _ _ ?_
    have hpos := List.length_pos_iff.2 h1
    simp only [Θ2, Θ1, nS, preN_eq, okN, arg1, Tryz.underlying3, sz3, by3, ze3, Tryz.underlying22, sz22, by22, ze22, Tryz.underlying29, sz29, by29, ze29, Tryz.f11, plan0, go_sem, ↓reduceIte, reduceCtorEq, Nat.reduceEqDiff, Nat.reduceLT, ↓all_qVs, Int.reduceToNat, Int.reduceLT, Int.reduceLE, Nat.reduceAdd, Nat.reduceLeDiff, Nat.reduceMul]
    refine ⟨⟨by omega, by omega⟩, fun n hn => ?_⟩
    obtain ⟨j, rfl⟩ := Int.eq_ofNat_of_zero_le hn.1
    have hj : j < es.length := by omega
    obtain ⟨m, hm, b1, b2⟩ : ∃ m, es.getD j default = .int .i64 m ∧ .int .i64 m ∈ es ∧ True := by
      have h4 := h3 (es[j]'hj) (List.getElem_mem _)
      obtain ⟨m, e, _⟩ := h4
      exact ⟨m, by simp [List.getD_eq_getElem?_getD, hj, e], by rw [← e]; exact List.getElem_mem _, trivial⟩
    simp only [Later_eq, intV, hm, Tryz.underlying3, sz3, by3, ze3, Tryz.underlying22, sz22, by22, ze22, Tryz.underlying29, sz29, by29, ze29, plan0, go_sem, ↓reduceIte, reduceCtorEq, Nat.reduceEqDiff, Nat.reduceLT, ↓all_qV, Int.reduceToNat, Int.reduceLT, Int.reduceLE, Nat.reduceAdd, Nat.reduceLeDiff, Nat.reduceMul]
    exact ⟨hn, m, rfl, es, rfl, b1⟩
noncomputable def Θ3 (g : FuncId) : Option QSpec := putΘ Θ2 11 (qV Tp preP intV okP) g
theorem hΘ3 : QTab GG Θ3 := hΘ2.put w_pickS
def strV (s : List UInt8) : PV := .str s
def preX (args : List PV) : Prop := ∃ es, args = [.sl es] ∧ es ≠ [] ∧ es.length ≤ 1000000 ∧ ∀ e, e ∈ es → ∃ s, e = strV s
theorem preX_eq {es : List PV} : preX [.sl es] = (es ≠ [] ∧ es.length ≤ 1000000 ∧ ∀ e, e ∈ es → ∃ s, e = strV s) := propext ⟨fun ⟨es', e, h⟩ => by simp only [List.cons.injEq, PV.sl.injEq, and_true] at e; subst e; exact h, fun h => ⟨es, rfl, h⟩⟩
def okX (args : List PV) (s : List UInt8) : Prop := ∃ es, args = [.sl es] ∧ strV s ∈ es
theorem okX_eq {es : List PV} {s : List UInt8} : okX [.sl es] s = (strV s ∈ es) := propext ⟨fun ⟨es', e, h⟩ => by simp only [List.cons.injEq, PV.sl.injEq, and_true] at e; subst e; exact h, fun h => ⟨es, rfl, h⟩⟩
noncomputable def textS : QSpec := qV Tp preX strV okX
theorem w_textS : QSound GG 10 textS := by
  unfold textS
  refine QSound.of_wpcV (C := cxQ Tryz.prog Φ0 Θ3 noΨ [] [9000] 12) 9000 Tryz.func10 rfl rfl rfl (Fit.all (G := GG) hΦ0 hΘ3 hnoΨ mixed) rfl (fun args h => ?_) (fun args h => ?_)
  · obtain ⟨es, rfl, h1, h2, h3⟩ := h
    cases es with
    | nil => exact absurd rfl h1
    | cons e r =>
      obtain ⟨n, rfl⟩ := h3 e List.mem_cons_self
      exact ⟨n, _, rfl, List.mem_cons_self⟩
  · obtain ⟨es, rfl, h1, h2, h3⟩ := h
    refine ⟨by simp [cxQ], ?_⟩
    refine wpc_sound (T := plan0) _ _ _ ?_
    have hpos := List.length_pos_iff.2 h1
    simp only [Θ3, Θ2, Θ1, nS, preN_eq, okN, arg1, Tryz.underlying3, sz3, by3, ze3, Tryz.underlying9, sz9, by9, ze9, Tryz.underlying29, sz29, by29, ze29, Tryz.underlying62, sz62, by62, ze62, Tryz.f10, plan0, go_sem, ↓reduceIte, reduceCtorEq, Nat.reduceEqDiff, Nat.reduceLT, ↓all_qVs, Int.reduceToNat, Int.reduceLT, Int.reduceLE, Nat.reduceAdd, Nat.reduceLeDiff, Nat.reduceMul]
    refine ⟨⟨by omega, by omega⟩, fun n hn => ?_⟩
    obtain ⟨j, rfl⟩ := Int.eq_ofNat_of_zero_le hn.1
    have hj : j < es.length := by omega
    obtain ⟨m, hm, b1⟩ : ∃ m, es.getD j default = .str m ∧ .str m ∈ es := by
      obtain ⟨m, e⟩ := h3 (es[j]'hj) (List.getElem_mem _)
      have e' : es[j] = .str m := e
      exact ⟨m, by simp [List.getD_eq_getElem?_getD, hj, e'], by rw [← e']; exact List.getElem_mem _⟩
    simp only [Later_eq, intV, hm, Tryz.underlying3, sz3, by3, ze3, Tryz.underlying9, sz9, by9, ze9, Tryz.underlying29, sz29, by29, ze29, Tryz.underlying62, sz62, by62, ze62, plan0, go_sem, ↓reduceIte, reduceCtorEq, Nat.reduceEqDiff, Nat.reduceLT, ↓all_qV, Int.reduceToNat, Int.reduceLT, Int.reduceLE, Nat.reduceAdd, Nat.reduceLeDiff, Nat.reduceMul]
    exact ⟨hn, m, rfl, es, rfl, b1⟩
noncomputable def Θ4 (g : FuncId) : Option QSpec := putΘ Θ3 10 (qV Tp preX strV okX) g
theorem hΘ4 : QTab GG Θ4 := hΘ3.put w_textS
def k11 : List UInt8 := [49, 46, 49]
def k12 : List UInt8 := [49, 46, 50]
def k29 : List UInt8 := [50, 46, 57]
def k210 : List UInt8 := [50, 46, 49, 48]
def four : List (List UInt8) := [k11, k12, k29, k210]
def am4 (a : Int) : Prop := a = 1 ∨ a = 20 ∨ a = 70 ∨ a = 100
def opG (i : Nat) (x : Opn) : Prop := (1 ≤ x.o ∧ x.o ≤ 3) ∧ x.c = (i : Int) + 1 ∧ x.k ∈ four ∧ x.y = 3 ∧ am4 x.a
def opsG (l : List Opn) : Prop := ∀ i x, l[i]? = some x → opG i x
def preO (args : List PV) : Prop := ∃ k : Int, args = [.int .i64 k] ∧ 0 ≤ k ∧ k ≤ 100
theorem preO_eq {k : Int} : preO [.int .i64 k] = (0 ≤ k ∧ k ≤ 100) := propext ⟨fun ⟨k', e, h⟩ => by simp only [List.cons.injEq, PV.int.injEq, and_true, true_and] at e; subst e; exact h, fun h => ⟨k, rfl, h⟩⟩
def okO (args : List PV) (l : List Opn) : Prop := (l.length : Int) ≤ arg1 args ∧ opsG l
def opsV (l : List Opn) : PV := .sl (l.map opV)
noncomputable def opensS : QSpec := qV Tp preO opsV okO
theorem opsG_snoc {l : List Opn} {x : Opn} (h : opsG l) (hx : opG l.length x) : opsG (l ++ [x]) := by
  intro i y hi
  rw [List.getElem?_append] at hi
  split at hi
  · exact h i y hi
  · rename_i hlt
    have : i - l.length = 0 := by
      rcases Nat.eq_zero_or_pos (i - l.length) with h0 | h0
      · exact h0
      · rw [List.getElem?_eq_none (by simp; omega)] at hi; cases hi
    rw [this] at hi
    simp at hi
    subst hi
    have : i = l.length := by omega
    rw [this]; exact hx
theorem w_opensS : QSound GG 7 opensS := by
  unfold opensS
  refine QSound.of_wpcV (C := cxQ Tryz.prog Φ0 Θ4 noΨ [] [9000] 31) 9000 Tryz.func7 rfl rfl rfl (Fit.all (G := GG) hΦ0 hΘ4 hnoΨ mixed) rfl (fun args h => ?_) (fun args h => ?_)
  · obtain ⟨k, rfl, h1, h2⟩ := h
    exact ⟨[], by simpa [arg1] using h1, fun i x hx => by simp at hx⟩
  · obtain ⟨k, rfl, h1, h2⟩ := h
    refine ⟨by simp [cxQ], ?_⟩
    refine wpc_sound (T := plan0) _ _ _ ?_
    have hw : IntKind.i64.wrap (k + 1) = k + 1 := i64_in _ (by omega)
    simp only [hw, Θ4, Θ3, Θ2, Θ1, nS, preN_eq, preR_eq, preP_eq, preX_eq, okP_eq, okX_eq, okN, okR, arg1, arg2, intV, strV, Nat.reduceBEq, plan0, Tryz.underlying1, sz1, by1, ze1, Tryz.underlying3, sz3, by3, ze3, Tryz.underlying4, sz4, by4, ze4, Tryz.underlying9, sz9, by9, ze9, Tryz.underlying22, sz22, by22, ze22, Tryz.underlying23, sz23, by23, ze23, Tryz.underlying29, sz29, by29, ze29, Tryz.underlying37, sz37, by37, ze37, fa37_0, fa37_1, fa37_2, fa37_3, fa37_4, Tryz.underlying62, sz62, by62, ze62, Tryz.f7, go_sem, ↓reduceIte, reduceCtorEq, Nat.reduceEqDiff, Nat.reduceLT, ↓all_qV, Int.reduceToNat, Int.reduceLT, Int.reduceLE, Nat.reduceAdd, Nat.reduceLeDiff, Nat.reduceMul]
    refine ⟨⟨by omega, by omega⟩, fun n hn => ?_⟩
    refine AWp.adoptS (s := 5) (κ := 8000) (k := 5) (by simp [look]) rfl (by decide) ?_
    refine AWp.loop (T := plan0) (α := Int × List Opn) (fun z => ([(0, .ptr 9000 0), (5, .rs 8000 z.2.length), (6, .pv (.int .i64 z.1))], [(9000, .obj Tp), (8000, .row 5 (z.2.map opV))])) (fun z => 0 ≤ z.1 ∧ (z.2.length : Int) + z.1 ≤ k ∧ opsG z.2) (fun z => z.1.toNat)
      ⟨(n, []), ⟨by simpa using hn.1, by simp only [List.length_nil]; omega, fun i x hx => by simp at hx⟩, ⟨by simp [fitR, look, upd], by simp [fitH, hget, hset], rfl, rfl, rfl⟩⟩ ?_
    rintro ⟨i, l⟩ ⟨g1, g2, g3⟩
    simp only at g1 g2 g3
    have hi1 : 0 < i → IntKind.i64.wrap (i - 1) = i - 1 := fun _ => i64_in _ (by omega)
    have hl1 : IntKind.i64.wrap ((l.length : Int) + 1) = (l.length : Int) + 1 := i64_in _ (by omega)
    have tk : (l.map opV).take l.length = l.map opV := List.take_of_length_le (by simp)
    by_cases hlt : 0 < i
    · have c0 : decide (0 < i) = true := by simp; exact hlt
      simp only [c0, hi1 hlt, hl1, tk, List.length_map, Θ4, Θ3, Θ2, Θ1, nS, preN_eq, preR_eq, preP_eq, preX_eq, okP_eq, okX_eq, okN, okR, arg1, arg2, intV, strV, Nat.reduceBEq, plan0, Tryz.underlying1, sz1, by1, ze1, Tryz.underlying3, sz3, by3, ze3, Tryz.underlying4, sz4, by4, ze4, Tryz.underlying9, sz9, by9, ze9, Tryz.underlying22, sz22, by22, ze22, Tryz.underlying23, sz23, by23, ze23, Tryz.underlying29, sz29, by29, ze29, Tryz.underlying37, sz37, by37, ze37, fa37_0, fa37_1, fa37_2, fa37_3, fa37_4, Tryz.underlying62, sz62, by62, ze62, go_sem, ↓reduceIte, reduceCtorEq, Nat.reduceEqDiff, Nat.reduceLT, ↓all_qV, Int.reduceToNat, Int.reduceLT, Int.reduceLE, Nat.reduceAdd, Nat.reduceLeDiff, Nat.reduceMul, ev_callG, gcallK_b, gcallK_w, callGc_true, callGc_false]
      intro x hx
      refine ⟨fun e he => ?_, fun s hs => ⟨fun e he => ?_, fun m hm => ?_⟩⟩
      · simp only [List.mem_cons, List.not_mem_nil, or_false] at he
        rcases he with rfl | rfl | rfl | rfl <;> exact ⟨_, rfl⟩
      · simp only [List.mem_cons, List.not_mem_nil, or_false] at he
        rcases he with rfl | rfl | rfl | rfl <;> exact ⟨_, rfl, by decide, by decide⟩
      have hs4 : s ∈ four := by simpa [four, k11, k12, k29, k210] using hs
      have hm4 : am4 m := by simpa [am4] using hm
      refine ⟨rfl, fun e he => by simp only [List.mem_singleton] at he; subst he; rfl, Nat.le_refl _, by omega, by simp only [maxLen]; omega, (i - 1, l ++ [⟨x, (l.length : Int) + 1, s, 3, m⟩]), ⟨by simp only; omega, by simp only [List.length_append, List.length_cons, List.length_nil]; omega, opsG_snoc g3 ⟨hx, rfl, hs4, rfl, hm4⟩⟩, by simp only; omega, ⟨by simp [fitR, look], by simp [fitH, hget, opV], rfl, rfl, rfl⟩⟩
    · have c0 : decide (0 < i) = false := by simp; omega
      simp only [c0, hl1, tk, List.length_map, Θ4, Θ3, Θ2, Θ1, nS, preN_eq, preR_eq, preP_eq, preX_eq, okP_eq, okX_eq, okN, okR, arg1, arg2, intV, strV, Nat.reduceBEq, plan0, Tryz.underlying1, sz1, by1, ze1, Tryz.underlying3, sz3, by3, ze3, Tryz.underlying4, sz4, by4, ze4, Tryz.underlying9, sz9, by9, ze9, Tryz.underlying22, sz22, by22, ze22, Tryz.underlying23, sz23, by23, ze23, Tryz.underlying29, sz29, by29, ze29, Tryz.underlying37, sz37, by37, ze37, fa37_0, fa37_1, fa37_2, fa37_3, fa37_4, Tryz.underlying62, sz62, by62, ze62, go_sem, ↓reduceIte, reduceCtorEq, Nat.reduceEqDiff, Nat.reduceLT, ↓all_qV, Int.reduceToNat, Int.reduceLT, Int.reduceLE, Nat.reduceAdd, Nat.reduceLeDiff, Nat.reduceMul, ev_callG, gcallK_b, gcallK_w, callGc_true, callGc_false]
      exact ⟨Nat.le_refl _, l, rfl, by simp only [arg1]; omega, g3⟩
noncomputable def Θ5 (g : FuncId) : Option QSpec := putΘ Θ4 7 (qV Tp preO opsV okO) g
theorem hΘ5 : QTab GG Θ5 := hΘ4.put w_opensS
def amL (a : Int) : Prop := a = 0 ∨ a = 10 ∨ a = 90 ∨ a = 300
def lfG (left : List Lft) : Prop := (left.map Lft.k).Sublist four ∧ ∀ x, x ∈ left → amL x.a
def preL (args : List PV) : Prop := args = []
theorem preL_eq : preL [] = True := propext ⟨fun _ => trivial, fun _ => rfl⟩
def okL (_ : List PV) (left : List Lft) : Prop := lfG left
def lfsV (l : List Lft) : PV := .sl (l.map lfV)
noncomputable def leftsS : QSpec := qV Tp preL lfsV okL
theorem four_idx {i : Nat} (h : i < 4) : [PV.str k11, PV.str k12, PV.str k29, PV.str k210].getD i default = .str (four.getD i []) ∧ four.take (i + 1) = four.take i ++ [four.getD i []] := by
  have : i = 0 ∨ i = 1 ∨ i = 2 ∨ i = 3 := by omega
  rcases this with rfl | rfl | rfl | rfl <;> exact ⟨rfl, rfl⟩
theorem w_leftsS : QSound GG 8 leftsS := by
  unfold leftsS
  refine QSound.of_wpcV (C := cxQ Tryz.prog Φ0 Θ4 noΨ [] [9000] 23) 9000 Tryz.func8 rfl rfl rfl (Fit.all (G := GG) hΦ0 hΘ4 hnoΨ mixed) rfl (fun args h => ?_) (fun args h => ?_)
  · obtain rfl := h
    exact ⟨[], List.nil_sublist _, fun x hx => by cases hx⟩
  · obtain rfl := h
    refine ⟨by simp [cxQ], ?_⟩
    refine wpc_sound (T := plan0) _ _ _ ?_
    simp only [Θ4, Θ3, Θ2, Θ1, nS, preN_eq, preR_eq, preP_eq, preX_eq, okP_eq, okX_eq, okN, okR, arg1, arg2, intV, strV, Nat.reduceBEq, plan0, Tryz.underlying1, sz1, by1, ze1, Tryz.underlying3, sz3, by3, ze3, Tryz.underlying4, sz4, by4, ze4, Tryz.underlying9, sz9, by9, ze9, Tryz.underlying22, sz22, by22, ze22, Tryz.underlying24, sz24, by24, ze24, Tryz.underlying29, sz29, by29, ze29, Tryz.underlying40, sz40, by40, ze40, fa40_0, fa40_1, Tryz.underlying61, sz61, by61, ze61, Tryz.f8, go_sem, ↓reduceIte, reduceCtorEq, Nat.reduceEqDiff, Nat.reduceLT, ↓all_qV, Int.reduceToNat, Int.reduceLT, Int.reduceLE, Nat.reduceAdd, Nat.reduceLeDiff, Nat.reduceMul]
    refine AWp.adoptS (s := 3) (κ := 8000) (k := 2) (by simp [look]) rfl (by decide) ?_
    refine AWp.loop (T := plan0) (α := Nat × List Lft) (fun z => ([(0, .ptr 9000 0), (3, .rs 8000 z.2.length), (6, .pv (.agg [.str k11, .str k12, .str k29, .str k210])), (7, .pv (.int .i64 z.1))], [(9000, .obj Tp), (8000, .row 2 (z.2.map lfV))])) (fun z => z.1 ≤ 4 ∧ z.2.length ≤ z.1 ∧ (z.2.map Lft.k).Sublist (four.take z.1) ∧ ∀ x, x ∈ z.2 → amL x.a) (fun z => 4 - z.1)
      ⟨(0, []), ⟨by simp, by simp, List.nil_sublist _, fun x hx => by cases hx⟩, ⟨by simp [fitR, look, upd, k11, k12, k29, k210], by simp [fitH, hget, hset], rfl, rfl, rfl⟩⟩ ?_
    rintro ⟨i, l⟩ ⟨g1, g2, g3, g4⟩
    simp only at g1 g2 g3 g4
    have hi1 : IntKind.i64.wrap ((i : Int) + 1) = ((i + 1 : Nat) : Int) := by rw [i64_in _ (by omega)]; omega
    have tk : (l.map lfV).take l.length = l.map lfV := List.take_of_length_le (by simp)
    by_cases hlt : i < 4
    · have c0 : decide ((i : Int) < 4) = true := by simp; omega
      obtain ⟨e1, e2⟩ := four_idx hlt
      have s1 : (l.map Lft.k ++ [four.getD i []]).Sublist (four.take (i + 1)) := by rw [e2]; exact g3.append (List.Sublist.refl _)
      have s2 : (l.map Lft.k).Sublist (four.take (i + 1)) := by rw [e2]; exact g3.trans (List.sublist_append_left _ _)
      generalize four.getD i [] = s at e1 s1
      simp only [c0, e1, hi1, tk, Nat.mul_one, indexA, Int.toNat_natCast, List.length_map, Θ4, Θ3, Θ2, Θ1, nS, preN_eq, preR_eq, preP_eq, preX_eq, okP_eq, okX_eq, okN, okR, arg1, arg2, intV, strV, Nat.reduceBEq, plan0, Tryz.underlying1, sz1, by1, ze1, Tryz.underlying3, sz3, by3, ze3, Tryz.underlying4, sz4, by4, ze4, Tryz.underlying9, sz9, by9, ze9, Tryz.underlying22, sz22, by22, ze22, Tryz.underlying24, sz24, by24, ze24, Tryz.underlying29, sz29, by29, ze29, Tryz.underlying40, sz40, by40, ze40, fa40_0, fa40_1, Tryz.underlying61, sz61, by61, ze61, go_sem, ↓reduceIte, reduceCtorEq, Nat.reduceEqDiff, Nat.reduceLT, ↓all_qV, Int.reduceToNat, Int.reduceLT, Int.reduceLE, Nat.reduceAdd, Nat.reduceLeDiff, Nat.reduceMul, ev_callG, gcallK_b, gcallK_w, callGc_true, callGc_false]
      refine ⟨⟨by omega, by omega, by omega⟩, fun n hn => ⟨fun c1 => ⟨fun e he => ?_, fun m hm => ?_⟩, fun c1 => ?_⟩⟩
      · simp only [List.mem_cons, List.not_mem_nil, or_false] at he
        rcases he with rfl | rfl | rfl | rfl <;> exact ⟨_, rfl, by decide, by decide⟩
      · have hm4 : amL m := by simpa [amL] using hm
        exact ⟨rfl, fun e he => by simp only [List.mem_singleton] at he; subst he; rfl, Nat.le_refl _, by omega, by simp only [maxLen]; omega, (i + 1, l ++ [⟨s, m⟩]), ⟨by simp only; omega, by simp only [List.length_append, List.length_cons, List.length_nil]; omega, by simp only [List.map_append]; exact s1, fun x hx => by
          rcases List.mem_append.1 hx with h | h
          · exact g4 x h
          · simp only [List.mem_singleton] at h; subst h; exact hm4⟩, by simp only; omega, ⟨by simp [fitR, look], by simp [fitH, hget, lfV], rfl, rfl, rfl⟩⟩
      · exact ⟨(i + 1, l), ⟨by simp only; omega, by simp only; omega, s2, g4⟩, by simp only; omega, ⟨by simp [fitR, look], by simp [fitH, hget], rfl, rfl, rfl⟩⟩
    · have c0 : decide ((i : Int) < 4) = false := by simp; omega
      simp only [c0, tk, List.length_map, Θ4, Θ3, Θ2, Θ1, nS, preN_eq, preR_eq, preP_eq, preX_eq, okP_eq, okX_eq, okN, okR, arg1, arg2, intV, strV, Nat.reduceBEq, plan0, Tryz.underlying1, sz1, by1, ze1, Tryz.underlying3, sz3, by3, ze3, Tryz.underlying4, sz4, by4, ze4, Tryz.underlying9, sz9, by9, ze9, Tryz.underlying22, sz22, by22, ze22, Tryz.underlying24, sz24, by24, ze24, Tryz.underlying29, sz29, by29, ze29, Tryz.underlying40, sz40, by40, ze40, fa40_0, fa40_1, Tryz.underlying61, sz61, by61, ze61, go_sem, ↓reduceIte, reduceCtorEq, Nat.reduceEqDiff, Nat.reduceLT, ↓all_qV, Int.reduceToNat, Int.reduceLT, Int.reduceLE, Nat.reduceAdd, Nat.reduceLeDiff, Nat.reduceMul, ev_callG, gcallK_b, gcallK_w, callGc_true, callGc_false]
      rw [List.take_of_length_le (show four.length ≤ i by simp [four]; omega)] at g3
      exact ⟨Nat.le_refl _, l, rfl, g3, g4⟩
noncomputable def Θ6 (g : FuncId) : Option QSpec := putΘ Θ5 8 (qV Tp preL lfsV okL) g
theorem hΘ6 : QTab GG Θ6 := hΘ5.put w_leftsS
end Go.AM
