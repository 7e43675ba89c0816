/-
  A part of a proof: see the last text of this claim for what is proved.
-/
import Derived.Test.YthdlbokgbkejnaaGreatDoorA4
import Derived.Test.YthdlbokgbkejnaaGreatDoorPN
import Derived.Test.YthdlbokgbkejnaaGreatDoorZMa
namespace Go.AM
open Go Go.Proofs Go.IntWalk
set_option maxRecDepth 100000
set_option maxHeartbeats 2000000
set_option linter.unusedSimpArgs false
set_option linter.unusedVariables false
theorem preP_eq {es : List PV} : preP [.sl es] = (es ≠ [] ∧ es.length ≤ 1000000 ∧ ∀ e, e ∈ es → isI e) := propext ⟨fun ⟨es', e, h⟩ => by simp only [List.cons.injEq, PV.sl.injEq, and_true] at e; subst e; exact h, fun h => ⟨es, rfl, h⟩⟩
theorem okP_eq {es : List PV} {n : Int} : okP [.sl es] n = (PV.int .i64 n ∈ es) := propext ⟨fun ⟨es', e, h⟩ => by simp only [List.cons.injEq, PV.sl.injEq, and_true] at e; subst e; exact h, fun h => ⟨es, rfl, h⟩⟩
def preC (args : List PV) : Prop := args = []
theorem preC_eq : preC [] = True := propext ⟨fun _ => trivial, fun _ => rfl⟩
def okC (_ : List PV) (s : List UInt8) : Prop := s.length ≤ 100
def shortP : PV → Bool
  | .str x => decide (x.length ≤ 100)
  | _ => false
theorem strs_at {ws : List PV} {j : Nat} (h : ws.all shortP = true) (hj : j < ws.length) : ∃ x, ws.getD j default = .str x ∧ x.length ≤ 100 := by
  have hm := getD_mem hj
  have := List.all_eq_true.1 h _ hm
  revert this
  cases ws.getD j default with
  | str x => exact fun h => ⟨x, rfl, by simpa [shortP] using h⟩
  | _ => intro h; cases h
def badL : List PV := [PV.str [], PV.str [48], PV.str [48, 49], PV.str [49, 46], PV.str [46, 49], PV.str [49, 46, 46, 50], PV.str [49, 48, 48], PV.str [49, 46, 50, 46, 51, 46, 52, 46, 53], PV.str [120], PV.str [49, 32], PV.str [57, 57, 46, 57, 57, 46, 57, 57, 46, 57, 57], PV.str [52]]
noncomputable def badQ : QSpec := qV Tp preC strV okC
theorem w_badQ : QSound GG 9 badQ := by
  unfold badQ
  refine QSound.of_wpcV (C := cxQ Tryz.prog Φ0 Θ5 noΨ [] [9000] 8) 9000 Tryz.func9 rfl rfl rfl (Fit.all (G := GG) hΦ0 hΘ5 hnoΨ mixed) rfl (fun args h => ?_) (fun args h => ?_)
  · obtain rfl := h
    exact ⟨[], by show ([] : List UInt8).length ≤ 100; simp⟩
  · obtain rfl := h
    refine ⟨by simp [cxQ], ?_⟩
    refine wpc_sound (T := plan0) _ _ _ ?_
    simp only [Θ5, Θ4, Θ3, Θ2, Θ1, nS, pickS, preN_eq, preP_eq, okP_eq, okN, arg1, arg2, intV, strV, slV, Nat.reduceBEq, plan0, List.take_succ_cons, List.take_nil, Tryz.underlying3, sz3, by3, ze3, Tryz.underlying9, sz9, by9, ze9, Tryz.underlying12, sz12, by12, ze12, Tryz.underlying29, sz29, by29, ze29, Tryz.underlying34, sz34, by34, ze34, Tryz.f9, plan0, go_sem, ↓reduceIte, reduceCtorEq, Nat.reduceEqDiff, Nat.reduceLT, ↓all_qV, Int.reduceToNat, Int.reduceLT, Int.reduceLE, Nat.reduceAdd, Nat.reduceLeDiff, Nat.reduceMul, ev_callG, gcallK_b, gcallK_w, callGc_true, callGc_false]
    intro n hn
    obtain ⟨j, rfl⟩ := Int.eq_ofNat_of_zero_le hn.1
    obtain ⟨x, hx, hxl⟩ := strs_at (ws := badL) (j := j) (by decide +kernel) (by show j < 12; omega)
    simp only [badL] at hx
    rw [Int.toNat_natCast, hx]
    exact ⟨⟨hn.1, hn.2, rfl⟩, Nat.le_refl _, x, rfl, hxl⟩
noncomputable def Θ6 (g : FuncId) : Option QSpec := putΘ Θ5 9 (qV Tp preC strV okC) g
theorem hΘ6 : QTab GG Θ6 := hΘ5.put w_badQ
def preCd (args : List PV) : Prop := ∃ l, args = [.sl l] ∧ treeP l ∧ l ≠ []
theorem preCd_eq {l : List PV} : preCd [.sl l] = (treeP l ∧ l ≠ []) := propext ⟨fun ⟨l', e, h⟩ => by simp only [List.cons.injEq, PV.sl.injEq, and_true] at e; subst e; exact h, fun h => ⟨l, rfl, h⟩⟩
noncomputable def codeQ : QSpec := qV Tp preCd strV okC
theorem w_codeQ : QSound GG 8 codeQ := by
  unfold codeQ
  refine QSound.of_wpcV (C := cxQ Tryz.prog Φ0 Θ6 noΨ [] [9000] 23) 9000 Tryz.func8 rfl rfl rfl (Fit.all (G := GG) hΦ0 hΘ6 hnoΨ mixed) rfl (fun args h => ?_) (fun args h => ?_)
  · exact ⟨[], by show ([] : List UInt8).length ≤ 100; simp⟩
  · obtain ⟨l, rfl, hl, hne⟩ := h
    have hl1 := hl.1
    refine ⟨by simp [cxQ], ?_⟩
    refine wpc_sound (T := plan0) _ _ _ ?_
    have h0 : l.length ≠ 0 := fun h => hne (List.eq_nil_of_length_eq_zero h)
    have c0 : ((l.length : Int) == 0) = false := by simpa using h0
    simp only [Θ6, preC_eq, c0, Bool.not_false, callGc_true, Θ5, Θ4, Θ3, Θ2, Θ1, nS, pickS, preN_eq, preP_eq, okP_eq, okN, arg1, arg2, intV, strV, slV, Nat.reduceBEq, plan0, List.take_succ_cons, List.take_nil, Tryz.underlying3, sz3, by3, ze3, Tryz.underlying4, sz4, by4, ze4, Tryz.underlying9, sz9, by9, ze9, Tryz.underlying23, sz23, by23, ze23, Tryz.underlying29, sz29, by29, ze29, Tryz.underlying60, sz60, by60, ze60, fa60_0, fa60_1, Tryz.f8, plan0, go_sem, ↓reduceIte, reduceCtorEq, Nat.reduceEqDiff, Nat.reduceLT, ↓all_qV, Int.reduceToNat, Int.reduceLT, Int.reduceLE, Nat.reduceAdd, Nat.reduceLeDiff, Nat.reduceMul, ev_callG, gcallK_b, gcallK_w, callGc_true, callGc_false]
    intro n hn
    refine ⟨fun _ x hx => ⟨x, rfl, hx⟩, fun _ => ⟨⟨by omega, by omega⟩, fun k hk => ?_⟩⟩
    obtain ⟨j, rfl⟩ := Int.eq_ofNat_of_zero_le hk.1
    obtain ⟨c, nm, he, hc⟩ := hl.2 _ (getD_mem (show j < l.length by omega))
    have he3 : l.getD j default = .agg [.str c, .str nm] := he
    rw [Int.toNat_natCast, he3]
    exact ⟨⟨hk.1, hk.2, rfl⟩, by show 1 ≤ 2; decide, c, rfl, hc⟩
noncomputable def Θ7 (g : FuncId) : Option QSpec := putΘ Θ6 8 (qV Tp preCd strV okC) g
theorem hΘ7 : QTab GG Θ7 := hΘ6.put w_codeQ
def isLq (e : PV) : Prop := ∃ c y a, e = lnV c y a ∧ c.length ≤ 100
theorem isLq.isL {e : PV} (h : isLq e) : isL e := by obtain ⟨c, y, a, e1, h1⟩ := h; exact ⟨c, y, a, e1, by omega⟩
def preLn (args : List PV) : Prop := ∃ l, args = [.sl l, .int .i64 3, .int .i64 2, .int .i64 12] ∧ treeP l ∧ l ≠ []
theorem preLn_eq {l : List PV} : preLn [.sl l, .int .i64 3, .int .i64 2, .int .i64 12] = (treeP l ∧ l ≠ []) := propext ⟨fun ⟨l', e, h⟩ => by simp only [List.cons.injEq, PV.sl.injEq, and_true] at e; subst e; exact h, fun h => ⟨l, rfl, h⟩⟩
def okLn (_ : List PV) (es : List PV) : Prop := es.length ≤ 12 ∧ ∀ e, e ∈ es → isLq e
noncomputable def linesQ : QSpec := qV Tp preLn slV okLn
theorem w_linesQ : QSound GG 32 linesQ := by
  unfold linesQ
  refine QSound.of_wpcV (C := cxQ Tryz.prog Φ0 Θ7 noΨ [] [9000] 42) 9000 Tryz.func32 rfl rfl rfl (Fit.all (G := GG) hΦ0 hΘ7 hnoΨ mixed) rfl (fun args h => ?_) (fun args h => ?_)
  · exact ⟨[], by unfold okLn; simp⟩
  · obtain ⟨l, rfl, hl, hne⟩ := h
    refine ⟨by simp [cxQ], ?_⟩
    refine wpc_sound (T := plan0) _ _ _ ?_
    have w1 : IntKind.i64.wrap (12 + 1) = 13 := by decide
    have w2 : IntKind.i64.wrap (2 + 1) = 3 := by decide
    simp only [w1, Θ7, Θ6, preC_eq, preCd_eq, Θ5, Θ4, Θ3, Θ2, Θ1, nS, pickS, preN_eq, preP_eq, okP_eq, okN, arg1, arg2, intV, strV, slV, Nat.reduceBEq, plan0, List.take_succ_cons, List.take_nil, Tryz.underlying1, sz1, by1, ze1, Tryz.underlying3, sz3, by3, ze3, Tryz.underlying4, sz4, by4, ze4, Tryz.underlying9, sz9, by9, ze9, Tryz.underlying22, sz22, by22, ze22, Tryz.underlying23, sz23, by23, ze23, Tryz.underlying24, sz24, by24, ze24, Tryz.underlying28, sz28, by28, ze28, fa28_0, fa28_1, fa28_2, Tryz.underlying29, sz29, by29, ze29, Tryz.underlying60, sz60, by60, ze60, fa60_0, fa60_1, Tryz.f32, plan0, go_sem, ↓reduceIte, reduceCtorEq, Nat.reduceEqDiff, Nat.reduceLT, ↓all_qV, Int.reduceToNat, Int.reduceLT, Int.reduceLE, Nat.reduceAdd, Nat.reduceLeDiff, Nat.reduceMul, ev_callG, gcallK_b, gcallK_w, callGc_true, callGc_false]
    intro n hn
    refine AWp.adoptS (s := 11) (κ := 8000) (k := 3) (by simp [look, upd]) rfl (by decide) ?_
    refine AWp.loop (T := plan0) (α := Int × List PV) (fun z => ([(0, .ptr 9000 0), (1, .pv (.sl l)), (2, .pv (.int .i64 3)), (3, .pv (.int .i64 2)), (11, .rs 8000 z.2.length), (12, .pv (.int .i64 z.1))], [(9000, .obj Tp), (8000, .row 3 z.2)])) (fun z => 0 ≤ z.1 ∧ (z.2.length : Int) + z.1 ≤ 12 ∧ ∀ e, e ∈ z.2 → isLq e) (fun z => z.1.toNat)
      ⟨(n, []), ⟨by simpa using hn.1, by simp only [List.length_nil]; omega, fun e he => (by cases he)⟩, ⟨by simp [fitR, look, upd], by simp [fitH, hget, hset], rfl, rfl, rfl⟩⟩ ?_
    rintro ⟨i, ls⟩ ⟨g1, g2, g3⟩
    simp only at g1 g2 g3
    have hi1 : 0 < i → IntKind.i64.wrap (i - 1) = i - 1 := fun _ => i64_in _ (by omega)
    have tk : ls.take ls.length = ls := List.take_length
    by_cases hlt : 0 < i
    · have c0 : decide (0 < i) = true := by simp; exact hlt
      simp only [c0, w2, hi1 hlt, tk, Θ7, Θ6, preC_eq, preCd_eq, Θ5, Θ4, Θ3, Θ2, Θ1, nS, pickS, preN_eq, preP_eq, okP_eq, okN, arg1, arg2, intV, strV, slV, Nat.reduceBEq, plan0, List.take_succ_cons, List.take_nil, Tryz.underlying1, sz1, by1, ze1, Tryz.underlying3, sz3, by3, ze3, Tryz.underlying4, sz4, by4, ze4, Tryz.underlying9, sz9, by9, ze9, Tryz.underlying22, sz22, by22, ze22, Tryz.underlying23, sz23, by23, ze23, Tryz.underlying24, sz24, by24, ze24, Tryz.underlying28, sz28, by28, ze28, fa28_0, fa28_1, fa28_2, Tryz.underlying29, sz29, by29, ze29, Tryz.underlying60, sz60, by60, ze60, fa60_0, fa60_1, go_sem, ↓reduceIte, reduceCtorEq, Nat.reduceEqDiff, Nat.reduceLT, ↓all_qV, Int.reduceToNat, Int.reduceLT, Int.reduceLE, Nat.reduceAdd, Nat.reduceLeDiff, Nat.reduceMul, ev_callG, gcallK_b, gcallK_w, callGc_true, callGc_false]
      refine ⟨⟨hl, hne⟩, fun c hc y hy a ha b hb => ⟨fun e he => ?_, fun v hv => ⟨rfl, fun e he => by rw [List.mem_singleton] at he; subst he; rfl, Nat.le_refl _, by omega, by simp only [maxLen]; omega, (i - 1, ls ++ [lnV c (IntKind.i64.wrap (3 + y)) v]), ⟨by simp only; omega, by simp only [List.length_append, List.length_cons, List.length_nil]; omega, fun e he => ?_⟩, by simp only; omega, ⟨by simp [fitR, look], by simp [fitH, hget, lnV], rfl, rfl, rfl⟩⟩⟩⟩
      · simp only [List.mem_cons, List.not_mem_nil, or_false] at he
        rcases he with rfl | rfl | rfl | rfl <;> exact ⟨_, rfl, by omega, by omega⟩
      · rcases List.mem_append.1 he with he | he
        · exact g3 e he
        · rw [List.mem_singleton] at he; exact ⟨_, _, _, he, hc⟩
    · have c0 : decide (0 < i) = false := by simp; omega
      simp only [c0, tk, Θ7, Θ6, preC_eq, preCd_eq, Θ5, Θ4, Θ3, Θ2, Θ1, nS, pickS, preN_eq, preP_eq, okP_eq, okN, arg1, arg2, intV, strV, slV, Nat.reduceBEq, plan0, List.take_succ_cons, List.take_nil, Tryz.underlying1, sz1, by1, ze1, Tryz.underlying3, sz3, by3, ze3, Tryz.underlying4, sz4, by4, ze4, Tryz.underlying9, sz9, by9, ze9, Tryz.underlying22, sz22, by22, ze22, Tryz.underlying23, sz23, by23, ze23, Tryz.underlying24, sz24, by24, ze24, Tryz.underlying28, sz28, by28, ze28, fa28_0, fa28_1, fa28_2, Tryz.underlying29, sz29, by29, ze29, Tryz.underlying60, sz60, by60, ze60, fa60_0, fa60_1, go_sem, ↓reduceIte, reduceCtorEq, Nat.reduceEqDiff, Nat.reduceLT, ↓all_qV, Int.reduceToNat, Int.reduceLT, Int.reduceLE, Nat.reduceAdd, Nat.reduceLeDiff, Nat.reduceMul, ev_callG, gcallK_b, gcallK_w, callGc_true, callGc_false]
      exact ⟨Nat.le_refl _, ls, rfl, by omega, g3⟩
noncomputable def Θ8 (g : FuncId) : Option QSpec := putΘ Θ7 32 (qV Tp preLn slV okLn) g
theorem hΘ8 : QTab GG Θ8 := hΘ7.put w_linesQ
def preSp (args : List PV) : Prop := ∃ (x : List UInt8) (ws : List (List UInt8)), args = [.str x, .sl (ws.map PV.str)] ∧ x.length ≤ 20000 ∧ ws ≠ [] ∧ ws.length ≤ 1000 ∧ ∀ w, w ∈ ws → w.length ≤ 100
def okSp (args : List PV) (s : List UInt8) : Prop := s.length ≤ 50000
noncomputable def spoiltS : QSpec := qV Tp preSp strV okSp
theorem w_spoiltS : QSound GG 35 spoiltS := by
  unfold spoiltS
  refine QSound.of_wpcV (C := cxQ Tryz.prog Φ0 Θ8 noΨ [] [9000] 36) 9000 Tryz.func35 rfl rfl rfl (Fit.all (G := GG) hΦ0 hΘ8 hnoΨ mixed) rfl (fun args h => ?_) (fun args h => ?_)
  · obtain ⟨x, ws, rfl, h1, h2, h3, h4⟩ := h
    exact ⟨[], Nat.zero_le _⟩
  · obtain ⟨x, ws, rfl, h1, h2, h3, h4⟩ := h
    refine ⟨by simp [cxQ], ?_⟩
    refine wpc_sound (T := plan0) _ _ _ ?_
    have hpos := List.length_pos_iff.2 h2
    have hw1 : IntKind.i64.wrap ((x.length : Int) + 1) = (x.length : Int) + 1 := i64_in _ (by omega)
    simp only [hw1, Θ8, Θ7, Θ6, Θ5, Θ4, Θ3, Θ2, Θ1, nS, preN_eq, okN, arg1, List.length_map, Tryz.underlying3, sz3, by3, ze3, Tryz.underlying9, sz9, by9, ze9, Tryz.underlying29, sz29, by29, ze29, Tryz.underlying34, sz34, by34, ze34, Tryz.f35, plan0, go_sem, ↓reduceIte, reduceCtorEq, Nat.reduceEqDiff, Nat.reduceLT, ↓all_qVs, Int.reduceToNat, Int.reduceLT, Int.reduceLE, Nat.reduceAdd, Nat.reduceLeDiff, Nat.reduceMul]
    refine ⟨⟨by omega, by omega⟩, fun n hn => ?_⟩
    obtain ⟨k, rfl⟩ := Int.eq_ofNat_of_zero_le hn.1
    have hk : k ≤ x.length := by omega
    simp only [Later_eq]
    refine ⟨⟨by omega, by omega⟩, fun n2 hn2 => ?_⟩
    obtain ⟨j, rfl⟩ := Int.eq_ofNat_of_zero_le hn2.1
    have hj : j < ws.length := by omega
    have hm := getD_strs hj
    have hwl : (ws.getD j []).length ≤ 100 := h4 _ (by rw [List.getD_eq_getElem?_getD, List.getElem?_eq_getElem hj]; exact List.getElem_mem _)
    generalize ws.getD j [] = w at hm hwl
    simp only [Later_eq, intV, hm, Θ8, Θ7, Θ6, Θ5, Θ4, Θ3, Θ2, Θ1, nS, preN_eq, okN, arg1, List.length_map, Tryz.underlying3, sz3, by3, ze3, Tryz.underlying9, sz9, by9, ze9, Tryz.underlying29, sz29, by29, ze29, Tryz.underlying34, sz34, by34, ze34, plan0, go_sem, ↓reduceIte, reduceCtorEq, Nat.reduceEqDiff, Nat.reduceLT, ↓all_qVs, Int.reduceToNat, Int.reduceLT, Int.reduceLE, Nat.reduceAdd, Nat.reduceLeDiff, Nat.reduceMul]
    refine ⟨⟨by omega, by omega⟩, by kernel_rfl, ⟨by omega, by omega⟩, by rw [List.length_take]; omega, fun m hm3 => ?_⟩
    have hw2 : IntKind.i64.wrap ((k : Int) + m) = (k : Int) + m := i64_in _ (by omega)
    rw [hw2]
    have hlen : (x.take k ++ w).length ≤ 20100 := by rw [List.length_append, List.length_take]; omega
    have hdl : ∀ z, (List.drop z (List.take x.length x)).length ≤ 20000 := fun z => by rw [List.length_drop, List.length_take]; omega
    refine ⟨⟨by split <;> omega, by split <;> omega⟩, ?_, _, rfl, ?_⟩
    · have := hdl ((if (k : Int) + m < (x.length : Int) then (k : Int) + m else (x.length : Int)).toNat)
      omega
    · have := hdl ((if (k : Int) + m < (x.length : Int) then (k : Int) + m else (x.length : Int)).toNat)
      simp only [okSp]
      rw [List.length_append]
      omega
noncomputable def Θ9 (g : FuncId) : Option QSpec := putΘ Θ8 35 (qV Tp preSp strV okSp) g
theorem hΘ9 : QTab GG Θ9 := hΘ8.put w_spoiltS
end Go.AM
namespace Go.AM
open Go Go.Proofs Go.IntWalk
set_option maxRecDepth 100000
set_option maxHeartbeats 4000000
set_option linter.unusedSimpArgs false
set_option linter.unusedVariables false
def isHq (e : PV) : Prop := ∃ c n, e = hV c n ∧ c.length ≤ 200 ∧ n.length ≤ 200
def okBt (_ : List PV) (es : List PV) : Prop := es.length ≤ 101 ∧ ∀ e, e ∈ es → isHq e
def preBt (args : List PV) : Prop := ∃ l, args = [.sl l] ∧ (l.length ≤ 60 ∧ ∀ e, e ∈ l → isHq e) ∧ l ≠ []
theorem preBt_eq {l : List PV} : preBt [.sl l] = ((l.length ≤ 60 ∧ ∀ e, e ∈ l → isHq e) ∧ l ≠ []) := propext ⟨fun ⟨l', e, h⟩ => by simp only [List.cons.injEq, PV.sl.injEq, and_true] at e; subst e; exact h, fun h => ⟨l, rfl, h⟩⟩
theorem take_set_ok {l : List PV} {j : Nat} {e : PV} {args : List PV} (hl : l.length ≤ 60) (hq : ∀ e, e ∈ l → isHq e) (he : isHq e) : okBt args (List.take l.length (l.set j e)) := by
  rw [List.take_of_length_le (by simp)]
  refine ⟨by rw [List.length_set]; omega, fun x hx => ?_⟩
  rcases List.mem_or_eq_of_mem_set hx with h | h
  · exact hq x h
  · rw [h]; exact he
theorem getD_set_ne {l : List PV} {i j : Nat} {e : PV} (h : i ≠ j) : (l.set i e).getD j default = l.getD j default := by
  simp [List.getD_eq_getElem?_getD, List.getElem?_set, h]
theorem code1 (i : Int) : (codeF [i]).length ≤ 3 := by
  unfold codeF
  rw [if_neg (by simp)]
  have := codeG_len true [] [i]
  simpa using this
def badN : List PV := [PV.str [], PV.str [32, 120], PV.str [120, 32], PV.str [120, 10], PV.str [97, 98, 99, 100, 101, 102, 103, 104, 105, 106, 107, 108, 109, 110, 111, 112, 113, 114, 115, 116, 117, 118, 119, 120, 121, 122, 97, 98, 99, 100, 101, 102, 103, 104, 105, 106, 107, 108, 109, 110, 111, 112, 113]]
noncomputable def bentQ : QSpec := qV Tp preBt slV okBt
theorem k_bentQ_19 {args : List PV} : Y8 19 args = codeS args := rfl
theorem w_bentQ : QSound GG 20 bentQ := by
  unfold bentQ
  refine QSound.of_wpcV (C := cxQ Tryz.prog Y8 Θ9 noΨ [8] [9000] 94) 9000 Tryz.func20 rfl rfl rfl (Fit.all (G := GG) hY8 hΘ9 hnoΨ mixed) rfl (fun args h => ?_) (fun args h => ?_)
  · exact ⟨[], by unfold okBt; simp⟩
  · obtain ⟨l, rfl, ⟨hl, hq⟩, hne⟩ := h
    refine ⟨by simp [cxQ], ?_⟩
    refine wpc_sound (T := plan0) _ _ _ ?_
    have h0 : l.length ≠ 0 := fun h => hne (List.eq_nil_of_length_eq_zero h)
    have c0 : ((l.length : Int) == 0) = false := by simpa using h0
    have tkl : l.take l.length = l := List.take_length
    have hflat : ∀ e : PV, e ∈ l → e.cells.length = 2 := fun e he => by obtain ⟨c, n, rfl, _⟩ := hq e he; rfl
    simp (config := {maxSteps := 1000000}) only [c0, tkl, ev_rowlit0, Θ9, Θ8, Θ7, Θ6, Θ5, Θ4, Θ3, Θ2, Θ1, nS, pickS, preC_eq, preCd_eq, preN_eq, preP_eq, okP_eq, okN, arg1, arg2, intV, strV, slV, Nat.reduceBEq, plan0, k_bentQ_19, codeS, on_l_eq, List.take_succ_cons, List.take_nil, Tryz.underlying1, sz1, by1, ze1, Tryz.underlying3, sz3, by3, ze3, Tryz.underlying4, sz4, by4, ze4, Tryz.underlying5, sz5, by5, ze5, Tryz.underlying9, sz9, by9, ze9, Tryz.underlying22, sz22, by22, ze22, Tryz.underlying23, sz23, by23, ze23, Tryz.underlying29, sz29, by29, ze29, Tryz.underlying34, sz34, by34, ze34, Tryz.underlying60, sz60, by60, ze60, fa60_0, fa60_1, Tryz.f20, go_sem, ↓reduceIte, reduceCtorEq, Nat.reduceEqDiff, Nat.reduceLT, ↓all_qV, Int.reduceToNat, Int.reduceLT, Int.reduceLE, Nat.reduceAdd, Nat.reduceLeDiff, Nat.reduceMul, ev_callG, gcallK_b, gcallK_w, callGc_true, callGc_false]
    refine ⟨rfl, hflat, by omega, by simp only [maxLen]; omega, ⟨by omega, by omega⟩, fun n hn m hm => ?_⟩
    obtain ⟨j, rfl⟩ := Int.eq_ofNat_of_zero_le hn.1
    have hj : j < l.length := by omega
    obtain ⟨c, nm, he, hc, hnm⟩ := hq _ (getD_mem hj)
    have he3 : l.getD j default = .agg [.str c, .str nm] := he
    have w1 : IntKind.i64.wrap ((j : Int) + 1) = ((j + 1 : Nat) : Int) := by rw [i64_in _ (by omega)]; omega
    simp only [Int.toNat_natCast, he3, w1]
    refine ⟨fun _ bc hbc => ⟨⟨by omega, by omega⟩, hj, by simp, _, rfl, take_set_ok hl hq ⟨bc, nm, rfl, by have : bc.length ≤ 100 := hbc; omega, hnm⟩⟩, fun _ => ⟨fun _ w hw => ?_, fun _ => ⟨fun _ => ⟨by kernel_rfl, ⟨by omega, by omega⟩, ⟨by omega, by omega, by omega⟩, rfl, fun e he => hflat e (List.mem_of_mem_drop he), by omega, ?_, ?_, ?_, _, rfl, ?_⟩, fun _ => ⟨fun _ => ?_, fun _ => ⟨fun _ => ⟨fun h5 => ?_, fun _ => ⟨Nat.le_refl _, l, rfl, by omega, hq⟩⟩, fun _ => ?_⟩⟩⟩⟩⟩
    · obtain ⟨i, rfl⟩ := Int.eq_ofNat_of_zero_le hw.1
      obtain ⟨x, hx, hxl⟩ := strs_at (ws := badN) (j := i) (by decide +kernel) (by show i < 5; omega)
      simp only [badN] at hx
      simp only [Int.toNat_natCast, hx]
      exact ⟨⟨hw.1, hw.2, rfl⟩, Nat.le_refl _, ⟨by omega, by omega⟩, rfl, hj, rfl, by simp, _, rfl, take_set_ok hl hq ⟨c, x, rfl, hc, by omega⟩⟩
    · rw [List.length_drop]; omega
    · rw [List.length_drop]; simp only [maxLen]; omega
    · rw [List.length_append, List.length_take, List.length_drop]; omega
    · refine ⟨?_, fun e he => ?_⟩
      · rw [List.length_take, List.length_append, List.length_take, List.length_drop]; omega
      · rcases List.mem_append.1 (List.mem_of_mem_take he) with h | h
        · exact hq e (List.mem_of_mem_take h)
        · exact hq e (List.mem_of_mem_drop h)
    · refine ⟨⟨by omega, by omega⟩, ⟨hj, by show 2 ≤ 2; decide⟩, ⟨rfl, rfl⟩, rfl, fun e he => by rw [List.mem_singleton] at he; subst he; rfl, Nat.le_refl _, by omega, by simp only [maxLen]; omega, by simp, _, rfl, ?_, fun e he => ?_⟩
      · rw [List.length_take, List.length_append]; simp only [List.length_cons, List.length_nil]; omega
      · rcases List.mem_append.1 (List.mem_of_mem_take he) with h | h
        · exact hq e h
        · rw [List.mem_singleton] at h; subst h; exact ⟨c, nm, rfl, hc, hnm⟩
    · have h0j : 0 < j := by simp only [decide_eq_true_eq] at h5; omega
      obtain ⟨c', nm', he', hc', hnm'⟩ := hq _ (getD_mem (show j - 1 < l.length by omega))
      have he4 : l.getD (j - 1) default = .agg [.str c', .str nm'] := he'
      have w2 : IntKind.i64.wrap ((j : Int) - 1) = ((j - 1 : Nat) : Int) := by rw [i64_in _ (by omega)]; omega
      have g4 : ∀ X, (l.set j X).getD (j - 1) default = .agg [.str c', .str nm'] := fun X => by rw [getD_set_ne (by omega), he4]
      simp only [w2, Int.toNat_natCast, he4, g4]
      refine ⟨by kernel_rfl, ⟨by omega, by omega⟩, ⟨by omega, by show 2 ≤ 2; decide⟩, ⟨by omega, by omega⟩, ⟨by omega, by show 2 ≤ 2; decide⟩, ⟨by omega, by omega⟩, rfl, hj, rfl, ⟨by omega, by omega⟩, rfl, by rw [List.length_set]; omega, rfl, by simp, _, rfl, ?_⟩
      have hl2 : (l.set j (hV c' nm')).length ≤ 60 := by rw [List.length_set]; exact hl
      have hq2 : ∀ e, e ∈ l.set j (hV c' nm') → isHq e := fun e he => by
        rcases List.mem_or_eq_of_mem_set he with h | h
        · exact hq e h
        · rw [h]; exact ⟨c', nm', rfl, hc', hnm'⟩
      have := take_set_ok (args := [.sl l]) (j := j - 1) hl2 hq2 (e := hV c nm) ⟨c, nm, rfl, hc, hnm⟩
      rw [List.length_set] at this
      exact this
    · refine AWp.loop (T := plan0) (α := Nat × List PV) (fun z => ([(0, .ptr 9000 0), (5, .rs 8 z.2.length), (7, .pv (.int .i64 z.1))], [(8, .row 2 z.2), (9000, .obj Tp)])) (fun z => z.2.length ≤ 61 ∧ z.1 + l.length = z.2.length + 1 ∧ ∀ e, e ∈ z.2 → isHq e) (fun z => 61 - z.2.length)
        ⟨(1, l), ⟨by simp only; omega, by simp only; omega, hq⟩, ⟨by simp [fitR, look], by simp [fitH, hget], rfl, rfl, rfl⟩⟩ ?_
      rintro ⟨i, es⟩ ⟨g1, g2, g3⟩
      simp only at g1 g2 g3
      have hi1 : IntKind.i64.wrap ((i : Int) + 1) = ((i + 1 : Nat) : Int) := by rw [i64_in _ (by omega)]; omega
      have tk : es.take es.length = es := List.take_length
      by_cases hlt : es.length ≤ 60
      · have c1 : decide ((es.length : Int) ≤ 60) = true := by simp; omega
        have k1 := code1 (i : Int)
        have hall : allI [PV.int .i64 (i : Int)] := ⟨[(i : Int)], rfl⟩
        have hno : nOf (.int .i64 i) = i := rfl
        simp (config := {maxSteps := 1000000}) only [c1, hi1, tk, hno, Θ9, Θ8, Θ7, Θ6, Θ5, Θ4, Θ3, Θ2, Θ1, nS, pickS, preC_eq, preCd_eq, preN_eq, preP_eq, okP_eq, okN, arg1, arg2, intV, strV, slV, Nat.reduceBEq, plan0, k_bentQ_19, codeS, on_l_eq, List.map_cons, List.map_nil, List.take_succ_cons, List.take_nil, Tryz.underlying1, sz1, by1, ze1, Tryz.underlying3, sz3, by3, ze3, Tryz.underlying4, sz4, by4, ze4, Tryz.underlying5, sz5, by5, ze5, Tryz.underlying9, sz9, by9, ze9, Tryz.underlying22, sz22, by22, ze22, Tryz.underlying23, sz23, by23, ze23, Tryz.underlying29, sz29, by29, ze29, Tryz.underlying34, sz34, by34, ze34, Tryz.underlying60, sz60, by60, ze60, fa60_0, fa60_1, go_sem, ↓reduceIte, reduceCtorEq, Nat.reduceEqDiff, Nat.reduceLT, ↓all_qV, Int.reduceToNat, Int.reduceLT, Int.reduceLE, Nat.reduceAdd, Nat.reduceLeDiff, Nat.reduceMul, ev_callG, gcallK_b, gcallK_w, callGc_true, callGc_false]
        refine ⟨hall, by omega, rfl, fun e he => by rw [List.mem_singleton] at he; subst he; rfl, Nat.le_refl _, by omega, by simp only [maxLen]; omega, (i + 1, es ++ [hV (57 :: 57 :: 46 :: codeF [(i : Int)]) [120]]), ⟨by simp only [List.length_append, List.length_cons, List.length_nil]; omega, by simp only [List.length_append, List.length_cons, List.length_nil]; omega, fun e he => ?_⟩, by simp only [List.length_append, List.length_cons, List.length_nil]; omega, ⟨by simp [fitR, look], by simp [fitH, hget, hV], rfl, rfl, rfl⟩⟩
        rcases List.mem_append.1 he with h | h
        · exact g3 e h
        · rw [List.mem_singleton] at h
          exact ⟨_, _, h, by simp only [List.length_cons]; omega, by simp⟩
      · have c1 : decide ((es.length : Int) ≤ 60) = false := by simp; omega
        simp (config := {maxSteps := 1000000}) only [c1, tk, Θ9, Θ8, Θ7, Θ6, Θ5, Θ4, Θ3, Θ2, Θ1, nS, pickS, preC_eq, preCd_eq, preN_eq, preP_eq, okP_eq, okN, arg1, arg2, intV, strV, slV, Nat.reduceBEq, plan0, k_bentQ_19, codeS, on_l_eq, List.take_succ_cons, List.take_nil, Tryz.underlying1, sz1, by1, ze1, Tryz.underlying3, sz3, by3, ze3, Tryz.underlying4, sz4, by4, ze4, Tryz.underlying5, sz5, by5, ze5, Tryz.underlying9, sz9, by9, ze9, Tryz.underlying22, sz22, by22, ze22, Tryz.underlying23, sz23, by23, ze23, Tryz.underlying29, sz29, by29, ze29, Tryz.underlying34, sz34, by34, ze34, Tryz.underlying60, sz60, by60, ze60, fa60_0, fa60_1, go_sem, ↓reduceIte, reduceCtorEq, Nat.reduceEqDiff, Nat.reduceLT, ↓all_qV, Int.reduceToNat, Int.reduceLT, Int.reduceLE, Nat.reduceAdd, Nat.reduceLeDiff, Nat.reduceMul, ev_callG, gcallK_b, gcallK_w, callGc_true, callGc_false]
        exact ⟨Nat.le_refl _, es, rfl, by omega, g3⟩
noncomputable def ΘA (g : FuncId) : Option QSpec := putΘ Θ9 20 (qV Tp preBt slV okBt) g
theorem hΘA : QTab GG ΘA := hΘ9.put w_bentQ
end Go.AM
namespace Go.AM
open Go Go.Proofs Go.IntWalk
set_option maxRecDepth 100000
set_option maxHeartbeats 1000000
set_option linter.unusedSimpArgs false
set_option linter.unusedVariables false
noncomputable def Y9 (g : FuncId) : PSpec := (putΦ (putΦ (putΦ (putΦ (putΦ Y8 29 rlvS) 19 rcdS) 12 rptS) 14 rcmS) 16 runS) g
theorem hY9 : TabSound GG Y9 := (((((hY8.put w_rlvS).put w_rcdS).put w_rptS).put w_rcmS).put w_runS)
def okHd : PV → Bool
  | .agg [.str c, .str n] => decide (c.length ≤ 60) && decide (n.length ≤ 100)
  | _ => false
def smT (l : List PV) : Bool := decide (l.length ≤ 80) && l.all okHd
noncomputable def smallS : PSpec := on_l (fun l => (∀ e, e ∈ l → ∃ c n, e = hV c n) ∧ l.length ≤ 9223372036854775807) (fun l => .bool (smT l))
theorem w_smallS : PSound GG 4 smallS := by
  refine PSound.of_wpc (C := cxP Tryz.prog Y9 [] 25) (T := plan0) Tryz.func4 rfl rfl rfl (Fit.pure (G := GG) hY9 mixed) (fun args h => ?_)
  unfold smallS at h
  obtain ⟨l, rfl, hp⟩ := on_l_inv h
  refine ⟨by simp [cxP], ?_⟩
  simp only [smallS, on_l_eq, Tryz.f4, argL, plan0]
  obtain ⟨hl, hn⟩ := hp
  simp only [Tryz.underlying1, sz1, by1, ze1, Tryz.underlying3, sz3, by3, ze3, Tryz.underlying4, sz4, by4, ze4, Tryz.underlying9, sz9, by9, ze9, Tryz.underlying23, sz23, by23, ze23, Tryz.underlying60, sz60, by60, ze60, fa60_0, fa60_1, go_sem, ↓reduceIte, reduceCtorEq, Nat.reduceEqDiff, Nat.reduceLT, ↓all_qV, Int.reduceToNat, Int.reduceLT, Int.reduceLE, Nat.reduceAdd, Nat.reduceLeDiff, Nat.reduceMul]
  refine ⟨fun h1 => ?_, fun h1 => ?_⟩
  · have : smT l = false := by
      unfold smT
      have : decide (l.length ≤ 80) = false := by simp at h1 ⊢; omega
      rw [this]; rfl
    rw [this]
  have h80 : l.length ≤ 80 := by simp at h1; omega
  refine AWp.loop (T := plan0) (α := Nat) (fun i => ([(8, .pv (.sl l)), (9, .pv (.int .i64 l.length)), (10, .pv (.int .i64 i))], [])) (fun i => i ≤ l.length ∧ (l.take i).all okHd = true) (fun i => l.length - i)
    ⟨0, ⟨Nat.zero_le _, rfl⟩, ⟨by simp [fitR, look], trivial, rfl, rfl, rfl⟩⟩ ?_
  rintro i ⟨g1, g2⟩
  have hi1 : IntKind.i64.wrap ((i : Int) + 1) = ((i + 1 : Nat) : Int) := by rw [i64_in _ (by omega)]; omega
  by_cases hlt : i < l.length
  · have c0 : decide ((i : Int) < (l.length : Int)) = true := by simp; omega
    obtain ⟨c, n, he⟩ := hl _ (getD_mem hlt)
    have he3 : l.getD i default = .agg [.str c, .str n] := he
    have hm := getD_mem hlt
    have htk := take_succ_getD hlt
    rw [he3] at hm htk
    have hok : okHd (.agg [.str c, .str n]) = !(decide ((60 : Int) < (c.length : Int)) || decide ((100 : Int) < (n.length : Int))) := by
      show (decide (c.length ≤ 60) && decide (n.length ≤ 100)) = _
      rw [Bool.eq_iff_iff]; simp only [Bool.and_eq_true, decide_eq_true_eq, Bool.not_eq_true', Bool.or_eq_false_iff, decide_eq_false_iff_not]; omega
    simp only [c0, he3, hi1, List.length_map, List.take_succ_cons, List.take_nil, Tryz.underlying1, sz1, by1, ze1, Tryz.underlying3, sz3, by3, ze3, Tryz.underlying4, sz4, by4, ze4, Tryz.underlying9, sz9, by9, ze9, Tryz.underlying23, sz23, by23, ze23, Tryz.underlying60, sz60, by60, ze60, fa60_0, fa60_1, plan0, go_sem, ↓reduceIte, reduceCtorEq, Nat.reduceEqDiff, Nat.reduceLT, ↓all_qV, Int.reduceToNat, Int.reduceLT, Int.reduceLE, Nat.reduceAdd, Nat.reduceLeDiff, Nat.reduceMul]
    refine ⟨⟨by omega, by omega⟩, fun h9 => ?_, fun h9 => ⟨i + 1, ⟨by omega, ?_⟩, by omega, ⟨by simp [fitR, look], trivial, rfl, rfl, rfl⟩⟩⟩
    · have : l.all okHd = false := List.all_eq_false.2 ⟨_, hm, by rw [hok, h9]; simp⟩
      unfold smT
      rw [this, Bool.and_false]
    · rw [htk, List.all_append, g2, List.all_cons, hok, h9]; rfl
  · have c0 : decide ((i : Int) < (l.length : Int)) = false := by simp; omega
    rw [List.take_of_length_le (by omega)] at g2
    have : smT l = true := by
      unfold smT
      rw [g2, decide_eq_true h80]; rfl
    simp only [c0, this, Tryz.underlying1, sz1, by1, ze1, Tryz.underlying3, sz3, by3, ze3, Tryz.underlying4, sz4, by4, ze4, Tryz.underlying9, sz9, by9, ze9, Tryz.underlying23, sz23, by23, ze23, Tryz.underlying60, sz60, by60, ze60, fa60_0, fa60_1, plan0, go_sem, ↓reduceIte, reduceCtorEq, Nat.reduceEqDiff, Nat.reduceLT, ↓all_qV, Int.reduceToNat, Int.reduceLT, Int.reduceLE, Nat.reduceAdd, Nat.reduceLeDiff, Nat.reduceMul]
noncomputable def intsS : PSpec := on_ll (fun a b => allI a ∧ allI b ∧ a.length ≤ 4611686018427387904) (fun a b => .bool (a.map nOf == b.map nOf))
theorem w_intsS : PSound GG 10 intsS := by
  refine PSound.of_wpc (C := cxP Tryz.prog Y9 [] 26) (T := plan0) Tryz.func10 rfl rfl rfl (Fit.pure (G := GG) hY9 mixed) (fun args h => ?_)
  unfold intsS at h
  obtain ⟨p, q, rfl, hp⟩ := on_ll_inv h
  refine ⟨by simp [cxP], ?_⟩
  simp only [intsS, on_ll_eq, Tryz.f10, argL, plan0]
  obtain ⟨⟨a, rfl⟩, ⟨b, rfl⟩, hl⟩ := hp
  have hn : ∀ l : List Int, (l.map intV).map nOf = l := fun l => by simp [List.map_map, Function.comp_def, nOf, intV]
  simp only [List.length_map] at hl
  simp only [hn, List.length_map, Tryz.underlying3, sz3, by3, ze3, Tryz.underlying4, sz4, by4, ze4, Tryz.underlying22, sz22, by22, ze22, go_sem, ↓reduceIte, reduceCtorEq, Nat.reduceEqDiff, Nat.reduceLT, ↓all_qV, Int.reduceToNat, Int.reduceLT, Int.reduceLE, Nat.reduceAdd, Nat.reduceLeDiff, Nat.reduceMul]
  refine ⟨fun h => ?_, fun h => ?_⟩
  · have : ¬ a = b := fun e => by subst e; simp at h
    simp [this]
  · have h9 : (a.length : Int) = b.length := by simpa using h
    have hab : a.length = b.length := by omega
    refine AWp.loop (T := plan0) (α := Nat) (fun i => ([(0, .pv (.sl (a.map intV))), (1, .pv (.sl (b.map intV))), (12, .pv (.int .i64 a.length)), (13, .pv (.int .i64 i))], [])) (fun i => i ≤ a.length ∧ a.take i = b.take i) (fun i => a.length - i)
      ⟨0, ⟨Nat.zero_le _, rfl⟩, ⟨by simp [fitR, look], trivial, rfl, rfl, rfl⟩⟩ ?_
    rintro i ⟨h1, h2⟩
    have hi1 : i < a.length → IntKind.i64.wrap ((i : Int) + 1) = ((i + 1 : Nat) : Int) := fun _ => by rw [i64_in _ (by omega)]; omega
    by_cases hlt : i < a.length
    · have c0 : decide ((i : Int) < (a.length : Int)) = true := by simp; omega
      have g1 := getD_intV hlt
      have g2 := getD_intV (l := b) (i := i) (by omega)
      simp only [c0, g1, g2, hi1 hlt, List.length_map, Tryz.underlying3, sz3, by3, ze3, Tryz.underlying4, sz4, by4, ze4, Tryz.underlying22, sz22, by22, ze22, plan0, go_sem, ↓reduceIte, reduceCtorEq, Nat.reduceEqDiff, Nat.reduceLT, ↓all_qV, Int.reduceToNat, Int.reduceLT, Int.reduceLE, Nat.reduceAdd, Nat.reduceLeDiff, Nat.reduceMul]
      refine ⟨by kernel_rfl, by omega, by omega, fun h3 => ?_, fun h3 => ⟨i + 1, ⟨by omega, ?_⟩, by omega, ⟨by simp [fitR, look], trivial, rfl, rfl, rfl⟩⟩⟩
      · have : ¬ a = b := fun e => by subst e; simp at h3
        simp [this]
      · have h4 : a.getD i 0 = b.getD i 0 := by simpa using h3
        rw [List.take_add_one, List.take_add_one, h2]
        simp only [List.getD_eq_getElem?_getD, List.getElem?_eq_getElem hlt, List.getElem?_eq_getElem (show i < b.length by omega), Option.getD_some, Option.toList_some] at h4 ⊢
        rw [h4]
    · have c0 : decide ((i : Int) < (a.length : Int)) = false := by simp; omega
      simp only [c0, Tryz.underlying3, sz3, by3, ze3, Tryz.underlying4, sz4, by4, ze4, Tryz.underlying22, sz22, by22, ze22, plan0, go_sem, ↓reduceIte, reduceCtorEq, Nat.reduceEqDiff, Nat.reduceLT, ↓all_qV, Int.reduceToNat, Int.reduceLT, Int.reduceLE, Nat.reduceAdd, Nat.reduceLeDiff, Nat.reduceMul]
      have e1 : i = a.length := by omega
      rw [List.take_of_length_le (by omega), List.take_of_length_le (by omega)] at h2
      simp [h2]
noncomputable def YA (g : FuncId) : PSpec := (putΦ (putΦ Y9 10 intsS) 4 smallS) g
theorem hYA : TabSound GG YA := ((hY9.put w_intsS).put w_smallS)
end Go.AM
