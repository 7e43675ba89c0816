/-
  A part of a proof: see the last text of this claim for what is proved.
-/
import Derived.Test.YthdlbokgbkejnaaGreatDoorA5
import Derived.Test.YthdlbokgbkejnaaGreatDoorPN
import Derived.Lib.ItoaLen
import Derived.Test.YthdlbokgbkejnaaGreatDoorZMa
namespace Go.AM
open Go Go.Proofs Go.IntWalk
set_option maxRecDepth 100000
set_option maxHeartbeats 8000000
set_option linter.unusedSimpArgs false
set_option linter.unusedVariables false
theorem joinD_len : ∀ ws : List (List UInt8), (∀ w, w ∈ ws → w.length ≤ 21) → (joinD ws).length ≤ 22 * ws.length
  | [], _ => by simp [joinD]
  | w :: ws, h => by
    have h1 := h w List.mem_cons_self
    by_cases he : ws = []
    · subst he
      have : joinD [w] = w := by simp [joinD]
      rw [this]; simp only [List.length_cons, List.length_nil]; omega
    · have ih := joinD_len ws (fun v hv => h v (List.mem_cons_of_mem _ hv))
      rw [joinD_cons he]
      simp only [List.length_append, List.length_cons]; omega
theorem jn_len {l : List Int} (h : ∀ n, n ∈ l → -9223372036854775808 ≤ n ∧ n ≤ 9223372036854775807) : (jnF l).length ≤ 22 * l.length := by
  unfold jnF
  rw [join_D]
  have := joinD_len (l.map Lib.itoa) (fun w hw => by
    obtain ⟨n, hn, rfl⟩ := List.mem_map.1 hw
    exact Lib.itoa_length_le n (h n hn).1 (h n hn).2)
  rw [List.length_map] at this
  exact this
theorem isHq.isHs {e : PV} (h : isHq e) : isHs e := by obtain ⟨c, n, e1, h1, h2⟩ := h; exact ⟨c, n, e1, by omega, by omega⟩
theorem small_ok {l : List PV} (h : ∀ e, e ∈ l → ∃ c n, e = hV c n) (hs : smT l = true) : l.length ≤ 80 ∧ ∀ e, e ∈ l → isHq e := by
  unfold smT at hs
  rw [Bool.and_eq_true, decide_eq_true_eq, List.all_eq_true] at hs
  refine ⟨hs.1, fun e he => ?_⟩
  obtain ⟨c, n, rfl⟩ := h e he
  have := hs.2 _ he
  simp only [hV, okHd, Bool.and_eq_true, decide_eq_true_eq] at this
  exact ⟨c, n, rfl, by omega, by omega⟩
theorem hpG_small : ∀ (r : List (List UInt8)) (acc : List PV), (∀ e, e ∈ acc → isHs e) → (∀ x, x ∈ r → x.length ≤ 100000) → (∀ e, e ∈ (hpG acc r).1 → isHs e) ∧ (hpG acc r).1.length ≤ 60
  | [], acc, h, _ => by
    rw [hpG]
    cases hz : ((fstF acc).2 != 0) with
    | true => rw [cond_true]; exact ⟨fun e he => (by cases he), by simp⟩
    | false =>
      rw [cond_false]
      refine ⟨h, ?_⟩
      show acc.length ≤ 60
      unfold fstF at hz
      cases hc : decide (60 < (acc.length : Int)) with
      | true => rw [hc, cond_true] at hz; exact absurd hz (by decide)
      | false => simp only [decide_eq_false_iff_not] at hc; omega
  | x :: r, acc, h, hx => by
    rw [hpG_cons]
    have h1 := trim_le x [10]
    have h2 := cut_le (Lib.trimSuffix x [10]) [32]
    have h3 := hx x List.mem_cons_self
    cases (Lib.cut (Lib.trimSuffix x [10]) [32]).2.2 with
    | false => rw [cond_false]; exact ⟨fun e he => (by cases he), by simp⟩
    | true =>
      rw [cond_true]
      refine hpG_small r _ (fun e he => ?_) (fun y hy => hx y (List.mem_cons_of_mem _ hy))
      rcases List.mem_append.1 he with he | he
      · exact h e he
      · rw [List.mem_singleton] at he; exact ⟨_, _, he, by omega, by omega⟩
theorem hp_small {s : List UInt8} (h : s.length ≤ 100000) : (∀ e, e ∈ (hpF s).1 → isHs e) ∧ (hpF s).1.length ≤ 60 := by
  unfold hpF
  cases decide (12000 < (s.length : Int)) with
  | true => rw [cond_true]; exact ⟨fun e he => (by cases he), by simp⟩
  | false =>
    rw [cond_false]
    exact hpG_small _ _ (fun e he => by cases he) (fun x hx => by have := (linesOf_len s.length s (Nat.le_refl _)).2 x hx; omega)
noncomputable def YB (g : FuncId) : PSpec := (putΦ (putΦ (putΦ (putΦ (putΦ (putΦ (putΦ (putΦ (putΦ (putΦ (putΦ (putΦ (putΦ (putΦ YA 5 awake3S) 11 partsCS) 13 cmpCS) 15 underCS) 18 codeCS) 21 validCS) 23 textS) 25 hasS) 27 textsS) 28 lvS) 30 chS) 33 sumS) 36 parseCS) 38 sameHS) g
theorem hYB : TabSound GG YB := ((((((((((((((hYA.put w_awake3S).put w_partsCS).put w_cmpCS).put w_underCS).put w_codeCS).put w_validCS).put w_textS).put w_hasS).put w_textsS).put w_lvS).put w_chS).put w_sumS).put w_parseCS).put w_sameHS)
def on_lssllils (p : List PV → List UInt8 → List UInt8 → List PV → List PV → Int → List PV → List UInt8 → Prop) (f : List PV → List UInt8 → List UInt8 → List PV → List PV → Int → List PV → List UInt8 → PV) : PSpec
  | [.sl a0, .str a1, .str a2, .sl a3, .sl a4, .int .i64 a5, .sl a6, .str a7] => (p a0 a1 a2 a3 a4 a5 a6 a7, f a0 a1 a2 a3 a4 a5 a6 a7)
  | _ => (False, default)
theorem on_lssllils_eq {p : List PV → List UInt8 → List UInt8 → List PV → List PV → Int → List PV → List UInt8 → Prop} {f : List PV → List UInt8 → List UInt8 → List PV → List PV → Int → List PV → List UInt8 → PV} {a0 : List PV} {a1 : List UInt8} {a2 : List UInt8} {a3 : List PV} {a4 : List PV} {a5 : Int} {a6 : List PV} {a7 : List UInt8} : on_lssllils p f [.sl a0, .str a1, .str a2, .sl a3, .sl a4, .int .i64 a5, .sl a6, .str a7] = (p a0 a1 a2 a3 a4 a5 a6 a7, f a0 a1 a2 a3 a4 a5 a6 a7) := rfl
theorem on_lssllils_inv {p : List PV → List UInt8 → List UInt8 → List PV → List PV → Int → List PV → List UInt8 → Prop} {f : List PV → List UInt8 → List UInt8 → List PV → List PV → Int → List PV → List UInt8 → PV} {args : List PV} (h : (on_lssllils p f args).1) : ∃ a0 : List PV, ∃ a1 : List UInt8, ∃ a2 : List UInt8, ∃ a3 : List PV, ∃ a4 : List PV, ∃ a5 : Int, ∃ a6 : List PV, ∃ a7 : List UInt8, args = [.sl a0, .str a1, .str a2, .sl a3, .sl a4, .int .i64 a5, .sl a6, .str a7] ∧ p a0 a1 a2 a3 a4 a5 a6 a7 := by
  unfold on_lssllils at h
  split at h
  · exact ⟨_, _, _, _, _, _, _, _, rfl, h⟩
  · exact h.elim
def planAt (n : Nat) : Plan := { keep := fun _ => none, cut := fun _ => false, stop := fun i => i == n }
theorem preT_eq {es : List PV} : preT [.sl es] = (es.length ≤ 9223372036854775807 ∧ ∀ e, e ∈ es → isI e) := propext ⟨fun ⟨es', e, h⟩ => by simp only [List.cons.injEq, PV.sl.injEq, and_true] at e; subst e; exact h, fun h => ⟨es, rfl, h⟩⟩
theorem preTr_eq {n : Int} : preTr [.int .i64 n] = (0 ≤ n ∧ n ≤ 50) := propext ⟨fun ⟨m, e, h⟩ => by simp only [List.cons.injEq, PV.int.injEq, and_true, true_and] at e; subst e; exact h, fun h => ⟨n, rfl, h⟩⟩
theorem preSp_eq {x : List UInt8} {es : List PV} : preSp [.str x, .sl es] = ∃ ws : List (List UInt8), es = ws.map PV.str ∧ x.length ≤ 20000 ∧ ws ≠ [] ∧ ws.length ≤ 1000 ∧ ∀ w, w ∈ ws → w.length ≤ 100 := propext ⟨fun ⟨x', ws, e, h⟩ => by
  simp only [List.cons.injEq, PV.sl.injEq, PV.str.injEq, and_true] at e
  obtain ⟨rfl, rfl⟩ := e; exact ⟨ws, rfl, h⟩, fun ⟨ws, e, h⟩ => ⟨x, ws, by rw [e], h⟩⟩
noncomputable def exS : PSpec := on_lssllils (fun es a b raw lines year parts text => (es.length ≤ 9223372036854775807 ∧ ∀ e, e ∈ es → isI e) ∧ ((∀ e, e ∈ raw → ∃ c n, e = hV c n) ∧ raw.length ≤ 9223372036854775807) ∧
  ((∀ e, e ∈ lines → ∃ c y a, e = lnV c y a) ∧ lines.length ≤ 9223372036854775807) ∧ (∃ p : List Int, parts = p.map intV ∧ (∀ n, n ∈ p → -9223372036854775808 ≤ n ∧ n ≤ 9223372036854775807) ∧ p.length ≤ 9223372036854775807)) (fun _ _ _ _ _ _ _ _ => .bool true)
theorem k_exL_4 {args : List PV} : YB 4 args = smallS args := rfl
theorem k_exL_5 {args : List PV} : YB 5 args = awake3S args := rfl
theorem k_exL_10 {args : List PV} : YB 10 args = intsS args := rfl
theorem k_exL_11 {args : List PV} : YB 11 args = partsCS args := rfl
theorem k_exL_12 {args : List PV} : YB 12 args = rptS args := rfl
theorem k_exL_13 {args : List PV} : YB 13 args = cmpCS args := rfl
theorem k_exL_14 {args : List PV} : YB 14 args = rcmS args := rfl
theorem k_exL_15 {args : List PV} : YB 15 args = underCS args := rfl
theorem k_exL_16 {args : List PV} : YB 16 args = runS args := rfl
theorem k_exL_18 {args : List PV} : YB 18 args = codeCS args := rfl
theorem k_exL_19 {args : List PV} : YB 19 args = rcdS args := rfl
theorem k_exL_21 {args : List PV} : YB 21 args = validCS args := rfl
theorem k_exL_22 {args : List PV} : YB 22 args = rvalS args := rfl
theorem k_exL_23 {args : List PV} : YB 23 args = textS args := rfl
theorem k_exL_24 {args : List PV} : YB 24 args = rtextS args := rfl
theorem k_exL_25 {args : List PV} : YB 25 args = hasS args := rfl
theorem k_exL_26 {args : List PV} : YB 26 args = rhasS args := rfl
theorem k_exL_27 {args : List PV} : YB 27 args = textsS args := rfl
theorem k_exL_28 {args : List PV} : YB 28 args = lvS args := rfl
theorem k_exL_29 {args : List PV} : YB 29 args = rlvS args := rfl
theorem k_exL_30 {args : List PV} : YB 30 args = chS args := rfl
theorem k_exL_31 {args : List PV} : YB 31 args = rchS args := rfl
theorem k_exL_33 {args : List PV} : YB 33 args = sumS args := rfl
theorem k_exL_34 {args : List PV} : YB 34 args = rsumS args := rfl
theorem k_exL_36 {args : List PV} : YB 36 args = parseCS args := rfl
theorem k_exL_37 {args : List PV} : YB 37 args = rprsS args := rfl
theorem k_exL_38 {args : List PV} : YB 38 args = sameHS args := rfl
theorem w_exS : PSound GG 3 exS := by
  refine PSound.of_wpc (C := cxQ Tryz.prog YB ΘA Ψ1 [] [] 311) (T := planAt 10) Tryz.func3 rfl rfl rfl (Fit.all (G := GG) hYB hΘA hΨ1 mixed) (fun args h => ?_)
  unfold exS at h
  obtain ⟨es0, a, b, raw, lines, year, parts0, text, rfl, ⟨he1, he2⟩, ⟨hr1, hr2⟩, ⟨hl1, hl2⟩, ⟨parts, rfl, hp1, hp2⟩⟩ := on_lssllils_inv h
  refine ⟨by simp [cxQ], ?_⟩
  simp (config := {maxSteps := 1000000}) only [exS, on_lssllils_eq, k_exL_4, smallS, on_l_eq, k_exL_5, awake3S, on__eq, k_exL_10, intsS, on_ll_eq, k_exL_11, partsCS, on_s_eq, k_exL_12, rptS, k_exL_13, cmpCS, on_ss_eq, k_exL_14, rcmS, k_exL_15, underCS, k_exL_16, runS, k_exL_18, codeCS, k_exL_19, rcdS, k_exL_21, validCS, k_exL_22, rvalS, k_exL_23, textS, k_exL_24, rtextS, k_exL_25, hasS, on_ls_eq, k_exL_26, rhasS, k_exL_27, textsS, k_exL_28, lvS, k_exL_29, rlvS, k_exL_30, chS, k_exL_31, rchS, k_exL_33, sumS, on_lsi_eq, k_exL_34, rsumS, k_exL_36, parseCS, k_exL_37, rprsS, k_exL_38, sameHS, ΘA, Θ9, Θ8, Θ7, Θ6, Θ5, Θ4, Θ3, Θ2, Θ1, Ψ1, newS, preT_eq, preTr_eq, preC_eq, preCd_eq, preLn_eq, preBt_eq, preSp_eq, preN_eq, preP_eq, okP_eq, okN, arg1, arg2, intV, strV, slV, nS, pickS, psiNew_eq, map_sOf, Nat.reduceBEq, List.length_map, List.take_succ_cons, List.take_nil, Tryz.underlying1, sz1, by1, ze1, Tryz.underlying2, sz2, by2, ze2, Tryz.underlying3, sz3, by3, ze3, Tryz.underlying4, sz4, by4, ze4, Tryz.underlying5, sz5, by5, ze5, Tryz.underlying6, sz6, by6, ze6, Tryz.underlying9, sz9, by9, ze9, Tryz.underlying22, sz22, by22, ze22, Tryz.underlying23, sz23, by23, ze23, Tryz.underlying24, sz24, by24, ze24, Tryz.underlying28, sz28, by28, ze28, fa28_0, fa28_1, fa28_2, Tryz.underlying29, sz29, by29, ze29, Tryz.underlying34, sz34, by34, ze34, Tryz.underlying40, sz40, by40, ze40, Tryz.underlying43, sz43, by43, ze43, Tryz.underlying44, sz44, by44, ze44, Tryz.underlying51, sz51, by51, ze51, Tryz.underlying52, sz52, by52, ze52, Tryz.underlying55, sz55, by55, ze55, Tryz.underlying60, sz60, by60, ze60, fa60_0, fa60_1, Tryz.f3, argL, planAt, go_sem, ↓reduceIte, reduceCtorEq, Nat.reduceEqDiff, Nat.reduceLT, ↓all_qVz, ↓all_qVz', Int.reduceToNat, Int.reduceLT, Int.reduceLE, Nat.reduceAdd, Nat.reduceLeDiff, Nat.reduceMul, ev_callG, gcallK_b, gcallK_w, callGc_true, callGc_false]
  refine ⟨fun _ => ⟨hr1, hr2⟩, fun hg => ?_⟩
  simp only [Bool.or_eq_false_iff, Bool.not_eq_false', decide_eq_false_iff_not] at hg
  obtain ⟨⟨⟨⟨⟨ga, gb⟩, gr⟩, gl⟩, gp⟩, gt⟩ := hg
  have hal : a.length ≤ 60 := by omega
  have hbl : b.length ≤ 60 := by omega
  have hll : lines.length ≤ 60 := by omega
  have hpl : parts.length ≤ 20 := by omega
  have htl : text.length ≤ 14000 := by omega
  clear ga gb gl gp gt hr2 hl2 hp2
  refine AWp.loop (T := planAt 10) (α := Nat) (fun i => ([(0, .pv (.sl es0)), (1, .pv (.str a)), (2, .pv (.str b)), (3, .pv (.sl raw)), (4, .pv (.sl lines)), (5, .pv (.int .i64 year)), (6, .pv (.sl (parts.map intV))), (7, .pv (.str text)), (80, .pv (.sl lines)), (81, .pv (.int .i64 lines.length)), (82, .pv (.int .i64 i))], []))
    (fun i => i ≤ lines.length ∧ ∀ e, e ∈ lines.take i → isLq e) (fun i => lines.length - i)
    ⟨0, ⟨Nat.zero_le _, fun e he => by cases he⟩, ⟨by simp [fitR, look], trivial, rfl, rfl, rfl⟩⟩ ?_
  rintro i ⟨f1, f2⟩
  have hi1 : IntKind.i64.wrap ((i : Int) + 1) = ((i + 1 : Nat) : Int) := by rw [i64_in _ (by omega)]; omega
  by_cases hlt : i < lines.length
  · have c0 : decide ((i : Int) < (lines.length : Int)) = true := by simp; omega
    obtain ⟨c, y, am, he⟩ := hl1 _ (getD_mem hlt)
    have he3 : lines.getD i default = .agg [.str c, .int .i64 y, .int .i64 am] := he
    have htk := take_succ_getD hlt
    simp (config := {maxSteps := 1000000}) only [c0, he3, hi1, k_exL_4, smallS, on_l_eq, k_exL_5, awake3S, on__eq, k_exL_10, intsS, on_ll_eq, k_exL_11, partsCS, on_s_eq, k_exL_12, rptS, k_exL_13, cmpCS, on_ss_eq, k_exL_14, rcmS, k_exL_15, underCS, k_exL_16, runS, k_exL_18, codeCS, k_exL_19, rcdS, k_exL_21, validCS, k_exL_22, rvalS, k_exL_23, textS, k_exL_24, rtextS, k_exL_25, hasS, on_ls_eq, k_exL_26, rhasS, k_exL_27, textsS, k_exL_28, lvS, k_exL_29, rlvS, k_exL_30, chS, k_exL_31, rchS, k_exL_33, sumS, on_lsi_eq, k_exL_34, rsumS, k_exL_36, parseCS, k_exL_37, rprsS, k_exL_38, sameHS, ΘA, Θ9, Θ8, Θ7, Θ6, Θ5, Θ4, Θ3, Θ2, Θ1, Ψ1, newS, preT_eq, preTr_eq, preC_eq, preCd_eq, preLn_eq, preBt_eq, preSp_eq, preN_eq, preP_eq, okP_eq, okN, arg1, arg2, intV, strV, slV, nS, pickS, psiNew_eq, map_sOf, Nat.reduceBEq, List.length_map, List.take_succ_cons, List.take_nil, Tryz.underlying1, sz1, by1, ze1, Tryz.underlying2, sz2, by2, ze2, Tryz.underlying3, sz3, by3, ze3, Tryz.underlying4, sz4, by4, ze4, Tryz.underlying5, sz5, by5, ze5, Tryz.underlying6, sz6, by6, ze6, Tryz.underlying9, sz9, by9, ze9, Tryz.underlying22, sz22, by22, ze22, Tryz.underlying23, sz23, by23, ze23, Tryz.underlying24, sz24, by24, ze24, Tryz.underlying28, sz28, by28, ze28, fa28_0, fa28_1, fa28_2, Tryz.underlying29, sz29, by29, ze29, Tryz.underlying34, sz34, by34, ze34, Tryz.underlying40, sz40, by40, ze40, Tryz.underlying43, sz43, by43, ze43, Tryz.underlying44, sz44, by44, ze44, Tryz.underlying51, sz51, by51, ze51, Tryz.underlying52, sz52, by52, ze52, Tryz.underlying55, sz55, by55, ze55, Tryz.underlying60, sz60, by60, ze60, fa60_0, fa60_1, planAt, go_sem, ↓reduceIte, reduceCtorEq, Nat.reduceEqDiff, Nat.reduceLT, ↓all_qVz, ↓all_qVz', Int.reduceToNat, Int.reduceLT, Int.reduceLE, Nat.reduceAdd, Nat.reduceLeDiff, Nat.reduceMul, ev_callG, gcallK_b, gcallK_w, callGc_true, callGc_false]
    refine ⟨⟨by omega, by omega⟩, fun h9 => ⟨i + 1, ⟨by omega, fun e hm => ?_⟩, by omega, ⟨by simp [fitR, look], trivial, rfl, rfl, rfl⟩⟩⟩
    rw [htk] at hm
    rcases List.mem_append.1 hm with hm | hm
    · exact f2 e hm
    · rw [List.mem_singleton] at hm
      simp only [decide_eq_false_iff_not] at h9
      exact ⟨c, y, am, by rw [hm]; exact he, by omega⟩
  have c0 : decide ((i : Int) < (lines.length : Int)) = false := by simp; omega
  rw [List.take_of_length_le (by omega)] at f2
  simp (config := {maxSteps := 1000000}) only [c0, k_exL_4, smallS, on_l_eq, k_exL_5, awake3S, on__eq, k_exL_10, intsS, on_ll_eq, k_exL_11, partsCS, on_s_eq, k_exL_12, rptS, k_exL_13, cmpCS, on_ss_eq, k_exL_14, rcmS, k_exL_15, underCS, k_exL_16, runS, k_exL_18, codeCS, k_exL_19, rcdS, k_exL_21, validCS, k_exL_22, rvalS, k_exL_23, textS, k_exL_24, rtextS, k_exL_25, hasS, on_ls_eq, k_exL_26, rhasS, k_exL_27, textsS, k_exL_28, lvS, k_exL_29, rlvS, k_exL_30, chS, k_exL_31, rchS, k_exL_33, sumS, on_lsi_eq, k_exL_34, rsumS, k_exL_36, parseCS, k_exL_37, rprsS, k_exL_38, sameHS, ΘA, Θ9, Θ8, Θ7, Θ6, Θ5, Θ4, Θ3, Θ2, Θ1, Ψ1, newS, preT_eq, preTr_eq, preC_eq, preCd_eq, preLn_eq, preBt_eq, preSp_eq, preN_eq, preP_eq, okP_eq, okN, arg1, arg2, intV, strV, slV, nS, pickS, psiNew_eq, map_sOf, Nat.reduceBEq, List.length_map, List.take_succ_cons, List.take_nil, Tryz.underlying1, sz1, by1, ze1, Tryz.underlying2, sz2, by2, ze2, Tryz.underlying3, sz3, by3, ze3, Tryz.underlying4, sz4, by4, ze4, Tryz.underlying5, sz5, by5, ze5, Tryz.underlying6, sz6, by6, ze6, Tryz.underlying9, sz9, by9, ze9, Tryz.underlying22, sz22, by22, ze22, Tryz.underlying23, sz23, by23, ze23, Tryz.underlying24, sz24, by24, ze24, Tryz.underlying28, sz28, by28, ze28, fa28_0, fa28_1, fa28_2, Tryz.underlying29, sz29, by29, ze29, Tryz.underlying34, sz34, by34, ze34, Tryz.underlying40, sz40, by40, ze40, Tryz.underlying43, sz43, by43, ze43, Tryz.underlying44, sz44, by44, ze44, Tryz.underlying51, sz51, by51, ze51, Tryz.underlying52, sz52, by52, ze52, Tryz.underlying55, sz55, by55, ze55, Tryz.underlying60, sz60, by60, ze60, fa60_0, fa60_1, planAt, go_sem, ↓reduceIte, reduceCtorEq, Nat.reduceEqDiff, Nat.reduceLT, ↓all_qVz, ↓all_qVz', Int.reduceToNat, Int.reduceLT, Int.reduceLE, Nat.reduceAdd, Nat.reduceLeDiff, Nat.reduceMul, ev_callG, gcallK_b, gcallK_w, callGc_true, callGc_false]
  refine ⟨⟨he1, he2⟩, ?_⟩
  clear he1 he2 hl1 f1 hi1 hlt c0
  refine AWp.here (T := planAt 30) (α := Unit) (fun _ => ([(1, .pv (.str a)), (2, .pv (.str b)), (3, .pv (.sl raw)), (4, .pv (.sl lines)), (5, .pv (.int .i64 year)), (6, .pv (.sl (parts.map intV))), (7, .pv (.str text)), (19, .ptr 93 0)], [(93, .obj Tp)])) (fun _ => True) ⟨(), trivial, ⟨by simp [fitR, look, upd], by simp [fitH, hget, hset], rfl, rfl, rfl⟩⟩ ?_
  intro _ _
  simp (config := {maxSteps := 1000000}) only [k_exL_4, smallS, on_l_eq, k_exL_5, awake3S, on__eq, k_exL_10, intsS, on_ll_eq, k_exL_11, partsCS, on_s_eq, k_exL_12, rptS, k_exL_13, cmpCS, on_ss_eq, k_exL_14, rcmS, k_exL_15, underCS, k_exL_16, runS, k_exL_18, codeCS, k_exL_19, rcdS, k_exL_21, validCS, k_exL_22, rvalS, k_exL_23, textS, k_exL_24, rtextS, k_exL_25, hasS, on_ls_eq, k_exL_26, rhasS, k_exL_27, textsS, k_exL_28, lvS, k_exL_29, rlvS, k_exL_30, chS, k_exL_31, rchS, k_exL_33, sumS, on_lsi_eq, k_exL_34, rsumS, k_exL_36, parseCS, k_exL_37, rprsS, k_exL_38, sameHS, ΘA, Θ9, Θ8, Θ7, Θ6, Θ5, Θ4, Θ3, Θ2, Θ1, Ψ1, newS, preT_eq, preTr_eq, preC_eq, preCd_eq, preLn_eq, preBt_eq, preSp_eq, preN_eq, preP_eq, okP_eq, okN, arg1, arg2, intV, strV, slV, nS, pickS, psiNew_eq, map_sOf, Nat.reduceBEq, List.length_map, List.take_succ_cons, List.take_nil, Tryz.underlying1, sz1, by1, ze1, Tryz.underlying2, sz2, by2, ze2, Tryz.underlying3, sz3, by3, ze3, Tryz.underlying4, sz4, by4, ze4, Tryz.underlying5, sz5, by5, ze5, Tryz.underlying6, sz6, by6, ze6, Tryz.underlying9, sz9, by9, ze9, Tryz.underlying22, sz22, by22, ze22, Tryz.underlying23, sz23, by23, ze23, Tryz.underlying24, sz24, by24, ze24, Tryz.underlying28, sz28, by28, ze28, fa28_0, fa28_1, fa28_2, Tryz.underlying29, sz29, by29, ze29, Tryz.underlying34, sz34, by34, ze34, Tryz.underlying40, sz40, by40, ze40, Tryz.underlying43, sz43, by43, ze43, Tryz.underlying44, sz44, by44, ze44, Tryz.underlying51, sz51, by51, ze51, Tryz.underlying52, sz52, by52, ze52, Tryz.underlying55, sz55, by55, ze55, Tryz.underlying60, sz60, by60, ze60, fa60_0, fa60_1, planAt, go_sem, ↓reduceIte, reduceCtorEq, Nat.reduceEqDiff, Nat.reduceLT, ↓all_qVz, ↓all_qVz', Int.reduceToNat, Int.reduceLT, Int.reduceLE, Nat.reduceAdd, Nat.reduceLeDiff, Nat.reduceMul, ev_callG, gcallK_b, gcallK_w, callGc_true, callGc_false]
  intro l hl
  obtain ⟨ht, ⟨e9, he9, _⟩, _, htc, hnm, _⟩ := hl
  have hne : l ≠ [] := List.ne_nil_of_mem he9
  obtain ⟨hgd, hcl⟩ := tree_good htc hnm
  have hlen : l.length ≤ 45 := hgd.len
  have hlq : ∀ e, e ∈ l → isHq e := fun e he => by
    obtain ⟨c, n, h1, h2, h3⟩ := hnm e he
    have := (nm5_ok n h3).2.1
    exact ⟨c, n, h1, by omega, by omega⟩
  clear htc hnm he9
  rw [Stop_eq]
  simp (config := {maxSteps := 1000000}) only [k_exL_4, smallS, on_l_eq, k_exL_5, awake3S, on__eq, k_exL_10, intsS, on_ll_eq, k_exL_11, partsCS, on_s_eq, k_exL_12, rptS, k_exL_13, cmpCS, on_ss_eq, k_exL_14, rcmS, k_exL_15, underCS, k_exL_16, runS, k_exL_18, codeCS, k_exL_19, rcdS, k_exL_21, validCS, k_exL_22, rvalS, k_exL_23, textS, k_exL_24, rtextS, k_exL_25, hasS, on_ls_eq, k_exL_26, rhasS, k_exL_27, textsS, k_exL_28, lvS, k_exL_29, rlvS, k_exL_30, chS, k_exL_31, rchS, k_exL_33, sumS, on_lsi_eq, k_exL_34, rsumS, k_exL_36, parseCS, k_exL_37, rprsS, k_exL_38, sameHS, ΘA, Θ9, Θ8, Θ7, Θ6, Θ5, Θ4, Θ3, Θ2, Θ1, Ψ1, newS, preT_eq, preTr_eq, preC_eq, preCd_eq, preLn_eq, preBt_eq, preSp_eq, preN_eq, preP_eq, okP_eq, okN, arg1, arg2, intV, strV, slV, nS, pickS, psiNew_eq, map_sOf, Nat.reduceBEq, List.length_map, List.take_succ_cons, List.take_nil, Tryz.underlying1, sz1, by1, ze1, Tryz.underlying2, sz2, by2, ze2, Tryz.underlying3, sz3, by3, ze3, Tryz.underlying4, sz4, by4, ze4, Tryz.underlying5, sz5, by5, ze5, Tryz.underlying6, sz6, by6, ze6, Tryz.underlying9, sz9, by9, ze9, Tryz.underlying22, sz22, by22, ze22, Tryz.underlying23, sz23, by23, ze23, Tryz.underlying24, sz24, by24, ze24, Tryz.underlying28, sz28, by28, ze28, fa28_0, fa28_1, fa28_2, Tryz.underlying29, sz29, by29, ze29, Tryz.underlying34, sz34, by34, ze34, Tryz.underlying40, sz40, by40, ze40, Tryz.underlying43, sz43, by43, ze43, Tryz.underlying44, sz44, by44, ze44, Tryz.underlying51, sz51, by51, ze51, Tryz.underlying52, sz52, by52, ze52, Tryz.underlying55, sz55, by55, ze55, Tryz.underlying60, sz60, by60, ze60, fa60_0, fa60_1, planAt, go_sem, ↓reduceIte, reduceCtorEq, Nat.reduceEqDiff, Nat.reduceLT, ↓all_qV, Int.reduceToNat, Int.reduceLT, Int.reduceLE, Nat.reduceAdd, Nat.reduceLeDiff, Nat.reduceMul, ev_callG, gcallK_b, gcallK_w, callGc_true, callGc_false]
  refine ⟨⟨ht, hne⟩, fun c1 hc1 => ⟨⟨ht, hne⟩, fun c2 hc2 c3 hc3 => ?_⟩⟩
  have hc1 : c1.length ≤ 100 := hc1
  have hc2 : c2.length ≤ 100 := hc2
  have hc3 : c3.length ≤ 100 := hc3
  have hcd : ∀ k : Nat, k < 6 → ∃ x : List UInt8, (([.str a, .str b, .str c1, .str c2, .str c3, .str []] : List PV).getD k default) = .str x ∧ x.length ≤ 100 := fun k hk => by
    have : k = 0 ∨ k = 1 ∨ k = 2 ∨ k = 3 ∨ k = 4 ∨ k = 5 := by omega
    rcases this with rfl | rfl | rfl | rfl | rfl | rfl
    · exact ⟨a, rfl, by omega⟩
    · exact ⟨b, rfl, by omega⟩
    · exact ⟨c1, rfl, hc1⟩
    · exact ⟨c2, rfl, hc2⟩
    · exact ⟨c3, rfl, hc3⟩
    · exact ⟨[], rfl, by decide⟩
  have hcn : ([.str a, .str b, .str c1, .str c2, .str c3, .str []] : List PV).length = 6 := rfl
  generalize ([.str a, .str b, .str c1, .str c2, .str c3, .str []] : List PV) = CD at hcd hcn ⊢
  clear hc1 hc2 hc3 hal hbl
  refine AWp.loop (T := planAt 30) (α := Nat) (fun k => ([(3, .pv (.sl raw)), (4, .pv (.sl lines)), (5, .pv (.int .i64 year)), (6, .pv (.sl (parts.map intV))), (7, .pv (.str text)), (19, .ptr 93 0), (20, .pv (.sl l)), (21, .pv (.sl CD)), (107, .pv (.sl CD)), (108, .pv (.int .i64 6)), (109, .pv (.int .i64 k))], [(93, .obj Tp)])) (fun k => k ≤ 6) (fun k => 6 - k)
    ⟨0, Nat.zero_le _, ⟨by simp [fitR, look], by simp [fitH, hget], rfl, rfl, rfl⟩⟩ ?_
  intro k hk
  have hi1 : IntKind.i64.wrap ((k : Int) + 1) = ((k + 1 : Nat) : Int) := by rw [i64_in _ (by omega)]; omega
  by_cases hlt : k < 6
  · have c0 : decide ((k : Int) < 6) = true := by simp; omega
    obtain ⟨x, e1, hxl⟩ := hcd k hlt
    simp (config := {maxSteps := 1000000}) only [c0, e1, hi1, hcn, beq_self_eq_true, Bool.not_true, false_implies, true_implies, forall_const, k_exL_4, smallS, on_l_eq, k_exL_5, awake3S, on__eq, k_exL_10, intsS, on_ll_eq, k_exL_11, partsCS, on_s_eq, k_exL_12, rptS, k_exL_13, cmpCS, on_ss_eq, k_exL_14, rcmS, k_exL_15, underCS, k_exL_16, runS, k_exL_18, codeCS, k_exL_19, rcdS, k_exL_21, validCS, k_exL_22, rvalS, k_exL_23, textS, k_exL_24, rtextS, k_exL_25, hasS, on_ls_eq, k_exL_26, rhasS, k_exL_27, textsS, k_exL_28, lvS, k_exL_29, rlvS, k_exL_30, chS, k_exL_31, rchS, k_exL_33, sumS, on_lsi_eq, k_exL_34, rsumS, k_exL_36, parseCS, k_exL_37, rprsS, k_exL_38, sameHS, ΘA, Θ9, Θ8, Θ7, Θ6, Θ5, Θ4, Θ3, Θ2, Θ1, Ψ1, newS, preT_eq, preTr_eq, preC_eq, preCd_eq, preLn_eq, preBt_eq, preSp_eq, preN_eq, preP_eq, okP_eq, okN, arg1, arg2, intV, strV, slV, nS, pickS, psiNew_eq, map_sOf, Nat.reduceBEq, List.length_map, List.take_succ_cons, List.take_nil, Tryz.underlying1, sz1, by1, ze1, Tryz.underlying2, sz2, by2, ze2, Tryz.underlying3, sz3, by3, ze3, Tryz.underlying4, sz4, by4, ze4, Tryz.underlying5, sz5, by5, ze5, Tryz.underlying6, sz6, by6, ze6, Tryz.underlying9, sz9, by9, ze9, Tryz.underlying22, sz22, by22, ze22, Tryz.underlying23, sz23, by23, ze23, Tryz.underlying24, sz24, by24, ze24, Tryz.underlying28, sz28, by28, ze28, fa28_0, fa28_1, fa28_2, Tryz.underlying29, sz29, by29, ze29, Tryz.underlying34, sz34, by34, ze34, Tryz.underlying40, sz40, by40, ze40, Tryz.underlying43, sz43, by43, ze43, Tryz.underlying44, sz44, by44, ze44, Tryz.underlying51, sz51, by51, ze51, Tryz.underlying52, sz52, by52, ze52, Tryz.underlying55, sz55, by55, ze55, Tryz.underlying60, sz60, by60, ze60, fa60_0, fa60_1, planAt, go_sem, ↓reduceIte, reduceCtorEq, Nat.reduceEqDiff, Nat.reduceLT, ↓all_qV, Int.reduceToNat, Int.reduceLT, Int.reduceLE, Nat.reduceAdd, Nat.reduceLeDiff, Nat.reduceMul, ev_callG, gcallK_b, gcallK_w, callGc_true, callGc_false]
    refine ⟨⟨by omega, by omega⟩, by omega, by omega, ⟨⟨_, rfl⟩, ⟨_, rfl⟩, by have := partsR_len x; omega⟩, ?_⟩
    refine AWp.loop (T := planAt 30) (α := Nat) (fun j => ([(3, .pv (.sl raw)), (4, .pv (.sl lines)), (5, .pv (.int .i64 year)), (6, .pv (.sl (parts.map intV))), (7, .pv (.str text)), (19, .ptr 93 0), (20, .pv (.sl l)), (21, .pv (.sl CD)), (23, .pv (.str x)), (107, .pv (.sl CD)), (108, .pv (.int .i64 6)), (109, .pv (.int .i64 k)), (119, .pv (.sl CD)), (120, .pv (.int .i64 6)), (121, .pv (.int .i64 j))], [(93, .obj Tp)])) (fun j => j ≤ 6) (fun j => 6 - j)
      ⟨0, Nat.zero_le _, ⟨by simp [fitR, look], by simp [fitH, hget], rfl, rfl, rfl⟩⟩ ?_
    intro j hj
    have hj1 : IntKind.i64.wrap ((j : Int) + 1) = ((j + 1 : Nat) : Int) := by rw [i64_in _ (by omega)]; omega
    by_cases hjt : j < 6
    · have c1 : decide ((j : Int) < 6) = true := by simp; omega
      obtain ⟨y, e2, hyl⟩ := hcd j hjt
      simp (config := {maxSteps := 1000000}) only [c1, e2, hj1, hcn, bne_self_eq_false, Bool.or_self, beq_self_eq_true, Bool.not_false, Bool.not_true, false_implies, true_implies, forall_const, k_exL_4, smallS, on_l_eq, k_exL_5, awake3S, on__eq, k_exL_10, intsS, on_ll_eq, k_exL_11, partsCS, on_s_eq, k_exL_12, rptS, k_exL_13, cmpCS, on_ss_eq, k_exL_14, rcmS, k_exL_15, underCS, k_exL_16, runS, k_exL_18, codeCS, k_exL_19, rcdS, k_exL_21, validCS, k_exL_22, rvalS, k_exL_23, textS, k_exL_24, rtextS, k_exL_25, hasS, on_ls_eq, k_exL_26, rhasS, k_exL_27, textsS, k_exL_28, lvS, k_exL_29, rlvS, k_exL_30, chS, k_exL_31, rchS, k_exL_33, sumS, on_lsi_eq, k_exL_34, rsumS, k_exL_36, parseCS, k_exL_37, rprsS, k_exL_38, sameHS, ΘA, Θ9, Θ8, Θ7, Θ6, Θ5, Θ4, Θ3, Θ2, Θ1, Ψ1, newS, preT_eq, preTr_eq, preC_eq, preCd_eq, preLn_eq, preBt_eq, preSp_eq, preN_eq, preP_eq, okP_eq, okN, arg1, arg2, intV, strV, slV, nS, pickS, psiNew_eq, map_sOf, Nat.reduceBEq, List.length_map, List.take_succ_cons, List.take_nil, Tryz.underlying1, sz1, by1, ze1, Tryz.underlying2, sz2, by2, ze2, Tryz.underlying3, sz3, by3, ze3, Tryz.underlying4, sz4, by4, ze4, Tryz.underlying5, sz5, by5, ze5, Tryz.underlying6, sz6, by6, ze6, Tryz.underlying9, sz9, by9, ze9, Tryz.underlying22, sz22, by22, ze22, Tryz.underlying23, sz23, by23, ze23, Tryz.underlying24, sz24, by24, ze24, Tryz.underlying28, sz28, by28, ze28, fa28_0, fa28_1, fa28_2, Tryz.underlying29, sz29, by29, ze29, Tryz.underlying34, sz34, by34, ze34, Tryz.underlying40, sz40, by40, ze40, Tryz.underlying43, sz43, by43, ze43, Tryz.underlying44, sz44, by44, ze44, Tryz.underlying51, sz51, by51, ze51, Tryz.underlying52, sz52, by52, ze52, Tryz.underlying55, sz55, by55, ze55, Tryz.underlying60, sz60, by60, ze60, fa60_0, fa60_1, planAt, go_sem, ↓reduceIte, reduceCtorEq, Nat.reduceEqDiff, Nat.reduceLT, ↓all_qV, Int.reduceToNat, Int.reduceLT, Int.reduceLE, Nat.reduceAdd, Nat.reduceLeDiff, Nat.reduceMul, ev_callG, gcallK_b, gcallK_w, callGc_true, callGc_false]
      exact ⟨⟨by omega, by omega⟩, ⟨by omega, by omega⟩, ⟨by omega, by omega⟩, ⟨by omega, by omega⟩, ⟨by omega, by omega⟩, by kernel_rfl, j + 1, by omega, by omega, ⟨by simp [fitR, look], by simp [fitH, hget], rfl, rfl, rfl⟩⟩
    · have c1 : decide ((j : Int) < 6) = false := by simp; omega
      simp (config := {maxSteps := 1000000}) only [c1, hi1, k_exL_4, smallS, on_l_eq, k_exL_5, awake3S, on__eq, k_exL_10, intsS, on_ll_eq, k_exL_11, partsCS, on_s_eq, k_exL_12, rptS, k_exL_13, cmpCS, on_ss_eq, k_exL_14, rcmS, k_exL_15, underCS, k_exL_16, runS, k_exL_18, codeCS, k_exL_19, rcdS, k_exL_21, validCS, k_exL_22, rvalS, k_exL_23, textS, k_exL_24, rtextS, k_exL_25, hasS, on_ls_eq, k_exL_26, rhasS, k_exL_27, textsS, k_exL_28, lvS, k_exL_29, rlvS, k_exL_30, chS, k_exL_31, rchS, k_exL_33, sumS, on_lsi_eq, k_exL_34, rsumS, k_exL_36, parseCS, k_exL_37, rprsS, k_exL_38, sameHS, ΘA, Θ9, Θ8, Θ7, Θ6, Θ5, Θ4, Θ3, Θ2, Θ1, Ψ1, newS, preT_eq, preTr_eq, preC_eq, preCd_eq, preLn_eq, preBt_eq, preSp_eq, preN_eq, preP_eq, okP_eq, okN, arg1, arg2, intV, strV, slV, nS, pickS, psiNew_eq, map_sOf, Nat.reduceBEq, List.length_map, List.take_succ_cons, List.take_nil, Tryz.underlying1, sz1, by1, ze1, Tryz.underlying2, sz2, by2, ze2, Tryz.underlying3, sz3, by3, ze3, Tryz.underlying4, sz4, by4, ze4, Tryz.underlying5, sz5, by5, ze5, Tryz.underlying6, sz6, by6, ze6, Tryz.underlying9, sz9, by9, ze9, Tryz.underlying22, sz22, by22, ze22, Tryz.underlying23, sz23, by23, ze23, Tryz.underlying24, sz24, by24, ze24, Tryz.underlying28, sz28, by28, ze28, fa28_0, fa28_1, fa28_2, Tryz.underlying29, sz29, by29, ze29, Tryz.underlying34, sz34, by34, ze34, Tryz.underlying40, sz40, by40, ze40, Tryz.underlying43, sz43, by43, ze43, Tryz.underlying44, sz44, by44, ze44, Tryz.underlying51, sz51, by51, ze51, Tryz.underlying52, sz52, by52, ze52, Tryz.underlying55, sz55, by55, ze55, Tryz.underlying60, sz60, by60, ze60, fa60_0, fa60_1, planAt, go_sem, ↓reduceIte, reduceCtorEq, Nat.reduceEqDiff, Nat.reduceLT, ↓all_qV, Int.reduceToNat, Int.reduceLT, Int.reduceLE, Nat.reduceAdd, Nat.reduceLeDiff, Nat.reduceMul, ev_callG, gcallK_b, gcallK_w, callGc_true, callGc_false]
      exact ⟨k + 1, by omega, by omega, ⟨by simp [fitR, look], by simp [fitH, hget], rfl, rfl, rfl⟩⟩
  have c0 : decide ((k : Int) < 6) = false := by simp; omega
  clear hi1 hlt hk
  simp (config := {maxSteps := 1000000}) only [c0, k_exL_4, smallS, on_l_eq, k_exL_5, awake3S, on__eq, k_exL_10, intsS, on_ll_eq, k_exL_11, partsCS, on_s_eq, k_exL_12, rptS, k_exL_13, cmpCS, on_ss_eq, k_exL_14, rcmS, k_exL_15, underCS, k_exL_16, runS, k_exL_18, codeCS, k_exL_19, rcdS, k_exL_21, validCS, k_exL_22, rvalS, k_exL_23, textS, k_exL_24, rtextS, k_exL_25, hasS, on_ls_eq, k_exL_26, rhasS, k_exL_27, textsS, k_exL_28, lvS, k_exL_29, rlvS, k_exL_30, chS, k_exL_31, rchS, k_exL_33, sumS, on_lsi_eq, k_exL_34, rsumS, k_exL_36, parseCS, k_exL_37, rprsS, k_exL_38, sameHS, ΘA, Θ9, Θ8, Θ7, Θ6, Θ5, Θ4, Θ3, Θ2, Θ1, Ψ1, newS, preT_eq, preTr_eq, preC_eq, preCd_eq, preLn_eq, preBt_eq, preSp_eq, preN_eq, preP_eq, okP_eq, okN, arg1, arg2, intV, strV, slV, nS, pickS, psiNew_eq, map_sOf, Nat.reduceBEq, List.length_map, List.take_succ_cons, List.take_nil, Tryz.underlying1, sz1, by1, ze1, Tryz.underlying2, sz2, by2, ze2, Tryz.underlying3, sz3, by3, ze3, Tryz.underlying4, sz4, by4, ze4, Tryz.underlying5, sz5, by5, ze5, Tryz.underlying6, sz6, by6, ze6, Tryz.underlying9, sz9, by9, ze9, Tryz.underlying22, sz22, by22, ze22, Tryz.underlying23, sz23, by23, ze23, Tryz.underlying24, sz24, by24, ze24, Tryz.underlying28, sz28, by28, ze28, fa28_0, fa28_1, fa28_2, Tryz.underlying29, sz29, by29, ze29, Tryz.underlying34, sz34, by34, ze34, Tryz.underlying40, sz40, by40, ze40, Tryz.underlying43, sz43, by43, ze43, Tryz.underlying44, sz44, by44, ze44, Tryz.underlying51, sz51, by51, ze51, Tryz.underlying52, sz52, by52, ze52, Tryz.underlying55, sz55, by55, ze55, Tryz.underlying60, sz60, by60, ze60, fa60_0, fa60_1, planAt, go_sem, ↓reduceIte, reduceCtorEq, Nat.reduceEqDiff, Nat.reduceLT, ↓all_qV, Int.reduceToNat, Int.reduceLT, Int.reduceLE, Nat.reduceAdd, Nat.reduceLeDiff, Nat.reduceMul, ev_callG, gcallK_b, gcallK_w, callGc_true, callGc_false]
  clear c0
  intro n1 hn1 n2 hn2
  have hps : ∀ k : Nat, k < 4 → ∃ p : List Int, (([.sl (parts.map intV), .sl [.int .i64 n1, .int .i64 n2], .sl [.int .i64 1, .int .i64 2, .int .i64 3, .int .i64 4], .sl [.int .i64 1, .int .i64 2, .int .i64 3, .int .i64 4, .int .i64 5]] : List PV).getD k default) = .sl (p.map intV) ∧ (∀ n, n ∈ p → -9223372036854775808 ≤ n ∧ n ≤ 9223372036854775807) ∧ p.length ≤ 20 := fun k hk => by
    have : k = 0 ∨ k = 1 ∨ k = 2 ∨ k = 3 := by omega
    rcases this with rfl | rfl | rfl | rfl
    · exact ⟨parts, rfl, hp1, hpl⟩
    · refine ⟨[n1, n2], rfl, fun n hn => ?_, by simp⟩
      simp only [List.mem_cons, List.not_mem_nil, or_false] at hn
      rcases hn with rfl | rfl <;> omega
    · exact ⟨[1, 2, 3, 4], rfl, by decide, by simp⟩
    · exact ⟨[1, 2, 3, 4, 5], rfl, by decide, by simp⟩
  have hpn : ([.sl (parts.map intV), .sl [.int .i64 n1, .int .i64 n2], .sl [.int .i64 1, .int .i64 2, .int .i64 3, .int .i64 4], .sl [.int .i64 1, .int .i64 2, .int .i64 3, .int .i64 4, .int .i64 5]] : List PV).length = 4 := rfl
  generalize ([.sl (parts.map intV), .sl [.int .i64 n1, .int .i64 n2], .sl [.int .i64 1, .int .i64 2, .int .i64 3, .int .i64 4], .sl [.int .i64 1, .int .i64 2, .int .i64 3, .int .i64 4, .int .i64 5]] : List PV) = PT at hps hpn ⊢
  clear hn1 hn2 hp1 hpl
  refine AWp.loop (T := planAt 42) (α := Nat) (fun k => ([(3, .pv (.sl raw)), (4, .pv (.sl lines)), (5, .pv (.int .i64 year)), (7, .pv (.str text)), (19, .ptr 93 0), (20, .pv (.sl l)), (21, .pv (.sl CD)), (151, .pv (.sl PT)), (152, .pv (.int .i64 4)), (153, .pv (.int .i64 k))], [(93, .obj Tp)])) (fun k => k ≤ 4) (fun k => 4 - k)
    ⟨0, Nat.zero_le _, ⟨by simp [fitR, look], by simp [fitH, hget], rfl, rfl, rfl⟩⟩ ?_
  intro k hk
  have hi1 : IntKind.i64.wrap ((k : Int) + 1) = ((k + 1 : Nat) : Int) := by rw [i64_in _ (by omega)]; omega
  by_cases hlt : k < 4
  · have c0 : decide ((k : Int) < 4) = true := by simp; omega
    obtain ⟨p, e1, hp1, hpl⟩ := hps k hlt
    have hj := jn_len hp1
    have hpc : ∃ l : List Int, p.map intV = l.map intV ∧ (∀ n, n ∈ l → -9223372036854775808 ≤ n ∧ n ≤ 9223372036854775807) ∧ l.length ≤ 1000000 ∧ (jnF l).length ≤ 1000000000000 := ⟨p, rfl, hp1, by omega, by omega⟩
    simp (config := {maxSteps := 1000000}) only [c0, e1, hi1, hpn, bne_self_eq_false, Bool.or_self, beq_self_eq_true, Bool.not_true, false_implies, true_implies, forall_const, k_exL_4, smallS, on_l_eq, k_exL_5, awake3S, on__eq, k_exL_10, intsS, on_ll_eq, k_exL_11, partsCS, on_s_eq, k_exL_12, rptS, k_exL_13, cmpCS, on_ss_eq, k_exL_14, rcmS, k_exL_15, underCS, k_exL_16, runS, k_exL_18, codeCS, k_exL_19, rcdS, k_exL_21, validCS, k_exL_22, rvalS, k_exL_23, textS, k_exL_24, rtextS, k_exL_25, hasS, on_ls_eq, k_exL_26, rhasS, k_exL_27, textsS, k_exL_28, lvS, k_exL_29, rlvS, k_exL_30, chS, k_exL_31, rchS, k_exL_33, sumS, on_lsi_eq, k_exL_34, rsumS, k_exL_36, parseCS, k_exL_37, rprsS, k_exL_38, sameHS, ΘA, Θ9, Θ8, Θ7, Θ6, Θ5, Θ4, Θ3, Θ2, Θ1, Ψ1, newS, preT_eq, preTr_eq, preC_eq, preCd_eq, preLn_eq, preBt_eq, preSp_eq, preN_eq, preP_eq, okP_eq, okN, arg1, arg2, intV, strV, slV, nS, pickS, psiNew_eq, map_sOf, Nat.reduceBEq, List.length_map, List.take_succ_cons, List.take_nil, Tryz.underlying1, sz1, by1, ze1, Tryz.underlying2, sz2, by2, ze2, Tryz.underlying3, sz3, by3, ze3, Tryz.underlying4, sz4, by4, ze4, Tryz.underlying5, sz5, by5, ze5, Tryz.underlying6, sz6, by6, ze6, Tryz.underlying9, sz9, by9, ze9, Tryz.underlying22, sz22, by22, ze22, Tryz.underlying23, sz23, by23, ze23, Tryz.underlying24, sz24, by24, ze24, Tryz.underlying28, sz28, by28, ze28, fa28_0, fa28_1, fa28_2, Tryz.underlying29, sz29, by29, ze29, Tryz.underlying34, sz34, by34, ze34, Tryz.underlying40, sz40, by40, ze40, Tryz.underlying43, sz43, by43, ze43, Tryz.underlying44, sz44, by44, ze44, Tryz.underlying51, sz51, by51, ze51, Tryz.underlying52, sz52, by52, ze52, Tryz.underlying55, sz55, by55, ze55, Tryz.underlying60, sz60, by60, ze60, fa60_0, fa60_1, planAt, go_sem, ↓reduceIte, reduceCtorEq, Nat.reduceEqDiff, Nat.reduceLT, ↓all_qV, Int.reduceToNat, Int.reduceLT, Int.reduceLE, Nat.reduceAdd, Nat.reduceLeDiff, Nat.reduceMul, ev_callG, gcallK_b, gcallK_w, callGc_true, callGc_false]
    exact ⟨⟨by omega, by omega⟩, hpc, ⟨⟨p, rfl⟩, by omega⟩, k + 1, by omega, by omega, ⟨by simp [fitR, look], by simp [fitH, hget], rfl, rfl, rfl⟩⟩
  have c0 : decide ((k : Int) < 4) = false := by simp; omega
  clear hi1 hlt hk hps hpn
  simp (config := {maxSteps := 1000000}) only [c0, k_exL_4, smallS, on_l_eq, k_exL_5, awake3S, on__eq, k_exL_10, intsS, on_ll_eq, k_exL_11, partsCS, on_s_eq, k_exL_12, rptS, k_exL_13, cmpCS, on_ss_eq, k_exL_14, rcmS, k_exL_15, underCS, k_exL_16, runS, k_exL_18, codeCS, k_exL_19, rcdS, k_exL_21, validCS, k_exL_22, rvalS, k_exL_23, textS, k_exL_24, rtextS, k_exL_25, hasS, on_ls_eq, k_exL_26, rhasS, k_exL_27, textsS, k_exL_28, lvS, k_exL_29, rlvS, k_exL_30, chS, k_exL_31, rchS, k_exL_33, sumS, on_lsi_eq, k_exL_34, rsumS, k_exL_36, parseCS, k_exL_37, rprsS, k_exL_38, sameHS, ΘA, Θ9, Θ8, Θ7, Θ6, Θ5, Θ4, Θ3, Θ2, Θ1, Ψ1, newS, preT_eq, preTr_eq, preC_eq, preCd_eq, preLn_eq, preBt_eq, preSp_eq, preN_eq, preP_eq, okP_eq, okN, arg1, arg2, intV, strV, slV, nS, pickS, psiNew_eq, map_sOf, Nat.reduceBEq, List.length_map, List.take_succ_cons, List.take_nil, Tryz.underlying1, sz1, by1, ze1, Tryz.underlying2, sz2, by2, ze2, Tryz.underlying3, sz3, by3, ze3, Tryz.underlying4, sz4, by4, ze4, Tryz.underlying5, sz5, by5, ze5, Tryz.underlying6, sz6, by6, ze6, Tryz.underlying9, sz9, by9, ze9, Tryz.underlying22, sz22, by22, ze22, Tryz.underlying23, sz23, by23, ze23, Tryz.underlying24, sz24, by24, ze24, Tryz.underlying28, sz28, by28, ze28, fa28_0, fa28_1, fa28_2, Tryz.underlying29, sz29, by29, ze29, Tryz.underlying34, sz34, by34, ze34, Tryz.underlying40, sz40, by40, ze40, Tryz.underlying43, sz43, by43, ze43, Tryz.underlying44, sz44, by44, ze44, Tryz.underlying51, sz51, by51, ze51, Tryz.underlying52, sz52, by52, ze52, Tryz.underlying55, sz55, by55, ze55, Tryz.underlying60, sz60, by60, ze60, fa60_0, fa60_1, planAt, go_sem, ↓reduceIte, reduceCtorEq, Nat.reduceEqDiff, Nat.reduceLT, ↓all_qV, Int.reduceToNat, Int.reduceLT, Int.reduceLE, Nat.reduceAdd, Nat.reduceLeDiff, Nat.reduceMul, ev_callG, gcallK_b, gcallK_w, callGc_true, callGc_false]
  clear c0
  refine AWp.here (T := planAt 42) (α := Unit) (fun _ => ([(3, .pv (.sl raw)), (4, .pv (.sl lines)), (5, .pv (.int .i64 year)), (7, .pv (.str text)), (19, .ptr 93 0), (20, .pv (.sl l)), (21, .pv (.sl CD))], [(93, .obj Tp)])) (fun _ => True) ⟨(), trivial, ⟨by simp [fitR, look, upd], by simp [fitH, hget, hset], rfl, rfl, rfl⟩⟩ ?_
  intro _ _
  simp (config := {maxSteps := 1000000}) only [k_exL_4, smallS, on_l_eq, k_exL_5, awake3S, on__eq, k_exL_10, intsS, on_ll_eq, k_exL_11, partsCS, on_s_eq, k_exL_12, rptS, k_exL_13, cmpCS, on_ss_eq, k_exL_14, rcmS, k_exL_15, underCS, k_exL_16, runS, k_exL_18, codeCS, k_exL_19, rcdS, k_exL_21, validCS, k_exL_22, rvalS, k_exL_23, textS, k_exL_24, rtextS, k_exL_25, hasS, on_ls_eq, k_exL_26, rhasS, k_exL_27, textsS, k_exL_28, lvS, k_exL_29, rlvS, k_exL_30, chS, k_exL_31, rchS, k_exL_33, sumS, on_lsi_eq, k_exL_34, rsumS, k_exL_36, parseCS, k_exL_37, rprsS, k_exL_38, sameHS, ΘA, Θ9, Θ8, Θ7, Θ6, Θ5, Θ4, Θ3, Θ2, Θ1, Ψ1, newS, preT_eq, preTr_eq, preC_eq, preCd_eq, preLn_eq, preBt_eq, preSp_eq, preN_eq, preP_eq, okP_eq, okN, arg1, arg2, intV, strV, slV, nS, pickS, psiNew_eq, map_sOf, Nat.reduceBEq, List.length_map, List.take_succ_cons, List.take_nil, Tryz.underlying1, sz1, by1, ze1, Tryz.underlying2, sz2, by2, ze2, Tryz.underlying3, sz3, by3, ze3, Tryz.underlying4, sz4, by4, ze4, Tryz.underlying5, sz5, by5, ze5, Tryz.underlying6, sz6, by6, ze6, Tryz.underlying9, sz9, by9, ze9, Tryz.underlying22, sz22, by22, ze22, Tryz.underlying23, sz23, by23, ze23, Tryz.underlying24, sz24, by24, ze24, Tryz.underlying28, sz28, by28, ze28, fa28_0, fa28_1, fa28_2, Tryz.underlying29, sz29, by29, ze29, Tryz.underlying34, sz34, by34, ze34, Tryz.underlying40, sz40, by40, ze40, Tryz.underlying43, sz43, by43, ze43, Tryz.underlying44, sz44, by44, ze44, Tryz.underlying51, sz51, by51, ze51, Tryz.underlying52, sz52, by52, ze52, Tryz.underlying55, sz55, by55, ze55, Tryz.underlying60, sz60, by60, ze60, fa60_0, fa60_1, planAt, go_sem, ↓reduceIte, reduceCtorEq, Nat.reduceEqDiff, Nat.reduceLT, ↓all_qV, Int.reduceToNat, Int.reduceLT, Int.reduceLE, Nat.reduceAdd, Nat.reduceLeDiff, Nat.reduceMul, ev_callG, gcallK_b, gcallK_w, callGc_true, callGc_false]
  refine ⟨⟨⟨by omega, hlq⟩, hne⟩, fun bt hbt => ?_⟩
  have hhd : ∀ k : Nat, k < 3 → ∃ x : List PV, (([.sl l, .sl bt, .sl raw] : List PV).getD k default) = .sl x ∧ x.length ≤ 101 ∧ ∀ e, e ∈ x → isHq e := fun k hk => by
    have : k = 0 ∨ k = 1 ∨ k = 2 := by omega
    rcases this with rfl | rfl | rfl
    · exact ⟨l, rfl, by omega, hlq⟩
    · exact ⟨bt, rfl, hbt.1, hbt.2⟩
    · obtain ⟨q1, q2⟩ := small_ok hr1 gr
      exact ⟨raw, rfl, by omega, q2⟩
  have hhn : ([.sl l, .sl bt, .sl raw] : List PV).length = 3 := rfl
  generalize ([.sl l, .sl bt, .sl raw] : List PV) = HD at hhd hhn ⊢
  clear hbt hr1 gr
  refine AWp.loop (T := planAt 42) (α := Nat) (fun k => ([(4, .pv (.sl lines)), (5, .pv (.int .i64 year)), (7, .pv (.str text)), (19, .ptr 93 0), (20, .pv (.sl l)), (21, .pv (.sl CD)), (168, .pv (.sl HD)), (169, .pv (.int .i64 3)), (170, .pv (.int .i64 k))], [(93, .obj Tp)])) (fun k => k ≤ 3) (fun k => 3 - k)
    ⟨0, Nat.zero_le _, ⟨by simp [fitR, look], by simp [fitH, hget], rfl, rfl, rfl⟩⟩ ?_
  intro k hk
  have hi1 : IntKind.i64.wrap ((k : Int) + 1) = ((k + 1 : Nat) : Int) := by rw [i64_in _ (by omega)]; omega
  by_cases hlt : k < 3
  · have c0 : decide ((k : Int) < 3) = true := by simp; omega
    obtain ⟨x, e1, hxl, hxq⟩ := hhd k hlt
    have q1 : ∀ e, e ∈ x → isHs e := fun e he => (hxq e he).isHs
    have q2 : ∀ e, e ∈ x → isHn e := fun e he => (q1 e he).isHn
    have q3 : ∀ e, e ∈ x → isH e := fun e he => (q2 e he).isH
    simp (config := {maxSteps := 1000000}) only [c0, e1, hi1, hhn, hcn, bne_self_eq_false, Bool.or_self, beq_self_eq_true, Bool.not_false, Bool.not_true, false_implies, true_implies, forall_const, k_exL_4, smallS, on_l_eq, k_exL_5, awake3S, on__eq, k_exL_10, intsS, on_ll_eq, k_exL_11, partsCS, on_s_eq, k_exL_12, rptS, k_exL_13, cmpCS, on_ss_eq, k_exL_14, rcmS, k_exL_15, underCS, k_exL_16, runS, k_exL_18, codeCS, k_exL_19, rcdS, k_exL_21, validCS, k_exL_22, rvalS, k_exL_23, textS, k_exL_24, rtextS, k_exL_25, hasS, on_ls_eq, k_exL_26, rhasS, k_exL_27, textsS, k_exL_28, lvS, k_exL_29, rlvS, k_exL_30, chS, k_exL_31, rchS, k_exL_33, sumS, on_lsi_eq, k_exL_34, rsumS, k_exL_36, parseCS, k_exL_37, rprsS, k_exL_38, sameHS, ΘA, Θ9, Θ8, Θ7, Θ6, Θ5, Θ4, Θ3, Θ2, Θ1, Ψ1, newS, preT_eq, preTr_eq, preC_eq, preCd_eq, preLn_eq, preBt_eq, preSp_eq, preN_eq, preP_eq, okP_eq, okN, arg1, arg2, intV, strV, slV, nS, pickS, psiNew_eq, map_sOf, Nat.reduceBEq, List.length_map, List.take_succ_cons, List.take_nil, Tryz.underlying1, sz1, by1, ze1, Tryz.underlying2, sz2, by2, ze2, Tryz.underlying3, sz3, by3, ze3, Tryz.underlying4, sz4, by4, ze4, Tryz.underlying5, sz5, by5, ze5, Tryz.underlying6, sz6, by6, ze6, Tryz.underlying9, sz9, by9, ze9, Tryz.underlying22, sz22, by22, ze22, Tryz.underlying23, sz23, by23, ze23, Tryz.underlying24, sz24, by24, ze24, Tryz.underlying28, sz28, by28, ze28, fa28_0, fa28_1, fa28_2, Tryz.underlying29, sz29, by29, ze29, Tryz.underlying34, sz34, by34, ze34, Tryz.underlying40, sz40, by40, ze40, Tryz.underlying43, sz43, by43, ze43, Tryz.underlying44, sz44, by44, ze44, Tryz.underlying51, sz51, by51, ze51, Tryz.underlying52, sz52, by52, ze52, Tryz.underlying55, sz55, by55, ze55, Tryz.underlying60, sz60, by60, ze60, fa60_0, fa60_1, planAt, go_sem, ↓reduceIte, reduceCtorEq, Nat.reduceEqDiff, Nat.reduceLT, ↓all_qV, Int.reduceToNat, Int.reduceLT, Int.reduceLE, Nat.reduceAdd, Nat.reduceLeDiff, Nat.reduceMul, ev_callG, gcallK_b, gcallK_w, callGc_true, callGc_false]
    refine ⟨⟨by omega, by omega⟩, ⟨q2, by omega⟩, ⟨q2, by omega⟩, ⟨q1, by omega⟩, ⟨q1, by omega⟩, ?_⟩
    refine AWp.loop (T := planAt 42) (α := Nat) (fun j => ([(4, .pv (.sl lines)), (5, .pv (.int .i64 year)), (7, .pv (.str text)), (19, .ptr 93 0), (20, .pv (.sl l)), (21, .pv (.sl CD)), (29, .pv (.sl x)), (168, .pv (.sl HD)), (169, .pv (.int .i64 3)), (170, .pv (.int .i64 k)), (186, .pv (.sl CD)), (187, .pv (.int .i64 6)), (188, .pv (.int .i64 j))], [(93, .obj Tp)])) (fun j => j ≤ 6) (fun j => 6 - j)
      ⟨0, Nat.zero_le _, ⟨by simp [fitR, look], by simp [fitH, hget], rfl, rfl, rfl⟩⟩ ?_
    intro j hj
    have hj1 : IntKind.i64.wrap ((j : Int) + 1) = ((j + 1 : Nat) : Int) := by rw [i64_in _ (by omega)]; omega
    by_cases hjt : j < 6
    · have c1 : decide ((j : Int) < 6) = true := by simp; omega
      obtain ⟨y, e2, hyl⟩ := hcd j hjt
      simp (config := {maxSteps := 1000000}) only [c1, e2, hj1, hcn, bne_self_eq_false, Bool.or_self, beq_self_eq_true, Bool.not_false, Bool.not_true, false_implies, true_implies, forall_const, k_exL_4, smallS, on_l_eq, k_exL_5, awake3S, on__eq, k_exL_10, intsS, on_ll_eq, k_exL_11, partsCS, on_s_eq, k_exL_12, rptS, k_exL_13, cmpCS, on_ss_eq, k_exL_14, rcmS, k_exL_15, underCS, k_exL_16, runS, k_exL_18, codeCS, k_exL_19, rcdS, k_exL_21, validCS, k_exL_22, rvalS, k_exL_23, textS, k_exL_24, rtextS, k_exL_25, hasS, on_ls_eq, k_exL_26, rhasS, k_exL_27, textsS, k_exL_28, lvS, k_exL_29, rlvS, k_exL_30, chS, k_exL_31, rchS, k_exL_33, sumS, on_lsi_eq, k_exL_34, rsumS, k_exL_36, parseCS, k_exL_37, rprsS, k_exL_38, sameHS, ΘA, Θ9, Θ8, Θ7, Θ6, Θ5, Θ4, Θ3, Θ2, Θ1, Ψ1, newS, preT_eq, preTr_eq, preC_eq, preCd_eq, preLn_eq, preBt_eq, preSp_eq, preN_eq, preP_eq, okP_eq, okN, arg1, arg2, intV, strV, slV, nS, pickS, psiNew_eq, map_sOf, Nat.reduceBEq, List.length_map, List.take_succ_cons, List.take_nil, Tryz.underlying1, sz1, by1, ze1, Tryz.underlying2, sz2, by2, ze2, Tryz.underlying3, sz3, by3, ze3, Tryz.underlying4, sz4, by4, ze4, Tryz.underlying5, sz5, by5, ze5, Tryz.underlying6, sz6, by6, ze6, Tryz.underlying9, sz9, by9, ze9, Tryz.underlying22, sz22, by22, ze22, Tryz.underlying23, sz23, by23, ze23, Tryz.underlying24, sz24, by24, ze24, Tryz.underlying28, sz28, by28, ze28, fa28_0, fa28_1, fa28_2, Tryz.underlying29, sz29, by29, ze29, Tryz.underlying34, sz34, by34, ze34, Tryz.underlying40, sz40, by40, ze40, Tryz.underlying43, sz43, by43, ze43, Tryz.underlying44, sz44, by44, ze44, Tryz.underlying51, sz51, by51, ze51, Tryz.underlying52, sz52, by52, ze52, Tryz.underlying55, sz55, by55, ze55, Tryz.underlying60, sz60, by60, ze60, fa60_0, fa60_1, planAt, go_sem, ↓reduceIte, reduceCtorEq, Nat.reduceEqDiff, Nat.reduceLT, ↓all_qV, Int.reduceToNat, Int.reduceLT, Int.reduceLE, Nat.reduceAdd, Nat.reduceLeDiff, Nat.reduceMul, ev_callG, gcallK_b, gcallK_w, callGc_true, callGc_false]
      have l1 : (lvC (x.map hCode) y).length ≤ 101 := Nat.le_trans (List.length_filter_le _ _) (by rw [List.length_map]; exact hxl)
      have l2 : (chC (x.map hCode) y).length ≤ 101 := Nat.le_trans (List.length_filter_le _ _) (by rw [List.length_map]; exact hxl)
      exact ⟨⟨by omega, by omega⟩, ⟨q3, by omega⟩, ⟨q3, by omega⟩, by kernel_rfl, ⟨q3, by omega, by omega⟩, ⟨q3, by omega, by omega⟩, ⟨⟨_, rfl⟩, ⟨_, rfl⟩, by omega⟩, ⟨q3, by omega, by omega⟩, ⟨q3, by omega, by omega⟩, ⟨⟨_, rfl⟩, ⟨_, rfl⟩, by omega⟩,
        j + 1, by omega, by omega, ⟨by simp [fitR, look], by simp [fitH, hget], rfl, rfl, rfl⟩⟩
    · have c1 : decide ((j : Int) < 6) = false := by simp; omega
      simp (config := {maxSteps := 1000000}) only [c1, hi1, k_exL_4, smallS, on_l_eq, k_exL_5, awake3S, on__eq, k_exL_10, intsS, on_ll_eq, k_exL_11, partsCS, on_s_eq, k_exL_12, rptS, k_exL_13, cmpCS, on_ss_eq, k_exL_14, rcmS, k_exL_15, underCS, k_exL_16, runS, k_exL_18, codeCS, k_exL_19, rcdS, k_exL_21, validCS, k_exL_22, rvalS, k_exL_23, textS, k_exL_24, rtextS, k_exL_25, hasS, on_ls_eq, k_exL_26, rhasS, k_exL_27, textsS, k_exL_28, lvS, k_exL_29, rlvS, k_exL_30, chS, k_exL_31, rchS, k_exL_33, sumS, on_lsi_eq, k_exL_34, rsumS, k_exL_36, parseCS, k_exL_37, rprsS, k_exL_38, sameHS, ΘA, Θ9, Θ8, Θ7, Θ6, Θ5, Θ4, Θ3, Θ2, Θ1, Ψ1, newS, preT_eq, preTr_eq, preC_eq, preCd_eq, preLn_eq, preBt_eq, preSp_eq, preN_eq, preP_eq, okP_eq, okN, arg1, arg2, intV, strV, slV, nS, pickS, psiNew_eq, map_sOf, Nat.reduceBEq, List.length_map, List.take_succ_cons, List.take_nil, Tryz.underlying1, sz1, by1, ze1, Tryz.underlying2, sz2, by2, ze2, Tryz.underlying3, sz3, by3, ze3, Tryz.underlying4, sz4, by4, ze4, Tryz.underlying5, sz5, by5, ze5, Tryz.underlying6, sz6, by6, ze6, Tryz.underlying9, sz9, by9, ze9, Tryz.underlying22, sz22, by22, ze22, Tryz.underlying23, sz23, by23, ze23, Tryz.underlying24, sz24, by24, ze24, Tryz.underlying28, sz28, by28, ze28, fa28_0, fa28_1, fa28_2, Tryz.underlying29, sz29, by29, ze29, Tryz.underlying34, sz34, by34, ze34, Tryz.underlying40, sz40, by40, ze40, Tryz.underlying43, sz43, by43, ze43, Tryz.underlying44, sz44, by44, ze44, Tryz.underlying51, sz51, by51, ze51, Tryz.underlying52, sz52, by52, ze52, Tryz.underlying55, sz55, by55, ze55, Tryz.underlying60, sz60, by60, ze60, fa60_0, fa60_1, planAt, go_sem, ↓reduceIte, reduceCtorEq, Nat.reduceEqDiff, Nat.reduceLT, ↓all_qV, Int.reduceToNat, Int.reduceLT, Int.reduceLE, Nat.reduceAdd, Nat.reduceLeDiff, Nat.reduceMul, ev_callG, gcallK_b, gcallK_w, callGc_true, callGc_false]
      exact ⟨k + 1, by omega, by omega, ⟨by simp [fitR, look], by simp [fitH, hget], rfl, rfl, rfl⟩⟩
  have c0 : decide ((k : Int) < 3) = false := by simp; omega
  clear hi1 hlt hk hhd hhn
  simp (config := {maxSteps := 1000000}) only [c0, k_exL_4, smallS, on_l_eq, k_exL_5, awake3S, on__eq, k_exL_10, intsS, on_ll_eq, k_exL_11, partsCS, on_s_eq, k_exL_12, rptS, k_exL_13, cmpCS, on_ss_eq, k_exL_14, rcmS, k_exL_15, underCS, k_exL_16, runS, k_exL_18, codeCS, k_exL_19, rcdS, k_exL_21, validCS, k_exL_22, rvalS, k_exL_23, textS, k_exL_24, rtextS, k_exL_25, hasS, on_ls_eq, k_exL_26, rhasS, k_exL_27, textsS, k_exL_28, lvS, k_exL_29, rlvS, k_exL_30, chS, k_exL_31, rchS, k_exL_33, sumS, on_lsi_eq, k_exL_34, rsumS, k_exL_36, parseCS, k_exL_37, rprsS, k_exL_38, sameHS, ΘA, Θ9, Θ8, Θ7, Θ6, Θ5, Θ4, Θ3, Θ2, Θ1, Ψ1, newS, preT_eq, preTr_eq, preC_eq, preCd_eq, preLn_eq, preBt_eq, preSp_eq, preN_eq, preP_eq, okP_eq, okN, arg1, arg2, intV, strV, slV, nS, pickS, psiNew_eq, map_sOf, Nat.reduceBEq, List.length_map, List.take_succ_cons, List.take_nil, Tryz.underlying1, sz1, by1, ze1, Tryz.underlying2, sz2, by2, ze2, Tryz.underlying3, sz3, by3, ze3, Tryz.underlying4, sz4, by4, ze4, Tryz.underlying5, sz5, by5, ze5, Tryz.underlying6, sz6, by6, ze6, Tryz.underlying9, sz9, by9, ze9, Tryz.underlying22, sz22, by22, ze22, Tryz.underlying23, sz23, by23, ze23, Tryz.underlying24, sz24, by24, ze24, Tryz.underlying28, sz28, by28, ze28, fa28_0, fa28_1, fa28_2, Tryz.underlying29, sz29, by29, ze29, Tryz.underlying34, sz34, by34, ze34, Tryz.underlying40, sz40, by40, ze40, Tryz.underlying43, sz43, by43, ze43, Tryz.underlying44, sz44, by44, ze44, Tryz.underlying51, sz51, by51, ze51, Tryz.underlying52, sz52, by52, ze52, Tryz.underlying55, sz55, by55, ze55, Tryz.underlying60, sz60, by60, ze60, fa60_0, fa60_1, planAt, go_sem, ↓reduceIte, reduceCtorEq, Nat.reduceEqDiff, Nat.reduceLT, ↓all_qV, Int.reduceToNat, Int.reduceLT, Int.reduceLE, Nat.reduceAdd, Nat.reduceLeDiff, Nat.reduceMul, ev_callG, gcallK_b, gcallK_w, callGc_true, callGc_false]
  clear c0
  refine ⟨⟨ht, hne⟩, fun ln hln => ?_⟩
  have hhl : ∀ k : Nat, k < 2 → ∃ x : List PV, (([.sl lines, .sl ln] : List PV).getD k default) = .sl x ∧ x.length ≤ 60 ∧ ∀ e, e ∈ x → isL e := fun k hk => by
    have : k = 0 ∨ k = 1 := by omega
    rcases this with rfl | rfl
    · exact ⟨lines, rfl, hll, fun e he => (f2 e he).isL⟩
    · exact ⟨ln, rfl, by have := hln.1; omega, fun e he => (hln.2 e he).isL⟩
  have hhn : ([.sl lines, .sl ln] : List PV).length = 2 := rfl
  generalize ([.sl lines, .sl ln] : List PV) = LN at hhl hhn ⊢
  clear hln hll f2
  refine AWp.loop (T := planAt 58) (α := Nat) (fun k => ([(5, .pv (.int .i64 year)), (7, .pv (.str text)), (19, .ptr 93 0), (20, .pv (.sl l)), (21, .pv (.sl CD)), (225, .pv (.sl LN)), (226, .pv (.int .i64 2)), (227, .pv (.int .i64 k))], [(93, .obj Tp)])) (fun k => k ≤ 2) (fun k => 2 - k)
    ⟨0, Nat.zero_le _, ⟨by simp [fitR, look], by simp [fitH, hget], rfl, rfl, rfl⟩⟩ ?_
  intro k hk
  have hi1 : IntKind.i64.wrap ((k : Int) + 1) = ((k + 1 : Nat) : Int) := by rw [i64_in _ (by omega)]; omega
  by_cases hlt : k < 2
  · have c0 : decide ((k : Int) < 2) = true := by simp; omega
    obtain ⟨x, e1, hxl, hxq⟩ := hhl k hlt
    simp (config := {maxSteps := 1000000}) only [c0, e1, hi1, hhn, hcn, k_exL_4, smallS, on_l_eq, k_exL_5, awake3S, on__eq, k_exL_10, intsS, on_ll_eq, k_exL_11, partsCS, on_s_eq, k_exL_12, rptS, k_exL_13, cmpCS, on_ss_eq, k_exL_14, rcmS, k_exL_15, underCS, k_exL_16, runS, k_exL_18, codeCS, k_exL_19, rcdS, k_exL_21, validCS, k_exL_22, rvalS, k_exL_23, textS, k_exL_24, rtextS, k_exL_25, hasS, on_ls_eq, k_exL_26, rhasS, k_exL_27, textsS, k_exL_28, lvS, k_exL_29, rlvS, k_exL_30, chS, k_exL_31, rchS, k_exL_33, sumS, on_lsi_eq, k_exL_34, rsumS, k_exL_36, parseCS, k_exL_37, rprsS, k_exL_38, sameHS, ΘA, Θ9, Θ8, Θ7, Θ6, Θ5, Θ4, Θ3, Θ2, Θ1, Ψ1, newS, preT_eq, preTr_eq, preC_eq, preCd_eq, preLn_eq, preBt_eq, preSp_eq, preN_eq, preP_eq, okP_eq, okN, arg1, arg2, intV, strV, slV, nS, pickS, psiNew_eq, map_sOf, Nat.reduceBEq, List.length_map, List.take_succ_cons, List.take_nil, Tryz.underlying1, sz1, by1, ze1, Tryz.underlying2, sz2, by2, ze2, Tryz.underlying3, sz3, by3, ze3, Tryz.underlying4, sz4, by4, ze4, Tryz.underlying5, sz5, by5, ze5, Tryz.underlying6, sz6, by6, ze6, Tryz.underlying9, sz9, by9, ze9, Tryz.underlying22, sz22, by22, ze22, Tryz.underlying23, sz23, by23, ze23, Tryz.underlying24, sz24, by24, ze24, Tryz.underlying28, sz28, by28, ze28, fa28_0, fa28_1, fa28_2, Tryz.underlying29, sz29, by29, ze29, Tryz.underlying34, sz34, by34, ze34, Tryz.underlying40, sz40, by40, ze40, Tryz.underlying43, sz43, by43, ze43, Tryz.underlying44, sz44, by44, ze44, Tryz.underlying51, sz51, by51, ze51, Tryz.underlying52, sz52, by52, ze52, Tryz.underlying55, sz55, by55, ze55, Tryz.underlying60, sz60, by60, ze60, fa60_0, fa60_1, planAt, go_sem, ↓reduceIte, reduceCtorEq, Nat.reduceEqDiff, Nat.reduceLT, ↓all_qV, Int.reduceToNat, Int.reduceLT, Int.reduceLE, Nat.reduceAdd, Nat.reduceLeDiff, Nat.reduceMul, ev_callG, gcallK_b, gcallK_w, callGc_true, callGc_false]
    refine ⟨⟨by omega, by omega⟩, ?_⟩
    refine AWp.loop (T := planAt 58) (α := Nat) (fun j => ([(5, .pv (.int .i64 year)), (7, .pv (.str text)), (19, .ptr 93 0), (20, .pv (.sl l)), (21, .pv (.sl CD)), (33, .pv (.sl x)), (225, .pv (.sl LN)), (226, .pv (.int .i64 2)), (227, .pv (.int .i64 k)), (231, .pv (.sl CD)), (232, .pv (.int .i64 6)), (233, .pv (.int .i64 j))], [(93, .obj Tp)])) (fun j => j ≤ 6) (fun j => 6 - j)
      ⟨0, Nat.zero_le _, ⟨by simp [fitR, look], by simp [fitH, hget], rfl, rfl, rfl⟩⟩ ?_
    intro j hj
    have hj1 : IntKind.i64.wrap ((j : Int) + 1) = ((j + 1 : Nat) : Int) := by rw [i64_in _ (by omega)]; omega
    by_cases hjt : j < 6
    · have c1 : decide ((j : Int) < 6) = true := by simp; omega
      obtain ⟨y, e2, hyl⟩ := hcd j hjt
      simp (config := {maxSteps := 1000000}) only [c1, e2, hj1, hcn, k_exL_4, smallS, on_l_eq, k_exL_5, awake3S, on__eq, k_exL_10, intsS, on_ll_eq, k_exL_11, partsCS, on_s_eq, k_exL_12, rptS, k_exL_13, cmpCS, on_ss_eq, k_exL_14, rcmS, k_exL_15, underCS, k_exL_16, runS, k_exL_18, codeCS, k_exL_19, rcdS, k_exL_21, validCS, k_exL_22, rvalS, k_exL_23, textS, k_exL_24, rtextS, k_exL_25, hasS, on_ls_eq, k_exL_26, rhasS, k_exL_27, textsS, k_exL_28, lvS, k_exL_29, rlvS, k_exL_30, chS, k_exL_31, rchS, k_exL_33, sumS, on_lsi_eq, k_exL_34, rsumS, k_exL_36, parseCS, k_exL_37, rprsS, k_exL_38, sameHS, ΘA, Θ9, Θ8, Θ7, Θ6, Θ5, Θ4, Θ3, Θ2, Θ1, Ψ1, newS, preT_eq, preTr_eq, preC_eq, preCd_eq, preLn_eq, preBt_eq, preSp_eq, preN_eq, preP_eq, okP_eq, okN, arg1, arg2, intV, strV, slV, nS, pickS, psiNew_eq, map_sOf, Nat.reduceBEq, List.length_map, List.take_succ_cons, List.take_nil, Tryz.underlying1, sz1, by1, ze1, Tryz.underlying2, sz2, by2, ze2, Tryz.underlying3, sz3, by3, ze3, Tryz.underlying4, sz4, by4, ze4, Tryz.underlying5, sz5, by5, ze5, Tryz.underlying6, sz6, by6, ze6, Tryz.underlying9, sz9, by9, ze9, Tryz.underlying22, sz22, by22, ze22, Tryz.underlying23, sz23, by23, ze23, Tryz.underlying24, sz24, by24, ze24, Tryz.underlying28, sz28, by28, ze28, fa28_0, fa28_1, fa28_2, Tryz.underlying29, sz29, by29, ze29, Tryz.underlying34, sz34, by34, ze34, Tryz.underlying40, sz40, by40, ze40, Tryz.underlying43, sz43, by43, ze43, Tryz.underlying44, sz44, by44, ze44, Tryz.underlying51, sz51, by51, ze51, Tryz.underlying52, sz52, by52, ze52, Tryz.underlying55, sz55, by55, ze55, Tryz.underlying60, sz60, by60, ze60, fa60_0, fa60_1, planAt, go_sem, ↓reduceIte, reduceCtorEq, Nat.reduceEqDiff, Nat.reduceLT, ↓all_qV, Int.reduceToNat, Int.reduceLT, Int.reduceLE, Nat.reduceAdd, Nat.reduceLeDiff, Nat.reduceMul, ev_callG, gcallK_b, gcallK_w, callGc_true, callGc_false]
      refine ⟨⟨by omega, by omega⟩, ?_⟩
      have hv : ∀ q : Nat, q < 3 → ∃ v : Int, (([.int .i64 year, .int .i64 3, .int .i64 (-1)] : List PV).getD q default) = .int .i64 v := fun q hq => by
        have : q = 0 ∨ q = 1 ∨ q = 2 := by omega
        rcases this with rfl | rfl | rfl
        · exact ⟨year, rfl⟩
        · exact ⟨3, rfl⟩
        · exact ⟨-1, rfl⟩
      have hvl : ([.int .i64 year, .int .i64 3, .int .i64 (-1)] : List PV).length = 3 := rfl
      generalize ([.int .i64 year, .int .i64 3, .int .i64 (-1)] : List PV) = F at hv hvl ⊢
      refine AWp.loop (T := planAt 58) (α := Nat) (fun q => ([(5, .pv (.int .i64 year)), (7, .pv (.str text)), (19, .ptr 93 0), (20, .pv (.sl l)), (21, .pv (.sl CD)), (33, .pv (.sl x)), (35, .pv (.str y)), (225, .pv (.sl LN)), (226, .pv (.int .i64 2)), (227, .pv (.int .i64 k)), (231, .pv (.sl CD)), (232, .pv (.int .i64 6)), (233, .pv (.int .i64 j)), (238, .pv (.sl F)), (239, .pv (.int .i64 3)), (240, .pv (.int .i64 q))], [(93, .obj Tp)])) (fun q => q ≤ 3) (fun q => 3 - q)
        ⟨0, Nat.zero_le _, ⟨by simp [fitR, look], by simp [fitH, hget], rfl, rfl, rfl⟩⟩ ?_
      intro q hq
      have hq1 : IntKind.i64.wrap ((q : Int) + 1) = ((q + 1 : Nat) : Int) := by rw [i64_in _ (by omega)]; omega
      by_cases hqt : q < 3
      · have c2 : decide ((q : Int) < 3) = true := by simp; omega
        obtain ⟨v, e3⟩ := hv q hqt
        simp (config := {maxSteps := 1000000}) only [c2, e3, hq1, hvl, bne_self_eq_false, Bool.or_self, beq_self_eq_true, Bool.not_false, Bool.not_true, false_implies, true_implies, forall_const, k_exL_4, smallS, on_l_eq, k_exL_5, awake3S, on__eq, k_exL_10, intsS, on_ll_eq, k_exL_11, partsCS, on_s_eq, k_exL_12, rptS, k_exL_13, cmpCS, on_ss_eq, k_exL_14, rcmS, k_exL_15, underCS, k_exL_16, runS, k_exL_18, codeCS, k_exL_19, rcdS, k_exL_21, validCS, k_exL_22, rvalS, k_exL_23, textS, k_exL_24, rtextS, k_exL_25, hasS, on_ls_eq, k_exL_26, rhasS, k_exL_27, textsS, k_exL_28, lvS, k_exL_29, rlvS, k_exL_30, chS, k_exL_31, rchS, k_exL_33, sumS, on_lsi_eq, k_exL_34, rsumS, k_exL_36, parseCS, k_exL_37, rprsS, k_exL_38, sameHS, ΘA, Θ9, Θ8, Θ7, Θ6, Θ5, Θ4, Θ3, Θ2, Θ1, Ψ1, newS, preT_eq, preTr_eq, preC_eq, preCd_eq, preLn_eq, preBt_eq, preSp_eq, preN_eq, preP_eq, okP_eq, okN, arg1, arg2, intV, strV, slV, nS, pickS, psiNew_eq, map_sOf, Nat.reduceBEq, List.length_map, List.take_succ_cons, List.take_nil, Tryz.underlying1, sz1, by1, ze1, Tryz.underlying2, sz2, by2, ze2, Tryz.underlying3, sz3, by3, ze3, Tryz.underlying4, sz4, by4, ze4, Tryz.underlying5, sz5, by5, ze5, Tryz.underlying6, sz6, by6, ze6, Tryz.underlying9, sz9, by9, ze9, Tryz.underlying22, sz22, by22, ze22, Tryz.underlying23, sz23, by23, ze23, Tryz.underlying24, sz24, by24, ze24, Tryz.underlying28, sz28, by28, ze28, fa28_0, fa28_1, fa28_2, Tryz.underlying29, sz29, by29, ze29, Tryz.underlying34, sz34, by34, ze34, Tryz.underlying40, sz40, by40, ze40, Tryz.underlying43, sz43, by43, ze43, Tryz.underlying44, sz44, by44, ze44, Tryz.underlying51, sz51, by51, ze51, Tryz.underlying52, sz52, by52, ze52, Tryz.underlying55, sz55, by55, ze55, Tryz.underlying60, sz60, by60, ze60, fa60_0, fa60_1, planAt, go_sem, ↓reduceIte, reduceCtorEq, Nat.reduceEqDiff, Nat.reduceLT, ↓all_qV, Int.reduceToNat, Int.reduceLT, Int.reduceLE, Nat.reduceAdd, Nat.reduceLeDiff, Nat.reduceMul, ev_callG, gcallK_b, gcallK_w, callGc_true, callGc_false]
        exact ⟨⟨by omega, by omega⟩, ⟨hxq, by omega, by omega⟩, ⟨hxq, by omega, by omega⟩, q + 1, by omega, by omega, ⟨by simp [fitR, look], by simp [fitH, hget], rfl, rfl, rfl⟩⟩
      · have c2 : decide ((q : Int) < 3) = false := by simp; omega
        simp (config := {maxSteps := 1000000}) only [c2, hj1, k_exL_4, smallS, on_l_eq, k_exL_5, awake3S, on__eq, k_exL_10, intsS, on_ll_eq, k_exL_11, partsCS, on_s_eq, k_exL_12, rptS, k_exL_13, cmpCS, on_ss_eq, k_exL_14, rcmS, k_exL_15, underCS, k_exL_16, runS, k_exL_18, codeCS, k_exL_19, rcdS, k_exL_21, validCS, k_exL_22, rvalS, k_exL_23, textS, k_exL_24, rtextS, k_exL_25, hasS, on_ls_eq, k_exL_26, rhasS, k_exL_27, textsS, k_exL_28, lvS, k_exL_29, rlvS, k_exL_30, chS, k_exL_31, rchS, k_exL_33, sumS, on_lsi_eq, k_exL_34, rsumS, k_exL_36, parseCS, k_exL_37, rprsS, k_exL_38, sameHS, ΘA, Θ9, Θ8, Θ7, Θ6, Θ5, Θ4, Θ3, Θ2, Θ1, Ψ1, newS, preT_eq, preTr_eq, preC_eq, preCd_eq, preLn_eq, preBt_eq, preSp_eq, preN_eq, preP_eq, okP_eq, okN, arg1, arg2, intV, strV, slV, nS, pickS, psiNew_eq, map_sOf, Nat.reduceBEq, List.length_map, List.take_succ_cons, List.take_nil, Tryz.underlying1, sz1, by1, ze1, Tryz.underlying2, sz2, by2, ze2, Tryz.underlying3, sz3, by3, ze3, Tryz.underlying4, sz4, by4, ze4, Tryz.underlying5, sz5, by5, ze5, Tryz.underlying6, sz6, by6, ze6, Tryz.underlying9, sz9, by9, ze9, Tryz.underlying22, sz22, by22, ze22, Tryz.underlying23, sz23, by23, ze23, Tryz.underlying24, sz24, by24, ze24, Tryz.underlying28, sz28, by28, ze28, fa28_0, fa28_1, fa28_2, Tryz.underlying29, sz29, by29, ze29, Tryz.underlying34, sz34, by34, ze34, Tryz.underlying40, sz40, by40, ze40, Tryz.underlying43, sz43, by43, ze43, Tryz.underlying44, sz44, by44, ze44, Tryz.underlying51, sz51, by51, ze51, Tryz.underlying52, sz52, by52, ze52, Tryz.underlying55, sz55, by55, ze55, Tryz.underlying60, sz60, by60, ze60, fa60_0, fa60_1, planAt, go_sem, ↓reduceIte, reduceCtorEq, Nat.reduceEqDiff, Nat.reduceLT, ↓all_qV, Int.reduceToNat, Int.reduceLT, Int.reduceLE, Nat.reduceAdd, Nat.reduceLeDiff, Nat.reduceMul, ev_callG, gcallK_b, gcallK_w, callGc_true, callGc_false]
        exact ⟨j + 1, by omega, by omega, ⟨by simp [fitR, look], by simp [fitH, hget], rfl, rfl, rfl⟩⟩
    · have c1 : decide ((j : Int) < 6) = false := by simp; omega
      simp (config := {maxSteps := 1000000}) only [c1, hi1, k_exL_4, smallS, on_l_eq, k_exL_5, awake3S, on__eq, k_exL_10, intsS, on_ll_eq, k_exL_11, partsCS, on_s_eq, k_exL_12, rptS, k_exL_13, cmpCS, on_ss_eq, k_exL_14, rcmS, k_exL_15, underCS, k_exL_16, runS, k_exL_18, codeCS, k_exL_19, rcdS, k_exL_21, validCS, k_exL_22, rvalS, k_exL_23, textS, k_exL_24, rtextS, k_exL_25, hasS, on_ls_eq, k_exL_26, rhasS, k_exL_27, textsS, k_exL_28, lvS, k_exL_29, rlvS, k_exL_30, chS, k_exL_31, rchS, k_exL_33, sumS, on_lsi_eq, k_exL_34, rsumS, k_exL_36, parseCS, k_exL_37, rprsS, k_exL_38, sameHS, ΘA, Θ9, Θ8, Θ7, Θ6, Θ5, Θ4, Θ3, Θ2, Θ1, Ψ1, newS, preT_eq, preTr_eq, preC_eq, preCd_eq, preLn_eq, preBt_eq, preSp_eq, preN_eq, preP_eq, okP_eq, okN, arg1, arg2, intV, strV, slV, nS, pickS, psiNew_eq, map_sOf, Nat.reduceBEq, List.length_map, List.take_succ_cons, List.take_nil, Tryz.underlying1, sz1, by1, ze1, Tryz.underlying2, sz2, by2, ze2, Tryz.underlying3, sz3, by3, ze3, Tryz.underlying4, sz4, by4, ze4, Tryz.underlying5, sz5, by5, ze5, Tryz.underlying6, sz6, by6, ze6, Tryz.underlying9, sz9, by9, ze9, Tryz.underlying22, sz22, by22, ze22, Tryz.underlying23, sz23, by23, ze23, Tryz.underlying24, sz24, by24, ze24, Tryz.underlying28, sz28, by28, ze28, fa28_0, fa28_1, fa28_2, Tryz.underlying29, sz29, by29, ze29, Tryz.underlying34, sz34, by34, ze34, Tryz.underlying40, sz40, by40, ze40, Tryz.underlying43, sz43, by43, ze43, Tryz.underlying44, sz44, by44, ze44, Tryz.underlying51, sz51, by51, ze51, Tryz.underlying52, sz52, by52, ze52, Tryz.underlying55, sz55, by55, ze55, Tryz.underlying60, sz60, by60, ze60, fa60_0, fa60_1, planAt, go_sem, ↓reduceIte, reduceCtorEq, Nat.reduceEqDiff, Nat.reduceLT, ↓all_qV, Int.reduceToNat, Int.reduceLT, Int.reduceLE, Nat.reduceAdd, Nat.reduceLeDiff, Nat.reduceMul, ev_callG, gcallK_b, gcallK_w, callGc_true, callGc_false]
      exact ⟨k + 1, by omega, by omega, ⟨by simp [fitR, look], by simp [fitH, hget], rfl, rfl, rfl⟩⟩
  have c0 : decide ((k : Int) < 2) = false := by simp; omega
  clear hi1 hlt hk hhl hhn
  simp (config := {maxSteps := 1000000}) only [c0, k_exL_4, smallS, on_l_eq, k_exL_5, awake3S, on__eq, k_exL_10, intsS, on_ll_eq, k_exL_11, partsCS, on_s_eq, k_exL_12, rptS, k_exL_13, cmpCS, on_ss_eq, k_exL_14, rcmS, k_exL_15, underCS, k_exL_16, runS, k_exL_18, codeCS, k_exL_19, rcdS, k_exL_21, validCS, k_exL_22, rvalS, k_exL_23, textS, k_exL_24, rtextS, k_exL_25, hasS, on_ls_eq, k_exL_26, rhasS, k_exL_27, textsS, k_exL_28, lvS, k_exL_29, rlvS, k_exL_30, chS, k_exL_31, rchS, k_exL_33, sumS, on_lsi_eq, k_exL_34, rsumS, k_exL_36, parseCS, k_exL_37, rprsS, k_exL_38, sameHS, ΘA, Θ9, Θ8, Θ7, Θ6, Θ5, Θ4, Θ3, Θ2, Θ1, Ψ1, newS, preT_eq, preTr_eq, preC_eq, preCd_eq, preLn_eq, preBt_eq, preSp_eq, preN_eq, preP_eq, okP_eq, okN, arg1, arg2, intV, strV, slV, nS, pickS, psiNew_eq, map_sOf, Nat.reduceBEq, List.length_map, List.take_succ_cons, List.take_nil, Tryz.underlying1, sz1, by1, ze1, Tryz.underlying2, sz2, by2, ze2, Tryz.underlying3, sz3, by3, ze3, Tryz.underlying4, sz4, by4, ze4, Tryz.underlying5, sz5, by5, ze5, Tryz.underlying6, sz6, by6, ze6, Tryz.underlying9, sz9, by9, ze9, Tryz.underlying22, sz22, by22, ze22, Tryz.underlying23, sz23, by23, ze23, Tryz.underlying24, sz24, by24, ze24, Tryz.underlying28, sz28, by28, ze28, fa28_0, fa28_1, fa28_2, Tryz.underlying29, sz29, by29, ze29, Tryz.underlying34, sz34, by34, ze34, Tryz.underlying40, sz40, by40, ze40, Tryz.underlying43, sz43, by43, ze43, Tryz.underlying44, sz44, by44, ze44, Tryz.underlying51, sz51, by51, ze51, Tryz.underlying52, sz52, by52, ze52, Tryz.underlying55, sz55, by55, ze55, Tryz.underlying60, sz60, by60, ze60, fa60_0, fa60_1, planAt, go_sem, ↓reduceIte, reduceCtorEq, Nat.reduceEqDiff, Nat.reduceLT, ↓all_qV, Int.reduceToNat, Int.reduceLT, Int.reduceLE, Nat.reduceAdd, Nat.reduceLeDiff, Nat.reduceMul, ev_callG, gcallK_b, gcallK_w, callGc_true, callGc_false]
  clear c0
  have hgl : (bif (fstF l).2 != 0 then [63] else txtL l : List UInt8).length ≤ 20000 := by
    cases (fstF l).2 != 0
    · have := txt_len l hgd.line
      rw [cond_false]; omega
    · simp
  refine ⟨⟨fun e he => (hlq e he).isHs, by omega⟩, ⟨[[], [32], [10], [49], [46], [49, 46, 49, 32, 120, 10]], rfl, hgl, by simp, by simp, by decide⟩, fun sp hsp => ?_⟩
  have hsp : sp.length ≤ 50000 := hsp
  obtain ⟨good, hgood⟩ : ∃ g, (bif (fstF l).2 != 0 then [63] else txtL l : List UInt8) = g := ⟨_, rfl⟩
  rw [hgood] at hgl ⊢
  have htx : ∀ k : Nat, k < 3 → ∃ x : List UInt8, (([.str good, .str sp, .str text] : List PV).getD k default) = .str x ∧ x.length ≤ 50000 := fun k hk => by
    have : k = 0 ∨ k = 1 ∨ k = 2 := by omega
    rcases this with rfl | rfl | rfl
    · exact ⟨good, rfl, by omega⟩
    · exact ⟨sp, rfl, hsp⟩
    · exact ⟨text, rfl, by omega⟩
  have htn : ([.str good, .str sp, .str text] : List PV).length = 3 := rfl
  generalize ([.str good, .str sp, .str text] : List PV) = TX at htx htn ⊢
  refine AWp.loop (T := planAt 900) (α := Nat) (fun k => ([(277, .pv (.sl TX)), (278, .pv (.int .i64 3)), (279, .pv (.int .i64 k))], [(93, .obj Tp)])) (fun k => k ≤ 3) (fun k => 3 - k)
    ⟨0, Nat.zero_le _, ⟨by simp [fitR, look], by simp [fitH, hget], rfl, rfl, rfl⟩⟩ ?_
  intro k hk
  have hi1 : IntKind.i64.wrap ((k : Int) + 1) = ((k + 1 : Nat) : Int) := by rw [i64_in _ (by omega)]; omega
  by_cases hlt : k < 3
  · have c0 : decide ((k : Int) < 3) = true := by simp; omega
    obtain ⟨x, e1, hxl⟩ := htx k hlt
    obtain ⟨p1, p2⟩ := hp_small (s := x) (by omega)
    have hsame : sameB (hpF x).1 (hpF x).1 = true := (sameB_iff p1 p1).2 rfl
    simp (config := {maxSteps := 1000000}) only [c0, e1, hi1, htn, hsame, bne_self_eq_false, Bool.or_self, beq_self_eq_true, Bool.not_false, Bool.not_true, false_implies, true_implies, forall_const, k_exL_4, smallS, on_l_eq, k_exL_5, awake3S, on__eq, k_exL_10, intsS, on_ll_eq, k_exL_11, partsCS, on_s_eq, k_exL_12, rptS, k_exL_13, cmpCS, on_ss_eq, k_exL_14, rcmS, k_exL_15, underCS, k_exL_16, runS, k_exL_18, codeCS, k_exL_19, rcdS, k_exL_21, validCS, k_exL_22, rvalS, k_exL_23, textS, k_exL_24, rtextS, k_exL_25, hasS, on_ls_eq, k_exL_26, rhasS, k_exL_27, textsS, k_exL_28, lvS, k_exL_29, rlvS, k_exL_30, chS, k_exL_31, rchS, k_exL_33, sumS, on_lsi_eq, k_exL_34, rsumS, k_exL_36, parseCS, k_exL_37, rprsS, k_exL_38, sameHS, ΘA, Θ9, Θ8, Θ7, Θ6, Θ5, Θ4, Θ3, Θ2, Θ1, Ψ1, newS, preT_eq, preTr_eq, preC_eq, preCd_eq, preLn_eq, preBt_eq, preSp_eq, preN_eq, preP_eq, okP_eq, okN, arg1, arg2, intV, strV, slV, nS, pickS, psiNew_eq, map_sOf, Nat.reduceBEq, List.length_map, List.take_succ_cons, List.take_nil, Tryz.underlying1, sz1, by1, ze1, Tryz.underlying2, sz2, by2, ze2, Tryz.underlying3, sz3, by3, ze3, Tryz.underlying4, sz4, by4, ze4, Tryz.underlying5, sz5, by5, ze5, Tryz.underlying6, sz6, by6, ze6, Tryz.underlying9, sz9, by9, ze9, Tryz.underlying22, sz22, by22, ze22, Tryz.underlying23, sz23, by23, ze23, Tryz.underlying24, sz24, by24, ze24, Tryz.underlying28, sz28, by28, ze28, fa28_0, fa28_1, fa28_2, Tryz.underlying29, sz29, by29, ze29, Tryz.underlying34, sz34, by34, ze34, Tryz.underlying40, sz40, by40, ze40, Tryz.underlying43, sz43, by43, ze43, Tryz.underlying44, sz44, by44, ze44, Tryz.underlying51, sz51, by51, ze51, Tryz.underlying52, sz52, by52, ze52, Tryz.underlying55, sz55, by55, ze55, Tryz.underlying60, sz60, by60, ze60, fa60_0, fa60_1, planAt, go_sem, ↓reduceIte, reduceCtorEq, Nat.reduceEqDiff, Nat.reduceLT, ↓all_qV, Int.reduceToNat, Int.reduceLT, Int.reduceLE, Nat.reduceAdd, Nat.reduceLeDiff, Nat.reduceMul, ev_callG, gcallK_b, gcallK_w, callGc_true, callGc_false]
    exact ⟨⟨by omega, by omega⟩, by omega, by omega, ⟨p1, p1, by omega⟩, k + 1, by omega, by omega, ⟨by simp [fitR, look], by simp [fitH, hget], rfl, rfl, rfl⟩⟩
  · have c0 : decide ((k : Int) < 3) = false := by simp; omega
    simp (config := {maxSteps := 1000000}) only [c0, k_exL_4, smallS, on_l_eq, k_exL_5, awake3S, on__eq, k_exL_10, intsS, on_ll_eq, k_exL_11, partsCS, on_s_eq, k_exL_12, rptS, k_exL_13, cmpCS, on_ss_eq, k_exL_14, rcmS, k_exL_15, underCS, k_exL_16, runS, k_exL_18, codeCS, k_exL_19, rcdS, k_exL_21, validCS, k_exL_22, rvalS, k_exL_23, textS, k_exL_24, rtextS, k_exL_25, hasS, on_ls_eq, k_exL_26, rhasS, k_exL_27, textsS, k_exL_28, lvS, k_exL_29, rlvS, k_exL_30, chS, k_exL_31, rchS, k_exL_33, sumS, on_lsi_eq, k_exL_34, rsumS, k_exL_36, parseCS, k_exL_37, rprsS, k_exL_38, sameHS, ΘA, Θ9, Θ8, Θ7, Θ6, Θ5, Θ4, Θ3, Θ2, Θ1, Ψ1, newS, preT_eq, preTr_eq, preC_eq, preCd_eq, preLn_eq, preBt_eq, preSp_eq, preN_eq, preP_eq, okP_eq, okN, arg1, arg2, intV, strV, slV, nS, pickS, psiNew_eq, map_sOf, Nat.reduceBEq, List.length_map, List.take_succ_cons, List.take_nil, Tryz.underlying1, sz1, by1, ze1, Tryz.underlying2, sz2, by2, ze2, Tryz.underlying3, sz3, by3, ze3, Tryz.underlying4, sz4, by4, ze4, Tryz.underlying5, sz5, by5, ze5, Tryz.underlying6, sz6, by6, ze6, Tryz.underlying9, sz9, by9, ze9, Tryz.underlying22, sz22, by22, ze22, Tryz.underlying23, sz23, by23, ze23, Tryz.underlying24, sz24, by24, ze24, Tryz.underlying28, sz28, by28, ze28, fa28_0, fa28_1, fa28_2, Tryz.underlying29, sz29, by29, ze29, Tryz.underlying34, sz34, by34, ze34, Tryz.underlying40, sz40, by40, ze40, Tryz.underlying43, sz43, by43, ze43, Tryz.underlying44, sz44, by44, ze44, Tryz.underlying51, sz51, by51, ze51, Tryz.underlying52, sz52, by52, ze52, Tryz.underlying55, sz55, by55, ze55, Tryz.underlying60, sz60, by60, ze60, fa60_0, fa60_1, planAt, go_sem, ↓reduceIte, reduceCtorEq, Nat.reduceEqDiff, Nat.reduceLT, ↓all_qV, Int.reduceToNat, Int.reduceLT, Int.reduceLE, Nat.reduceAdd, Nat.reduceLeDiff, Nat.reduceMul, ev_callG, gcallK_b, gcallK_w, callGc_true, callGc_false]
end Go.AM
namespace Go.AM
open Go Go.Proofs
set_option linter.unusedVariables false
def on_lssppips (p : List PV → List UInt8 → List UInt8 → PV → PV → Int → PV → List UInt8 → Prop) (f : List PV → List UInt8 → List UInt8 → PV → PV → Int → PV → List UInt8 → PV) : PSpec
  | [.sl a0, .str a1, .str a2, a3, a4, .int .i64 a5, a6, .str a7] => (p a0 a1 a2 a3 a4 a5 a6 a7, f a0 a1 a2 a3 a4 a5 a6 a7)
  | _ => (False, default)
theorem on_lssppips_inv {p : List PV → List UInt8 → List UInt8 → PV → PV → Int → PV → List UInt8 → Prop} {f : List PV → List UInt8 → List UInt8 → PV → PV → Int → PV → List UInt8 → PV} {args : List PV} (h : (on_lssppips p f args).1) : ∃ a0 : List PV, ∃ a1 : List UInt8, ∃ a2 : List UInt8, ∃ a3 : PV, ∃ a4 : PV, ∃ a5 : Int, ∃ a6 : PV, ∃ a7 : List UInt8, args = [.sl a0, .str a1, .str a2, a3, a4, .int .i64 a5, a6, .str a7] ∧ p a0 a1 a2 a3 a4 a5 a6 a7 := by
  unfold on_lssppips at h
  split at h
  · exact ⟨_, _, _, _, _, _, _, _, rfl, h⟩
  · exact h.elim
abbrev shHead : Sh := .st [.str, .str]
abbrev shHeads : Sh := .sl shHead
abbrev shLine : Sh := .st [.str, .int .i64, .int .i64]
abbrev shLines : Sh := .sl shLine
abbrev shInts : Sh := .sl (.int .i64)
theorem heads_of {cs : List PV} (h : HasSh shHeads cs) : ∃ raw, boxSh shHeads cs = .sl raw ∧ (∀ e, e ∈ raw → ∃ c n, e = hV c n) ∧ raw.length ≤ 9223372036854775807 := by
  obtain ⟨es, rfl, hl, hall⟩ := h.sl_inv
  refine ⟨es, rfl, fun e he => ?_, hl⟩
  obtain ⟨ds, rfl, hd⟩ := hall e he
  obtain ⟨_, _, rfl, h1, hd⟩ := hd.cons_inv
  obtain ⟨_, _, rfl, h2, hd⟩ := hd.cons_inv
  obtain rfl := hd.nil_inv
  obtain ⟨c, rfl, _⟩ := h1.str_inv
  obtain ⟨n, rfl, _⟩ := h2.str_inv
  exact ⟨c, n, rfl⟩
theorem lines_of {cs : List PV} (h : HasSh shLines cs) : ∃ ls, boxSh shLines cs = .sl ls ∧ (∀ e, e ∈ ls → ∃ c y a, e = lnV c y a) ∧ ls.length ≤ 9223372036854775807 := by
  obtain ⟨es, rfl, hl, hall⟩ := h.sl_inv
  refine ⟨es, rfl, fun e he => ?_, hl⟩
  obtain ⟨ds, rfl, hd⟩ := hall e he
  obtain ⟨_, _, rfl, h1, hd⟩ := hd.cons_inv
  obtain ⟨_, _, rfl, h2, hd⟩ := hd.cons_inv
  obtain ⟨_, _, rfl, h3, hd⟩ := hd.cons_inv
  obtain rfl := hd.nil_inv
  obtain ⟨c, rfl, _⟩ := h1.str_inv
  obtain ⟨y, rfl, _⟩ := h2.i64_inv
  obtain ⟨a, rfl, _⟩ := h3.i64_inv
  exact ⟨c, y, a, rfl⟩
theorem intl_of : ∀ {es : List PV}, (∀ x, x ∈ es → ∃ ds, x = boxSh (.int .i64) ds ∧ HasSh (.int .i64) ds) → ∃ l : List Int, es = l.map intV ∧ ∀ n, n ∈ l → -9223372036854775808 ≤ n ∧ n ≤ 9223372036854775807
  | [], _ => ⟨[], rfl, fun n hn => by cases hn⟩
  | e :: r, h => by
    obtain ⟨ds, rfl, hd⟩ := h e List.mem_cons_self
    obtain ⟨n, rfl, hn⟩ := hd.i64_inv
    obtain ⟨l, rfl, hl⟩ := intl_of (es := r) (fun y hy => h y (List.mem_cons_of_mem _ hy))
    refine ⟨n :: l, rfl, fun m hm => ?_⟩
    rcases List.mem_cons.1 hm with rfl | hm
    · exact hn
    · exact hl m hm
theorem ints_of {cs : List PV} (h : HasSh shInts cs) : ∃ p : List Int, boxSh shInts cs = .sl (p.map intV) ∧ (∀ n, n ∈ p → -9223372036854775808 ≤ n ∧ n ≤ 9223372036854775807) ∧ p.length ≤ 9223372036854775807 := by
  obtain ⟨es, rfl, hl, hall⟩ := h.sl_inv
  obtain ⟨p, rfl, hp⟩ := intl_of hall
  rw [List.length_map] at hl
  exact ⟨p, rfl, hp, hl⟩
noncomputable def exP : PSpec := on_lssppips (fun es a b x y yr z t => (es.length ≤ 9223372036854775807 ∧ ∀ e, e ∈ es → isI e) ∧ (∃ raw, x = .sl raw ∧ (∀ e, e ∈ raw → ∃ c n, e = hV c n) ∧ raw.length ≤ 9223372036854775807) ∧
  (∃ ls, y = .sl ls ∧ (∀ e, e ∈ ls → ∃ c y a, e = lnV c y a) ∧ ls.length ≤ 9223372036854775807) ∧ (∃ p : List Int, z = .sl (p.map intV) ∧ (∀ n, n ∈ p → -9223372036854775808 ≤ n ∧ n ≤ 9223372036854775807) ∧ p.length ≤ 9223372036854775807)) (fun _ _ _ _ _ _ _ _ => .bool true)
theorem w_exP : PSound GG 3 exP := by
  intro args h
  unfold exP at h
  obtain ⟨es, a, b, x, y, yr, z, t, rfl, h1, ⟨raw, rfl, h2⟩, ⟨ls, rfl, h3⟩, ⟨p, rfl, h4⟩⟩ := on_lssppips_inv h
  exact w_exS _ (by unfold exS; rw [on_lssllils_eq]; exact ⟨h1, h2, h3, p, rfl, h4⟩)
end Go.AM
