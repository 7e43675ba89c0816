/-
  A part of a proof: see the last text of this claim for what is proved.
-/
import Derived.Test.YtcmkdpdinjkokaaGreatDoorXP
import Derived.Test.YtcmkdpdinjkokaaGreatDoorDM
import Derived.Test.YtcmkdpdinjkokaaGreatDoorZMa
namespace Go.AM
open Go Go.Proofs Go.IntWalk
set_option maxRecDepth 100000
set_option maxHeartbeats 1000000
set_option linter.unusedSimpArgs false
set_option linter.unusedVariables false
def on_iii (p : Int → Int → Int → Prop) (f : Int → Int → Int → PV) : PSpec
  | [.int .i64 a0, .int .i64 a1, .int .i64 a2] => (p a0 a1 a2, f a0 a1 a2)
  | _ => (False, default)
theorem on_iii_eq {p : Int → Int → Int → Prop} {f : Int → Int → Int → PV} {a0 : Int} {a1 : Int} {a2 : Int} : on_iii p f [.int .i64 a0, .int .i64 a1, .int .i64 a2] = (p a0 a1 a2, f a0 a1 a2) := rfl
theorem on_iii_inv {p : Int → Int → Int → Prop} {f : Int → Int → Int → PV} {args : List PV} (h : (on_iii p f args).1) : ∃ a0 : Int, ∃ a1 : Int, ∃ a2 : Int, args = [.int .i64 a0, .int .i64 a1, .int .i64 a2] ∧ p a0 a1 a2 := by
  unfold on_iii at h
  split at h
  · exact ⟨_, _, _, rfl, h⟩
  · exact h.elim
def on_pl (p : PV → List PV → Prop) (f : PV → List PV → PV) : PSpec
  | [a0, .sl a1] => (p a0 a1, f a0 a1)
  | _ => (False, default)
theorem on_pl_eq {p : PV → List PV → Prop} {f : PV → List PV → PV} {a0 : PV} {a1 : List PV} : on_pl p f [a0, .sl a1] = (p a0 a1, f a0 a1) := rfl
theorem on_pl_inv {p : PV → List PV → Prop} {f : PV → List PV → PV} {args : List PV} (h : (on_pl p f args).1) : ∃ a0 : PV, ∃ a1 : List PV, args = [a0, .sl a1] ∧ p a0 a1 := by
  unfold on_pl at h
  split at h
  · exact ⟨_, _, rfl, h⟩
  · exact h.elim
def on_pli (p : PV → List PV → Int → Prop) (f : PV → List PV → Int → PV) : PSpec
  | [a0, .sl a1, .int .i64 a2] => (p a0 a1 a2, f a0 a1 a2)
  | _ => (False, default)
theorem on_pli_eq {p : PV → List PV → Int → Prop} {f : PV → List PV → Int → PV} {a0 : PV} {a1 : List PV} {a2 : Int} : on_pli p f [a0, .sl a1, .int .i64 a2] = (p a0 a1 a2, f a0 a1 a2) := rfl
theorem on_pli_inv {p : PV → List PV → Int → Prop} {f : PV → List PV → Int → PV} {args : List PV} (h : (on_pli p f args).1) : ∃ a0 : PV, ∃ a1 : List PV, ∃ a2 : Int, args = [a0, .sl a1, .int .i64 a2] ∧ p a0 a1 a2 := by
  unfold on_pli at h
  split at h
  · exact ⟨_, _, _, rfl, h⟩
  · exact h.elim
def amg (a b c : Int) : Bool := decide (b ≤ a) && decide (a ≤ c)
noncomputable def amongS : PSpec := on_iii (fun _ _ _ => True) (fun a b c => .bool (amg a b c))
def chk (n : Int) : Int × Int := bif vld n then (n, 0) else (0, 2)
noncomputable def checkedS : PSpec := on_i (fun _ => True) (fun n => .tup [.int .i64 (chk n).1, .int .i64 (chk n).2])
theorem Ξ0_valid {args : List PV} : Ξ0 48 args = validS args := rfl
theorem Ξ0_year {args : List PV} : Ξ0 47 args = yearS args := rfl
theorem Ξ0_received {args : List PV} : Ξ0 36 args = receivedS args := rfl
theorem w_amongS : PSound GG 60 amongS := by
  refine PSound.of_wpc (C := cxP Tryz.prog Φ0 [] 15) (T := plan0) Tryz.func60 rfl rfl rfl (Fit.pure (G := GG) hΦ0 mixed) (fun args h => ?_)
  unfold amongS at h
  obtain ⟨a, b, c, rfl, hp⟩ := on_iii_inv h
  refine ⟨by simp [cxP], ?_⟩
  simp only [amongS, on_iii_eq, Tryz.f60, argL, plan0]
  simp only [go_sem, ↓reduceIte, reduceCtorEq, Nat.reduceEqDiff, Nat.reduceLT, ↓all_qV, Int.reduceToNat, Int.reduceLT, Int.reduceLE, Nat.reduceAdd, Nat.reduceLeDiff, Nat.reduceMul]
  rfl
theorem w_checkedS : PSound GG 61 checkedS := by
  refine PSound.of_wpc (C := cxP Tryz.prog Ξ0 [] 8) (T := plan0) Tryz.func61 rfl rfl rfl (Fit.pure (G := GG) hΞ0 mixed) (fun args h => ?_)
  unfold checkedS at h
  obtain ⟨n, rfl, hp⟩ := on_i_inv h
  refine ⟨by simp [cxP], ?_⟩
  simp only [checkedS, on_i_eq, Tryz.f61, argL, plan0]
  simp only [Ξ0_valid, validS, on_i_eq, go_sem, ↓reduceIte, reduceCtorEq, Nat.reduceEqDiff, Nat.reduceLT, ↓all_qV, Int.reduceToNat, Int.reduceLT, Int.reduceLE, Nat.reduceAdd, Nat.reduceLeDiff, Nat.reduceMul]
  refine ⟨fun h1 => ?_, fun h1 => ?_⟩ <;> simp at h1 <;> simp [chk, h1]
noncomputable def Ξ1 (g : FuncId) : PSpec := putΦ (putΦ Ξ0 60 amongS) 61 checkedS g
theorem hΞ1 : TabSound GG Ξ1 := (hΞ0.put w_amongS).put w_checkedS
theorem Ξ1_among {args : List PV} : Ξ1 60 args = amongS args := rfl
theorem Ξ1_checked {args : List PV} : Ξ1 61 args = checkedS args := rfl
def dayF (y m d : Int) : Int × Int := bif (!amg m 1 12 || !amg d 1 30 || !amg y 0 36000) then (0, 2) else chk (360 * y + 30 * (m - 1) + d - 1)
noncomputable def dayS : PSpec := on_iii (fun _ _ _ => True) (fun y m d => .tup [.int .i64 (dayF y m d).1, .int .i64 (dayF y m d).2])
theorem w_dayS : PSound GG 46 dayS := by
  refine PSound.of_wpc (C := cxP Tryz.prog Ξ1 [] 33) (T := plan0) Tryz.func46 rfl rfl rfl (Fit.pure (G := GG) hΞ1 mixed) (fun args h => ?_)
  unfold dayS at h
  obtain ⟨y, m, d, rfl, hp⟩ := on_iii_inv h
  refine ⟨by simp [cxP], ?_⟩
  simp only [dayS, on_iii_eq, Tryz.f46, argL, plan0]
  simp only [Ξ1_among, Ξ1_checked, amongS, checkedS, on_i_eq, on_iii_eq, go_sem, ↓reduceIte, reduceCtorEq, Nat.reduceEqDiff, Nat.reduceLT, ↓all_qV, Int.reduceToNat, Int.reduceLT, Int.reduceLE, Nat.reduceAdd, Nat.reduceLeDiff, Nat.reduceMul]
  refine ⟨by simp, fun h1 => ?_, fun h1 => ?_⟩
  · unfold dayF
    rw [h1]; rfl
  · have h2 : (1 ≤ m ∧ m ≤ 12) ∧ (1 ≤ d ∧ d ≤ 30) ∧ 0 ≤ y ∧ y ≤ 36000 := by
      simp only [amg, Bool.or_eq_false_iff, Bool.not_eq_false', Bool.and_eq_true, decide_eq_true_eq] at h1
      exact ⟨h1.1.1, h1.1.2, h1.2⟩
    unfold dayF
    rw [h1, cond_false, i64_in (360 * y) (by omega), i64_in (m - 1) (by omega), i64_in (30 * (m - 1)) (by omega), i64_in (360 * y + 30 * (m - 1)) (by omega), i64_in (360 * y + 30 * (m - 1) + d) (by omega), i64_in _ (by omega)]
noncomputable def Ξ2 (g : FuncId) : PSpec := putΦ Ξ1 46 dayS g
theorem hΞ2 : TabSound GG Ξ2 := hΞ1.put w_dayS
theorem Ξ2_day {args : List PV} : Ξ2 46 args = dayS args := rfl
theorem Ξ2_year {args : List PV} : Ξ2 47 args = yearS args := rfl
theorem Ξ2_received {args : List PV} : Ξ2 36 args = receivedS args := rfl
/-! ### Conditions -/
def conV (c : List UInt8) (y am k d : Int) (s : List UInt8) (l : Int) : PV := .agg [.str c, .int .i64 y, .int .i64 am, .int .i64 k, .int .i64 d, .str s, .int .i64 l]
def conYear : PV → Int
  | .agg [_, .int _ y, _, _, _, _, _] => y
  | _ => 0
def conKind : PV → Int
  | .agg [_, _, _, .int _ y, _, _, _] => y
  | _ => 0
def conDay : PV → Int
  | .agg [_, _, _, _, .int _ y, _, _] => y
  | _ => 0
def conSrc : PV → List UInt8
  | .agg [_, _, _, _, _, .str y, _] => y
  | _ => []
def conLeast : PV → Int
  | .agg [_, _, _, _, _, _, .int _ y] => y
  | _ => 0
def isC' (e : PV) : Prop := ∃ c y am k d s l, e = conV c y am k d s l ∧ s.length ≤ 1000000000000
def dayOf : PV → Int
  | .agg [_, .int _ d, _, _] => d
  | _ => 0
def stepR (y : Int) (src : List UInt8) (least : Int) (rs : List PV) (s : Int × Bool) (d : Int) : Int × Bool :=
  bif (yrOf d == y && (!s.2 || decide (d < s.1)) && decide (least ≤ recF rs src y d)) then (d, true) else s
def reachF (y : Int) (src : List UInt8) (least : Int) (rs : List PV) : Int × Bool :=
  bif ((dayF y 1 1).2 != 0) then (0, false) else ((dayF y 1 1).1 :: (rs.take 1000).map dayOf).foldl (stepR y src least rs) (0, false)
noncomputable def reachedS : PSpec := on_pl (fun e rs => isC' e ∧ (∀ x, x ∈ rs → isR x) ∧ rs.length ≤ 4611686018427387904)
  (fun e rs => .tup [.int .i64 (reachF (conYear e) (conSrc e) (conLeast e) rs).1, .bool (reachF (conYear e) (conSrc e) (conLeast e) rs).2])
theorem w_reachedS : PSound GG 35 reachedS := by
  refine PSound.of_wpc (C := cxP Tryz.prog Ξ2 [24] 77) (T := plan0) Tryz.func35 rfl rfl rfl (Fit.pure (G := GG) hΞ2 mixed) (fun args h => ?_)
  unfold reachedS at h
  obtain ⟨e, rs, rfl, hp⟩ := on_pl_inv h
  refine ⟨by simp [cxP], ?_⟩
  simp only [reachedS, on_pl_eq, Tryz.f35, argL, plan0]
  obtain ⟨⟨c, y, am, k, d, s, l, rfl, hs⟩, hr, hl⟩ := hp
  have e1 : conYear (conV c y am k d s l) = y := rfl
  have e2 : conSrc (conV c y am k d s l) = s := rfl
  have e3 : conLeast (conV c y am k d s l) = l := rfl
  rw [e1, e2, e3]
  have hmin : (if (1000 : Int) < (rs.length : Int) then (1000 : Int) else (rs.length : Int)) = ((min rs.length 1000 : Nat) : Int) := by split <;> omega
  simp only [conV, hmin, Ξ2_day, dayS, on_iii_eq, ev_rowlit, Tryz.underlying1, sz1, by1, ze1, Tryz.underlying3, sz3, by3, ze3, Tryz.underlying4, sz4, by4, ze4, Tryz.underlying5, sz5, by5, ze5, Tryz.underlying6, sz6, by6, ze6, Tryz.underlying9, sz9, by9, ze9, Tryz.underlying22, sz22, by22, ze22, Tryz.underlying35, sz35, by35, ze35, Tryz.underlying41, sz41, by41, ze41, fa41_0, fa41_1, fa41_2, fa41_3, Tryz.underlying46, sz46, by46, ze46, Tryz.underlying47, sz47, by47, ze47, Tryz.underlying57, sz57, by57, ze57, fa57_0, fa57_1, fa57_2, fa57_3, fa57_4, fa57_5, fa57_6, go_sem, ↓reduceIte, reduceCtorEq, Nat.reduceEqDiff, Nat.reduceLT, ↓all_qV, Int.reduceToNat, Int.reduceLT, Int.reduceLE, Nat.reduceAdd, Nat.reduceLeDiff, Nat.reduceMul]
  have hw4 : ∀ p, p ∈ rs → p.width = 4 := fun p hp' => by obtain ⟨n, dd, c, a, rfl, _⟩ := hr p hp'; rfl
  refine ⟨fun h1 => ?_, fun h1 => ?_⟩
  · unfold reachF; rw [h1]; rfl
  generalize hm : min rs.length 1000 = m
  have hm1 : m ≤ rs.length := by omega
  have hm2 : m ≤ 1000 := by omega
  have hrt : rs.take 1000 = rs.take m := by
    by_cases h9 : rs.length ≤ 1000
    · rw [List.take_of_length_le h9, List.take_of_length_le (by omega)]
    · rw [show m = 1000 by omega]
  have htl : (rs.take m).length = m := by rw [List.length_take]; omega
  refine ⟨⟨by omega, by omega, fun p hp' => (hw4 p hp').symm⟩, ?_⟩
  rw [htl]
  obtain ⟨D0, hD0⟩ : ∃ D0, (dayF y 1 1).1 = D0 := ⟨_, rfl⟩
  have hres : reachF y s l rs = (D0 :: (rs.take m).map dayOf).foldl (stepR y s l rs) (0, false) := by
    unfold reachF
    rw [h1, cond_false, hD0, hrt]
  rw [hD0]
  refine AWp.loop (T := plan0) (α := Nat × List PV) (fun x => ([(1, .pv (.sl rs)), (2, .ptr 2 0), (8, .pv (.int .i64 0)), (9, .pv (.bool false)), (10, .rs 24 x.2.length), (29, .pv (.sl (rs.take m))), (30, .pv (.int .i64 m)), (31, .pv (.int .i64 x.1))],
      [(2, .cells [.pv (.str c), .pv (.int .i64 y), .pv (.int .i64 am), .pv (.int .i64 k), .pv (.int .i64 d), .pv (.str s), .pv (.int .i64 l)]), (24, .row 1 x.2)])) (fun x => x.1 ≤ m ∧ x.2 = (D0 :: ((rs.take m).take x.1).map dayOf).map intV ∧ x.2.length = x.1 + 1) (fun x => m - x.1)
    ⟨(0, [intV D0]), ⟨Nat.zero_le _, rfl, rfl⟩, ⟨by simp [fitR, look], by simp [fitH, hget, intV], rfl, rfl, rfl⟩⟩ ?_
  rintro ⟨i, acc⟩ ⟨hi, hacc, hal⟩
  simp only at hi hacc hal
  have hi1 : IntKind.i64.wrap ((i : Int) + 1) = ((i + 1 : Nat) : Int) := by rw [i64_in _ (by omega)]; omega
  by_cases hlt : i < m
  · have c0 : decide ((i : Int) < (m : Int)) = true := by simp; omega
    obtain ⟨n, dd, c1, a, he, hc⟩ := hr (rs.getD i default) (by rw [List.getD_eq_getElem?_getD, List.getElem?_eq_getElem (show i < rs.length by omega)]; exact List.getElem_mem _)
    have he2 : (rs.take m)[i]? = some (recV n dd c1 a) := by
      rw [List.getElem?_take, if_pos hlt, List.getElem?_eq_getElem (show i < rs.length by omega)]
      rw [List.getD_eq_getElem?_getD, List.getElem?_eq_getElem (show i < rs.length by omega)] at he
      exact congrArg some he
    have he3 : (rs.take m).getD i default = .agg [.int .i64 n, .int .i64 dd, .str c1, .int .i64 a] := by rw [List.getD_eq_getElem?_getD, he2]; rfl
    simp only [c0, he3, hi1, htl, Nat.reduceBEq, List.take_succ_cons, List.take_nil, Tryz.underlying1, sz1, by1, ze1, Tryz.underlying3, sz3, by3, ze3, Tryz.underlying4, sz4, by4, ze4, Tryz.underlying5, sz5, by5, ze5, Tryz.underlying6, sz6, by6, ze6, Tryz.underlying9, sz9, by9, ze9, Tryz.underlying22, sz22, by22, ze22, Tryz.underlying35, sz35, by35, ze35, Tryz.underlying41, sz41, by41, ze41, fa41_0, fa41_1, fa41_2, fa41_3, Tryz.underlying46, sz46, by46, ze46, Tryz.underlying47, sz47, by47, ze47, Tryz.underlying57, sz57, by57, ze57, fa57_0, fa57_1, fa57_2, fa57_3, fa57_4, fa57_5, fa57_6, plan0, go_sem, ↓reduceIte, reduceCtorEq, Nat.reduceEqDiff, Nat.reduceLT, ↓all_qV, Int.reduceToNat, Int.reduceLT, Int.reduceLE, Nat.reduceAdd, Nat.reduceLeDiff, Nat.reduceMul]
    refine ⟨by omega, rfl, fun e he => (by simp only [List.mem_singleton] at he; subst he; rfl), Nat.le_refl _, by omega, by simp only [maxLen]; omega, (i + 1, acc ++ [.int .i64 dd]), ⟨by simp only; omega, ?_, by simp only [List.length_append, List.length_cons, List.length_nil]; omega⟩, by simp only; omega, ?_⟩
    · simp only
      rw [List.take_add_one, he2, hacc]
      simp [intV, dayOf, recV]
    · rw [List.take_length]
      exact ⟨by simp [fitR, look], by simp [fitH, hget], rfl, rfl, rfl⟩
  · have c0 : decide ((i : Int) < (m : Int)) = false := by simp; omega
    have e1 : i = m := by omega
    subst e1
    simp only [c0, htl, Nat.reduceBEq, Tryz.underlying1, sz1, by1, ze1, Tryz.underlying3, sz3, by3, ze3, Tryz.underlying4, sz4, by4, ze4, Tryz.underlying5, sz5, by5, ze5, Tryz.underlying6, sz6, by6, ze6, Tryz.underlying9, sz9, by9, ze9, Tryz.underlying22, sz22, by22, ze22, Tryz.underlying35, sz35, by35, ze35, Tryz.underlying41, sz41, by41, ze41, fa41_0, fa41_1, fa41_2, fa41_3, Tryz.underlying46, sz46, by46, ze46, Tryz.underlying47, sz47, by47, ze47, Tryz.underlying57, sz57, by57, ze57, fa57_0, fa57_1, fa57_2, fa57_3, fa57_4, fa57_5, fa57_6, plan0, go_sem, ↓reduceIte, reduceCtorEq, Nat.reduceEqDiff, Nat.reduceLT, ↓all_qV, Int.reduceToNat, Int.reduceLT, Int.reduceLE, Nat.reduceAdd, Nat.reduceLeDiff, Nat.reduceMul]
    rw [List.take_of_length_le (by omega : (rs.take i).length ≤ i)] at hacc
    obtain ⟨D, hD⟩ : ∃ D, D0 :: (rs.take i).map dayOf = D := ⟨_, rfl⟩
    rw [hD] at hacc hres
    have hDl : D.length = i + 1 := by rw [← hal, hacc, List.length_map]
    rw [hres]
    refine AWp.loop (T := plan0) (α := Nat × Int × Bool) (fun x => ([(1, .pv (.sl rs)), (2, .ptr 2 0), (8, .pv (.int .i64 x.2.1)), (9, .pv (.bool x.2.2)), (41, .rs 24 acc.length), (42, .pv (.int .i64 acc.length)), (43, .pv (.int .i64 x.1))],
      [(2, .cells [.pv (.str c), .pv (.int .i64 y), .pv (.int .i64 am), .pv (.int .i64 k), .pv (.int .i64 d), .pv (.str s), .pv (.int .i64 l)]), (24, .row 1 acc)])) (fun x => x.1 ≤ D.length ∧ (D.drop x.1).foldl (stepR y s l rs) x.2 = D.foldl (stepR y s l rs) (0, false)) (fun x => D.length - x.1)
      ⟨(0, 0, false), ⟨Nat.zero_le _, rfl⟩, ⟨by simp [fitR, look], by simp [fitH, hget], rfl, rfl, rfl⟩⟩ ?_
    rintro ⟨j, best, ok⟩ ⟨hj, hfo⟩
    simp only at hj hfo
    have hj1 : IntKind.i64.wrap ((j : Int) + 1) = ((j + 1 : Nat) : Int) := by rw [i64_in _ (by omega)]; omega
    by_cases jlt : j < D.length
    · have c1 : decide ((j : Int) < (acc.length : Int)) = true := by simp; omega
      have hg : acc.getD j default = .int .i64 (D.getD j 0) := by rw [hacc]; exact getD_intV jlt
      rw [List.drop_eq_getElem_cons jlt, List.foldl_cons] at hfo
      have hDj : D[j] = D.getD j 0 := by simp [List.getD_eq_getElem?_getD, jlt]
      rw [hDj] at hfo
      generalize D.getD j 0 = day at hg hfo
      simp only [c1, hg, hj1, Ξ2_year, Ξ2_received, yearS, receivedS, on_i_eq, on_lsii_eq, Nat.reduceBEq, Tryz.underlying1, sz1, by1, ze1, Tryz.underlying3, sz3, by3, ze3, Tryz.underlying4, sz4, by4, ze4, Tryz.underlying5, sz5, by5, ze5, Tryz.underlying6, sz6, by6, ze6, Tryz.underlying9, sz9, by9, ze9, Tryz.underlying22, sz22, by22, ze22, Tryz.underlying35, sz35, by35, ze35, Tryz.underlying41, sz41, by41, ze41, fa41_0, fa41_1, fa41_2, fa41_3, Tryz.underlying46, sz46, by46, ze46, Tryz.underlying47, sz47, by47, ze47, Tryz.underlying57, sz57, by57, ze57, fa57_0, fa57_1, fa57_2, fa57_3, fa57_4, fa57_5, fa57_6, plan0, go_sem, ↓reduceIte, reduceCtorEq, Nat.reduceEqDiff, Nat.reduceLT, ↓all_qV, Int.reduceToNat, Int.reduceLT, Int.reduceLE, Nat.reduceAdd, Nat.reduceLeDiff, Nat.reduceMul]
      refine ⟨by omega, by omega, by kernel_rfl, (fun a b => by rw [a]; cases ok <;> simp_all), fun _ => ⟨hr, hl, hs⟩, fun h9 => ⟨(j + 1, day, true), ⟨by simp only; omega, ?_⟩, by simp only; omega, ⟨by simp [fitR, look], by simp [fitH, hget], rfl, rfl, rfl⟩⟩,
        fun h9 => ⟨(j + 1, best, ok), ⟨by simp only; omega, ?_⟩, by simp only; omega, ⟨by simp [fitR, look], by simp [fitH, hget], rfl, rfl, rfl⟩⟩⟩
      · rw [← hfo]
        simp only [stepR, h9, cond_true]
      · rw [← hfo]
        simp only [stepR, h9, cond_false]
    · have c1 : decide ((j : Int) < (acc.length : Int)) = false := by simp; omega
      rw [List.drop_eq_nil_of_le (by omega), List.foldl_nil] at hfo
      simp only [c1, Nat.reduceBEq, Tryz.underlying1, sz1, by1, ze1, Tryz.underlying3, sz3, by3, ze3, Tryz.underlying4, sz4, by4, ze4, Tryz.underlying5, sz5, by5, ze5, Tryz.underlying6, sz6, by6, ze6, Tryz.underlying9, sz9, by9, ze9, Tryz.underlying22, sz22, by22, ze22, Tryz.underlying35, sz35, by35, ze35, Tryz.underlying41, sz41, by41, ze41, fa41_0, fa41_1, fa41_2, fa41_3, Tryz.underlying46, sz46, by46, ze46, Tryz.underlying47, sz47, by47, ze47, Tryz.underlying57, sz57, by57, ze57, fa57_0, fa57_1, fa57_2, fa57_3, fa57_4, fa57_5, fa57_6, plan0, go_sem, ↓reduceIte, reduceCtorEq, Nat.reduceEqDiff, Nat.reduceLT, ↓all_qV, Int.reduceToNat, Int.reduceLT, Int.reduceLE, Nat.reduceAdd, Nat.reduceLeDiff, Nat.reduceMul]
      rw [← hfo]
noncomputable def Ξ3 (g : FuncId) : PSpec := putΦ Ξ2 35 reachedS g
theorem hΞ3 : TabSound GG Ξ3 := hΞ2.put w_reachedS
theorem Ξ3_reached {args : List PV} : Ξ3 35 args = reachedS args := rfl
def relF (e : PV) (rs : List PV) : Int × Bool :=
  bif conKind e == 2 then reachF (conYear e) (conSrc e) (conLeast e) rs
  else bif conKind e == 1 && decide (conDay e ≤ 36000) then (if conDay e < 0 then 0 else conDay e, true) else (0, false)
noncomputable def releasedS : PSpec := on_pl (fun e rs => isC' e ∧ (∀ x, x ∈ rs → isR x) ∧ rs.length ≤ 4611686018427387904) (fun e rs => .tup [.int .i64 (relF e rs).1, .bool (relF e rs).2])
theorem w_releasedS : PSound GG 19 releasedS := by
  refine PSound.of_wpc (C := cxP Tryz.prog Ξ3 [] 27) (T := plan0) Tryz.func19 rfl rfl rfl (Fit.pure (G := GG) hΞ3 mixed) (fun args h => ?_)
  unfold releasedS at h
  obtain ⟨e, rs, rfl, hp⟩ := on_pl_inv h
  refine ⟨by simp [cxP], ?_⟩
  simp only [releasedS, on_pl_eq, Tryz.f19, argL, plan0]
  obtain ⟨⟨c, y, am, k, d, s, l, rfl, hs⟩, hr, hl⟩ := hp
  have hC : isC' (conV c y am k d s l) := ⟨c, y, am, k, d, s, l, rfl, hs⟩
  unfold conV at hC
  have hc7 : ∀ {H : AHeap} (c1 : AV), c1 ∈ [AV.pv (PV.str c), AV.pv (PV.int IntKind.i64 y), AV.pv (PV.int IntKind.i64 am), AV.pv (PV.int IntKind.i64 k), AV.pv (PV.int IntKind.i64 d), AV.pv (PV.str s), AV.pv (PV.int IntKind.i64 l)] → c1.one = true ∧ frzOk H 3 c1 := fun c1 hc => by
    simp only [List.mem_cons, List.not_mem_nil, or_false] at hc
    rcases hc with rfl | rfl | rfl | rfl | rfl | rfl | rfl <;> exact ⟨rfl, by simp [frzOk]⟩
  have hrel : relF (.agg [.str c, .int .i64 y, .int .i64 am, .int .i64 k, .int .i64 d, .str s, .int .i64 l]) rs = (bif k == 2 then reachF y s l rs else bif k == 1 && decide (d ≤ 36000) then (if d < 0 then 0 else d, true) else (0, false)) := rfl
  simp only [conV, hrel, conYear, conSrc, conLeast, List.take_succ_cons, List.take_nil, Ξ3_reached, reachedS, on_pl_eq, Tryz.underlying1, sz1, by1, ze1, Tryz.underlying3, sz3, by3, ze3, Tryz.underlying4, sz4, by4, ze4, Tryz.underlying9, sz9, by9, ze9, Tryz.underlying35, sz35, by35, ze35, Tryz.underlying41, sz41, by41, ze41, fa41_0, fa41_1, fa41_2, fa41_3, Tryz.underlying57, sz57, by57, ze57, fa57_0, fa57_1, fa57_2, fa57_3, fa57_4, fa57_5, fa57_6, Tryz.underlying59, sz59, by59, ze59, go_sem, ↓reduceIte, reduceCtorEq, Nat.reduceEqDiff, Nat.reduceLT, ↓all_qV, Int.reduceToNat, Int.reduceLT, Int.reduceLE, Nat.reduceAdd, Nat.reduceLeDiff, Nat.reduceMul]
  refine ⟨fun h1 => ⟨⟨hc7, hC, hr, hl⟩, by rw [h1]; rfl⟩, fun h1 => ⟨fun h2 => by rw [h1, h2]; rfl, fun h2 => by rw [h1, h2]; rfl⟩⟩
noncomputable def Ξ4 (g : FuncId) : PSpec := putΦ Ξ3 19 releasedS g
theorem hΞ4 : TabSound GG Ξ4 := hΞ3.put w_releasedS
theorem Ξ4_released {args : List PV} : Ξ4 19 args = releasedS args := rfl
noncomputable def holdsS : PSpec := on_pli (fun e rs _ => isC' e ∧ (∀ x, x ∈ rs → isR x) ∧ rs.length ≤ 4611686018427387904) (fun e rs d => .bool ((relF e rs).2 && decide ((relF e rs).1 ≤ d)))
theorem w_holdsS : PSound GG 18 holdsS := by
  refine PSound.of_wpc (C := cxP Tryz.prog Ξ4 [] 21) (T := plan0) Tryz.func18 rfl rfl rfl (Fit.pure (G := GG) hΞ4 mixed) (fun args h => ?_)
  unfold holdsS at h
  obtain ⟨e, rs, d, rfl, hp⟩ := on_pli_inv h
  refine ⟨by simp [cxP], ?_⟩
  simp only [holdsS, on_pli_eq, Tryz.f18, argL, plan0]
  obtain ⟨⟨c, y, am, k, dd, s, l, rfl, hs⟩, hr, hl⟩ := hp
  have hC : isC' (conV c y am k dd s l) := ⟨c, y, am, k, dd, s, l, rfl, hs⟩
  unfold conV at hC
  have hc7 : ∀ {H : AHeap} (c1 : AV), c1 ∈ [AV.pv (PV.str c), AV.pv (PV.int IntKind.i64 y), AV.pv (PV.int IntKind.i64 am), AV.pv (PV.int IntKind.i64 k), AV.pv (PV.int IntKind.i64 dd), AV.pv (PV.str s), AV.pv (PV.int IntKind.i64 l)] → c1.one = true ∧ frzOk H 3 c1 := fun c1 hc => by
    simp only [List.mem_cons, List.not_mem_nil, or_false] at hc
    rcases hc with rfl | rfl | rfl | rfl | rfl | rfl | rfl <;> exact ⟨rfl, by simp [frzOk]⟩
  simp only [conV, List.take_succ_cons, List.take_nil, Ξ4_released, releasedS, on_pl_eq, Tryz.underlying1, sz1, by1, ze1, Tryz.underlying3, sz3, by3, ze3, Tryz.underlying4, sz4, by4, ze4, Tryz.underlying9, sz9, by9, ze9, Tryz.underlying35, sz35, by35, ze35, Tryz.underlying41, sz41, by41, ze41, fa41_0, fa41_1, fa41_2, fa41_3, Tryz.underlying57, sz57, by57, ze57, fa57_0, fa57_1, fa57_2, fa57_3, fa57_4, fa57_5, fa57_6, Tryz.underlying59, sz59, by59, ze59, go_sem, ↓reduceIte, reduceCtorEq, Nat.reduceEqDiff, Nat.reduceLT, ↓all_qV, Int.reduceToNat, Int.reduceLT, Int.reduceLE, Nat.reduceAdd, Nat.reduceLeDiff, Nat.reduceMul]
  exact ⟨⟨hc7, hC, hr, hl⟩, rfl⟩
noncomputable def Ξ5 (g : FuncId) : PSpec := putΦ Ξ4 18 holdsS g
theorem hΞ5 : TabSound GG Ξ5 := hΞ4.put w_holdsS
theorem Ξ5_released {args : List PV} : Ξ5 19 args = releasedS args := rfl
theorem Ξ5_holds {args : List PV} : Ξ5 18 args = holdsS args := rfl
theorem Ξ5_received {args : List PV} : Ξ5 36 args = receivedS args := rfl
noncomputable def awake10S : PSpec := on_ (True) (.bool true)
theorem w_awake10S : PSound GG 20 awake10S := by
  refine PSound.of_wpc (C := cxP Tryz.prog Ξ5 [] 37) (T := plan0) Tryz.func20 rfl rfl rfl (Fit.pure (G := GG) hΞ5 mixed) (fun args h => ?_)
  unfold awake10S at h
  obtain ⟨rfl, hp⟩ := on__inv h
  refine ⟨by simp [cxP], ?_⟩
  simp only [awake10S, on__eq, Tryz.f20, argL, plan0]
  have kr : relF (.agg [.str [49], .int .i64 0, .int .i64 100, .int .i64 2, .int .i64 0, .str [57], .int .i64 500]) [.agg [.int .i64 1, .int .i64 10, .str [57], .int .i64 300], .agg [.int .i64 2, .int .i64 20, .str [57], .int .i64 300], .agg [.int .i64 3, .int .i64 30, .str [57], .int .i64 (-200)]] = (20, true) := by decide +kernel
  have k4 : recF [.agg [.int .i64 1, .int .i64 10, .str [57], .int .i64 300], .agg [.int .i64 2, .int .i64 20, .str [57], .int .i64 300], .agg [.int .i64 3, .int .i64 30, .str [57], .int .i64 (-200)]] [57] 0 40 = 400 := by decide +kernel
  have hc7 : ∀ {H : AHeap} (c1 : AV), c1 ∈ [AV.pv (PV.str [49]), AV.pv (PV.int IntKind.i64 0), AV.pv (PV.int IntKind.i64 100), AV.pv (PV.int IntKind.i64 2), AV.pv (PV.int IntKind.i64 0), AV.pv (PV.str [57]), AV.pv (PV.int IntKind.i64 500)] → c1.one = true ∧ frzOk H 3 c1 := fun c1 hc => by
    simp only [List.mem_cons, List.not_mem_nil, or_false] at hc
    rcases hc with rfl | rfl | rfl | rfl | rfl | rfl | rfl <;> exact ⟨rfl, by simp [frzOk]⟩
  have hC : isC' (.agg [.str [49], .int .i64 0, .int .i64 100, .int .i64 2, .int .i64 0, .str [57], .int .i64 500]) := ⟨[49], 0, 100, 2, 0, [57], 500, rfl, by simp⟩
  have hR : ∀ x, x ∈ ([.agg [.int .i64 1, .int .i64 10, .str [57], .int .i64 300], .agg [.int .i64 2, .int .i64 20, .str [57], .int .i64 300], .agg [.int .i64 3, .int .i64 30, .str [57], .int .i64 (-200)]] : List PV) → isR x := fun x hx => by
    simp only [List.mem_cons, List.not_mem_nil, or_false] at hx
    rcases hx with rfl | rfl | rfl <;> exact ⟨_, _, _, _, rfl, by simp⟩
  simp only [kr, k4, Ξ5_released, Ξ5_holds, Ξ5_received, releasedS, holdsS, receivedS, on_pl_eq, on_pli_eq, on_lsii_eq, List.take_succ_cons, List.take_nil, Tryz.underlying1, sz1, by1, ze1, Tryz.underlying3, sz3, by3, ze3, Tryz.underlying4, sz4, by4, ze4, Tryz.underlying9, sz9, by9, ze9, Tryz.underlying35, sz35, by35, ze35, Tryz.underlying41, sz41, by41, ze41, fa41_0, fa41_1, fa41_2, fa41_3, Tryz.underlying57, sz57, by57, ze57, fa57_0, fa57_1, fa57_2, fa57_3, fa57_4, fa57_5, fa57_6, Tryz.underlying59, sz59, by59, ze59, go_sem, ↓reduceIte, reduceCtorEq, Nat.reduceEqDiff, Nat.reduceLT, ↓all_qV, Int.reduceToNat, Int.reduceLT, Int.reduceLE, Nat.reduceAdd, Nat.reduceLeDiff, Nat.reduceMul]
  exact ⟨⟨hc7, hC, hR⟩, ⟨hc7, hC, hR⟩, fun _ => ⟨hc7, hC, hR⟩, fun _ => hR, rfl⟩
noncomputable def Ξ6 (g : FuncId) : PSpec := putΦ Ξ5 20 awake10S g
theorem hΞ6 : TabSound GG Ξ6 := hΞ5.put w_awake10S
end Go.AM
namespace Go.AM
open Go Go.Proofs
set_option maxRecDepth 100000
set_option linter.unusedSimpArgs false
set_option linter.unusedVariables false
/-! ### What was received under a code: the plain law -/
theorem S1_und : ∀ s, s ∈ S1 → undF s [57] = false := by decide +kernel
theorem N9_und9 : ∀ c, c ∈ N9 → undC c [57] = true := by decide +kernel
/-- Is a code one below 9? -/
def below9 (s : List UInt8) : Bool := s.getD 0 0 == 57 && decide (1 < s.length)
theorem S1_below : ∀ s, s ∈ S1 → below9 s = false := by decide +kernel
theorem N9_below : ∀ s, s ∈ N9 → ∀ c, c ∈ N9 → (below9 s && undC c s) = (s == c && !(c == [57])) := by decide +kernel
theorem codes_ne : ∀ s, s ∈ S1 ++ N9 → 0 < s.length := by decide +kernel
theorem codes_small : ∀ s, s ∈ S1 ++ N9 → s.length ≤ 10 := by decide +kernel
theorem sumL_count (c : List UInt8) (v : Int) : ∀ L : List (List UInt8), sumL (L.map fun s => bif s == c then v else 0) = (L.count c : Int) * v
  | [] => by simp [sumL]
  | s :: r => by
    have h := sumL_count c v r
    simp only [List.map_cons, sumL, h]
    by_cases e : s = c
    · subst e
      simp only [beq_self_eq_true, cond_true, List.count_cons_self]
      rw [Int.natCast_add, Int.add_mul]; omega
    · have e' : (s == c) = false := by simpa using e
      rw [e', cond_false, List.count_cons_of_ne e]; omega
theorem sumL_add (f g : PV → Int) : ∀ L : List PV, sumL (L.map fun x => f x + g x) = sumL (L.map f) + sumL (L.map g)
  | [] => by simp [sumL]
  | x :: r => by
    have h := sumL_add f g r
    simp only [List.map_cons, sumL, h]; omega
theorem sumL_congr {f g : PV → Int} : ∀ {L : List PV}, (∀ x, x ∈ L → f x = g x) → sumL (L.map f) = sumL (L.map g)
  | [], _ => rfl
  | x :: r, h => by
    simp only [List.map_cons, sumL, h x List.mem_cons_self, sumL_congr (L := r) (fun y hy => h y (List.mem_cons_of_mem _ hy))]
theorem sumL_zero : ∀ {L : List PV}, sumL (L.map fun _ => 0) = 0
  | [] => rfl
  | _ :: r => by simp only [List.map_cons, sumL, sumL_zero (L := r)]; omega
theorem recF_all {rs : List PV} (h : rs.length ≤ 1000) (src : List UInt8) (y d : Int) : recF rs src y d = sumL (rs.map (cntR src y d)) := by
  unfold recF
  rw [List.take_of_length_le h]
def amOf : PV → Int
  | .agg [_, _, _, .int _ a] => a
  | _ => 0
def coOf : PV → List UInt8
  | .agg [_, _, .str c, _] => c
  | _ => []
/-- What a heading adds. -/
def hF (rs : List PV) (y d : Int) (h : PV) : Int := bif below9 (hCode h) then recF rs (hCode h) y d else 0
def ownR (b : Int) (x : PV) : Int := bif coOf x == [57] && decide (dayOf x ≤ b) then amOf x else 0
def btwR (a b : Int) (x : PV) : Int := bif decide (a < dayOf x) && decide (dayOf x ≤ b) then amOf x else 0
/-- A good receipt of one of the codes at 9 of a tree. -/
def goodR (tree : List PV) (first : Int) (x : PV) : Prop := ∃ n d c a, x = recV n d c a ∧ c ∈ N9 ∧ c ∈ tree.map hCode ∧ 360 * first ≤ d ∧ -500 ≤ a ∧ a ≤ 2000
theorem goodR.of {tree : List PV} {first : Int} {x : PV} (ht : codes9 (tree.map hCode)) (h : recQ (leavesF tree [57]) first x) : goodR tree first x := by
  obtain ⟨n, d, c, a, rfl, _, hm, ⟨hd, _⟩, ha1, ha2, _⟩ := h
  unfold leavesF at hm
  simp only [List.mem_map, List.mem_filter] at hm
  obtain ⟨e, ⟨he, hl⟩, hc⟩ := hm
  injection hc with hc
  have hcm : c ∈ tree.map hCode := by rw [← hc]; exact List.mem_map.2 ⟨e, he, rfl⟩
  refine ⟨n, d, c, a, rfl, ?_, hcm, hd, ha1, ha2⟩
  rcases ht.1 c hcm with h1 | h1
  · exfalso
    unfold leafF at hl
    simp only [Bool.and_eq_true, Bool.or_eq_true] at hl
    have h2 := hl.1.2
    rw [hc, S1_und c h1] at h2
    simp at h2
  · exact h1
theorem cnt_good {first b n d a : Int} {c src : List UInt8} (hf : 0 ≤ first ∧ first ≤ 12) (hb : b ≤ 360 * first + 359) (hd : 360 * first ≤ d) (ha : -500 ≤ a ∧ a ≤ 2000) :
    cntR src first b (recV n d c a) = bif decide (d ≤ b) && undC c src then a else 0 := by
  unfold recV cntR
  by_cases h : d ≤ b
  · have h1 : vld d = true := by unfold vld; simp; omega
    have h2 : yrOf d = first := by unfold yrOf; rw [h1, cond_true]; omega
    have h3 : amt a = true := by unfold amt; simp; omega
    simp only [h, h1, h2, h3, decide_true, Bool.and_self, beq_self_eq_true, Bool.true_and]
    cases undC c src <;> rfl
  · simp [h]
theorem one_good {tree : List PV} {first b : Int} (ht : codes9 (tree.map hCode)) (hf : 0 ≤ first ∧ first ≤ 12) (hb : b ≤ 360 * first + 359) {x : PV} (hx : goodR tree first x) :
    sumL (tree.map fun h => bif below9 (hCode h) then cntR (hCode h) first b x else 0) + ownR b x = cntR [57] first b x := by
  obtain ⟨n, d, c, a, rfl, hc, hm, hd, ha1, ha2⟩ := hx
  rw [cnt_good hf hb hd ⟨ha1, ha2⟩, N9_und9 c hc, Bool.and_true]
  have e1 : (tree.map fun h => bif below9 (hCode h) then cntR (hCode h) first b (recV n d c a) else 0) = (tree.map hCode).map fun s => bif s == c then (bif !(c == [57]) && decide (d ≤ b) then a else 0) else 0 := by
    rw [List.map_map]
    apply List.map_congr_left
    intro h hh
    have hcm : hCode h ∈ tree.map hCode := List.mem_map.2 ⟨h, hh, rfl⟩
    simp only [Function.comp_def]
    rw [cnt_good hf hb hd ⟨ha1, ha2⟩]
    rcases ht.1 _ hcm with h1 | h1
    · rw [S1_below _ h1]
      have : (hCode h == c) = false := by
        simp only [beq_eq_false_iff_ne]
        intro e
        rw [e] at h1
        exact N9_S1 c hc h1
      rw [this]; rfl
    · have h2 := N9_below _ h1 c hc
      cases g1 : below9 (hCode h) <;> cases g2 : undC c (hCode h) <;> cases g3 : (hCode h == c) <;> cases g4 : (c == [57]) <;> cases g5 : decide (d ≤ b) <;> rw [g1, g2, g3, g4] at h2 <;> first | rfl | exact absurd h2 (by decide)
  rw [e1, sumL_count]
  have h1 : (tree.map hCode).count c = 1 := by
    have h2 := ht.2 c hc
    have h3 := List.count_pos_iff.2 hm
    omega
  rw [h1]
  show (1 : Int) * (bif !(c == [57]) && decide (d ≤ b) then a else 0) + (bif c == [57] && decide (d ≤ b) then a else 0) = _
  cases (c == [57]) <;> cases decide (d ≤ b) <;> simp
theorem law_sum {tree : List PV} {first b : Int} (ht : codes9 (tree.map hCode)) (hf : 0 ≤ first ∧ first ≤ 12) (hb : b ≤ 360 * first + 359) : ∀ {rs : List PV}, rs.length ≤ 1000 → (∀ x, x ∈ rs → goodR tree first x) →
    sumL (tree.map (hF rs first b)) + sumL (rs.map (ownR b)) = recF rs [57] first b
  | [], _, _ => by
    have : sumL (tree.map (hF [] first b)) = sumL (tree.map fun _ => (0 : Int)) := sumL_congr fun h _ => by unfold hF; rw [recF_all (by simp)]; cases below9 (hCode h) <;> rfl
    rw [this, sumL_zero, recF_all (by simp)]; rfl
  | x :: r, hl, h => by
    have hr : r.length ≤ 1000 := by simp only [List.length_cons] at hl; omega
    have ih := law_sum (rs := r) ht hf hb hr (fun y hy => h y (List.mem_cons_of_mem _ hy))
    have h1 := one_good ht hf hb (h x List.mem_cons_self)
    have e : sumL (tree.map (hF (x :: r) first b)) = sumL (tree.map fun h => (bif below9 (hCode h) then cntR (hCode h) first b x else 0) + hF r first b h) := sumL_congr fun h _ => by
      unfold hF
      rw [recF_all hl, recF_all hr]
      cases below9 (hCode h) <;> simp [sumL]
    rw [e, sumL_add, recF_all hl]
    rw [recF_all hr] at ih
    simp only [List.map_cons, sumL] at ih ⊢
    omega
theorem law_between {tree : List PV} {first a b : Int} (hf : 0 ≤ first ∧ first ≤ 12) (ha : a ≤ b) (hb : b ≤ 360 * first + 359) : ∀ {rs : List PV}, rs.length ≤ 1000 → (∀ x, x ∈ rs → goodR tree first x) →
    recF rs [57] first b - recF rs [57] first a = sumL (rs.map (btwR a b))
  | [], _, _ => by rw [recF_all (by simp), recF_all (by simp)]; rfl
  | x :: r, hl, h => by
    have hr : r.length ≤ 1000 := by simp only [List.length_cons] at hl; omega
    have ih := law_between (rs := r) hf ha hb hr (fun y hy => h y (List.mem_cons_of_mem _ hy))
    obtain ⟨n, d, c, am, rfl, hc, hm, hd, ha1, ha2⟩ := h x List.mem_cons_self
    rw [recF_all hl, recF_all hl]
    rw [recF_all hr, recF_all hr] at ih
    simp only [List.map_cons, sumL]
    rw [cnt_good hf hb hd ⟨ha1, ha2⟩, cnt_good hf (by omega) hd ⟨ha1, ha2⟩, N9_und9 c hc, Bool.and_true, Bool.and_true]
    have e : btwR a b (recV n d c am) = bif decide (a < d) && decide (d ≤ b) then am else 0 := rfl
    rw [e]
    by_cases h1 : d ≤ a
    · have h2 : d ≤ b := by omega
      have h3 : ¬ a < d := by omega
      simp only [h1, h2, h3, decide_true, decide_false, Bool.false_and, cond_true, cond_false]; omega
    · have h3 : a < d := by omega
      by_cases h2 : d ≤ b
      · simp only [h1, h2, h3, decide_true, decide_false, Bool.true_and, cond_true, cond_false]; omega
      · simp only [h1, h2, h3, decide_true, decide_false, Bool.true_and, cond_true, cond_false]; omega
theorem law_later {tree : List PV} {first b : Int} (hf : 0 ≤ first ∧ first ≤ 12) (hb : b ≤ 360 * first + 359) : ∀ {rs : List PV}, rs.length ≤ 1000 → (∀ x, x ∈ rs → goodR tree first x) →
    recF rs [57] (first + 5) b = 0
  | [], _, _ => by rw [recF_all (by simp)]; rfl
  | x :: r, hl, h => by
    have hr : r.length ≤ 1000 := by simp only [List.length_cons] at hl; omega
    have ih := law_later (rs := r) hf hb hr (fun y hy => h y (List.mem_cons_of_mem _ hy))
    obtain ⟨n, d, c, am, rfl, hc, hm, hd, ha1, ha2⟩ := h x List.mem_cons_self
    rw [recF_all hl]
    rw [recF_all hr] at ih
    simp only [List.map_cons, sumL, ih]
    have : cntR [57] (first + 5) b (recV n d c am) = 0 := by
      unfold recV cntR
      simp only
      rw [if_neg]
      simp only [Bool.and_eq_true, decide_eq_true_eq, beq_iff_eq]
      rintro ⟨⟨⟨⟨h1, h2⟩, h3⟩, _⟩, _⟩
      unfold yrOf at h3
      rw [h1, cond_true] at h3
      omega
    omega
end Go.AM
