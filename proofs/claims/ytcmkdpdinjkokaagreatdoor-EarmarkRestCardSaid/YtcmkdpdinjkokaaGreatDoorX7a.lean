/-
  A part of a proof: see the last text of this claim for what is proved.
-/
import Derived.Test.YtcmkdpdinjkokaaGreatDoorXS
import Derived.Test.YtcmkdpdinjkokaaGreatDoorGH
import Derived.Test.YtcmkdpdinjkokaaGreatDoorZMa
/-! budget: its small functions, the orders -/
namespace Go.AM
open Go Go.Proofs Go.IntWalk
set_option maxRecDepth 100000
set_option maxHeartbeats 1000000
set_option linter.unusedSimpArgs false
set_option linter.unusedVariables false
def on_ps (p : PV → List UInt8 → Prop) (f : PV → List UInt8 → PV) : PSpec
  | [a0, .str a1] => (p a0 a1, f a0 a1)
  | _ => (False, default)
theorem on_ps_eq {p : PV → List UInt8 → Prop} {f : PV → List UInt8 → PV} {a0 : PV} {a1 : List UInt8} : on_ps p f [a0, .str a1] = (p a0 a1, f a0 a1) := rfl
theorem on_ps_inv {p : PV → List UInt8 → Prop} {f : PV → List UInt8 → PV} {args : List PV} (h : (on_ps p f args).1) : ∃ a0 : PV, ∃ a1 : List UInt8, args = [a0, .str a1] ∧ p a0 a1 := by
  unfold on_ps at h
  split at h
  · exact ⟨_, _, rfl, h⟩
  · exact h.elim
def on_pi (p : PV → Int → Prop) (f : PV → Int → PV) : PSpec
  | [a0, .int .i64 a1] => (p a0 a1, f a0 a1)
  | _ => (False, default)
theorem on_pi_eq {p : PV → Int → Prop} {f : PV → Int → PV} {a0 : PV} {a1 : Int} : on_pi p f [a0, .int .i64 a1] = (p a0 a1, f a0 a1) := rfl
theorem on_pi_inv {p : PV → Int → Prop} {f : PV → Int → PV} {args : List PV} (h : (on_pi p f args).1) : ∃ a0 : PV, ∃ a1 : Int, args = [a0, .int .i64 a1] ∧ p a0 a1 := by
  unfold on_pi at h
  split at h
  · exact ⟨_, _, rfl, h⟩
  · exact h.elim
def on_lpp (p : List PV → PV → PV → Prop) (f : List PV → PV → PV → PV) : PSpec
  | [.sl a0, a1, a2] => (p a0 a1 a2, f a0 a1 a2)
  | _ => (False, default)
theorem on_lpp_eq {p : List PV → PV → PV → Prop} {f : List PV → PV → PV → PV} {a0 : List PV} {a1 : PV} {a2 : PV} : on_lpp p f [.sl a0, a1, a2] = (p a0 a1 a2, f a0 a1 a2) := rfl
theorem on_lpp_inv {p : List PV → PV → PV → Prop} {f : List PV → PV → PV → PV} {args : List PV} (h : (on_lpp p f args).1) : ∃ a0 : List PV, ∃ a1 : PV, ∃ a2 : PV, args = [.sl a0, a1, a2] ∧ p a0 a1 a2 := by
  unfold on_lpp at h
  split at h
  · exact ⟨_, _, _, rfl, h⟩
  · exact h.elim
noncomputable def amongBS : PSpec := on_iii (fun _ _ _ => True) (fun a b c => .bool (amg a b c))
theorem w_amongBS : PSound GG 91 amongBS := by
  refine PSound.of_wpc (C := cxP Tryz.prog Ξ6 [] 15) (T := plan0) Tryz.func91 rfl rfl rfl (Fit.pure (G := GG) hΞ6 mixed) (fun args h => ?_)
  unfold amongBS at h
  obtain ⟨a, b, c, rfl, hp⟩ := on_iii_inv h
  refine ⟨by simp [cxP], ?_⟩
  simp only [amongBS, on_iii_eq, Tryz.f91, argL, plan0]
  simp only [go_sem, ↓reduceIte, reduceCtorEq, Nat.reduceEqDiff, Nat.reduceLT, ↓all_qV, Int.reduceToNat, Int.reduceLT, Int.reduceLE, Nat.reduceAdd, Nat.reduceLeDiff, Nat.reduceMul]
  rfl
def vldM (n : Int) : Bool := decide (0 ≤ n) && decide (n ≤ 1000000000000)
noncomputable def validMS : PSpec := on_i (fun _ => True) (fun n => .bool (vldM n))
theorem w_validMS : PSound GG 98 validMS := by
  refine PSound.of_wpc (C := cxP Tryz.prog Ξ6 [] 9) (T := plan0) Tryz.func98 rfl rfl rfl (Fit.pure (G := GG) hΞ6 mixed) (fun args h => ?_)
  unfold validMS at h
  obtain ⟨n, rfl, hp⟩ := on_i_inv h
  refine ⟨by simp [cxP], ?_⟩
  simp only [validMS, on_i_eq, Tryz.f98, argL, plan0]
  simp only [go_sem, ↓reduceIte, reduceCtorEq, Nat.reduceEqDiff, Nat.reduceLT, ↓all_qV, Int.reduceToNat, Int.reduceLT, Int.reduceLE, Nat.reduceAdd, Nat.reduceLeDiff, Nat.reduceMul]
  rfl
noncomputable def B1 (g : FuncId) : PSpec := (putΦ (putΦ Ξ6 91 amongBS) 98 validMS) g
theorem hB1 : TabSound GG B1 := ((hΞ6.put w_amongBS).put w_validMS)
noncomputable def dayBS : PSpec := on_i (fun _ => True) (fun n => .bool (amg n 0 35990))
theorem k_dayBS_91 {args : List PV} : B1 91 args = amongBS args := rfl
theorem w_dayBS : PSound GG 100 dayBS := by
  refine PSound.of_wpc (C := cxP Tryz.prog B1 [] 5) (T := plan0) Tryz.func100 rfl rfl rfl (Fit.pure (G := GG) hB1 mixed) (fun args h => ?_)
  unfold dayBS at h
  obtain ⟨n, rfl, hp⟩ := on_i_inv h
  refine ⟨by simp [cxP], ?_⟩
  simp only [dayBS, on_i_eq, Tryz.f100, argL, plan0]
  simp only [k_dayBS_91, amongBS, on_iii_eq, go_sem, ↓reduceIte, reduceCtorEq, Nat.reduceEqDiff, Nat.reduceLT, ↓all_qV, Int.reduceToNat, Int.reduceLT, Int.reduceLE, Nat.reduceAdd, Nat.reduceLeDiff, Nat.reduceMul]
noncomputable def numberBS : PSpec := on_i (fun _ => True) (fun n => .bool (amg n 1 1000000))
theorem k_numberBS_91 {args : List PV} : B1 91 args = amongBS args := rfl
theorem w_numberBS : PSound GG 101 numberBS := by
  refine PSound.of_wpc (C := cxP Tryz.prog B1 [] 5) (T := plan0) Tryz.func101 rfl rfl rfl (Fit.pure (G := GG) hB1 mixed) (fun args h => ?_)
  unfold numberBS at h
  obtain ⟨n, rfl, hp⟩ := on_i_inv h
  refine ⟨by simp [cxP], ?_⟩
  simp only [numberBS, on_i_eq, Tryz.f101, argL, plan0]
  simp only [k_numberBS_91, amongBS, on_iii_eq, go_sem, ↓reduceIte, reduceCtorEq, Nat.reduceEqDiff, Nat.reduceLT, ↓all_qV, Int.reduceToNat, Int.reduceLT, Int.reduceLE, Nat.reduceAdd, Nat.reduceLeDiff, Nat.reduceMul]
/-- Where a text stands. -/
def ixT (s : List UInt8) : List (List UInt8) → Int → Int
  | [], _ => -1
  | c :: r, i => bif s == c then i else ixT s r (i + 1)
theorem ixT_has (s : List UInt8) : ∀ (l : List (List UInt8)) (i : Int), 0 ≤ i → decide (0 ≤ ixT s l i) = l.contains s
  | [], _, _ => rfl
  | c :: r, i, h => by
    unfold ixT
    rw [List.contains_cons]
    cases s == c with
    | true => simp [h]
    | false => simpa using ixT_has s r (i + 1) (by omega)
noncomputable def indexS : PSpec := on_ls (fun es _ => (∃ l : List (List UInt8), es = l.map PV.str) ∧ es.length ≤ 1000000) (fun es s => .int .i64 (ixT s (es.map sOf) 0))
theorem w_indexS : PSound GG 117 indexS := by
  refine PSound.of_wpc (C := cxP Tryz.prog B1 [] 19) (T := plan0) Tryz.func117 rfl rfl rfl (Fit.pure (G := GG) hB1 mixed) (fun args h => ?_)
  unfold indexS at h
  obtain ⟨es, s, rfl, hp⟩ := on_ls_inv h
  refine ⟨by simp [cxP], ?_⟩
  simp only [indexS, on_ls_eq, Tryz.f117, argL, plan0]
  obtain ⟨⟨l, rfl⟩, hl⟩ := hp
  rw [List.length_map] at hl
  simp only [map_sOf, List.length_map, Tryz.underlying3, sz3, by3, ze3, Tryz.underlying4, sz4, by4, ze4, Tryz.underlying9, sz9, by9, ze9, Tryz.underlying44, sz44, by44, ze44, go_sem, ↓reduceIte, reduceCtorEq, Nat.reduceEqDiff, Nat.reduceLT, ↓all_qV, Int.reduceToNat, Int.reduceLT, Int.reduceLE, Nat.reduceAdd, Nat.reduceLeDiff, Nat.reduceMul]
  refine AWp.loop (T := plan0) (α := Nat) (fun i => ([(0, .pv (.sl (l.map PV.str))), (1, .pv (.str s)), (7, .pv (.int .i64 l.length)), (8, .pv (.int .i64 i))], [])) (fun i => i ≤ l.length ∧ ixT s (l.drop i) i = ixT s l 0) (fun i => l.length - i)
    ⟨0, ⟨Nat.zero_le _, rfl⟩, ⟨by simp [fitR, look], trivial, rfl, rfl, rfl⟩⟩ ?_
  rintro i ⟨h1, h2⟩
  have hi1 : IntKind.i64.wrap ((i : Int) + 1) = ((i + 1 : Nat) : Int) := by rw [i64_in _ (by omega)]; omega
  by_cases hlt : i < l.length
  · have c0 : decide ((i : Int) < (l.length : Int)) = true := by simp; omega
    have hg := getD_strs hlt
    have hd : l.drop i = l.getD i [] :: l.drop (i + 1) := by rw [List.drop_eq_getElem_cons hlt]; simp [List.getD_eq_getElem?_getD, hlt]
    rw [hd, ixT] at h2
    simp only [c0, hg, hi1, List.length_map, Tryz.underlying3, sz3, by3, ze3, Tryz.underlying4, sz4, by4, ze4, Tryz.underlying9, sz9, by9, ze9, Tryz.underlying44, sz44, by44, ze44, plan0, go_sem, ↓reduceIte, reduceCtorEq, Nat.reduceEqDiff, Nat.reduceLT, ↓all_qV, Int.reduceToNat, Int.reduceLT, Int.reduceLE, Nat.reduceAdd, Nat.reduceLeDiff, Nat.reduceMul]
    and_intros
    all_goals try first | omega | trivial
    · intro h9
      rw [h9, cond_true] at h2
      rw [← h2]
    · intro h9
      rw [h9, cond_false] at h2
      exact ⟨i + 1, ⟨by omega, by rw [← h2]; simp⟩, by omega, ⟨by simp [fitR, look], trivial, rfl, rfl, rfl⟩⟩
  · have c0 : decide ((i : Int) < (l.length : Int)) = false := by simp; omega
    rw [List.drop_eq_nil_of_le (by omega), ixT] at h2
    simp only [c0, List.length_map, Tryz.underlying3, sz3, by3, ze3, Tryz.underlying4, sz4, by4, ze4, Tryz.underlying9, sz9, by9, ze9, Tryz.underlying44, sz44, by44, ze44, plan0, go_sem, ↓reduceIte, reduceCtorEq, Nat.reduceEqDiff, Nat.reduceLT, ↓all_qV, Int.reduceToNat, Int.reduceLT, Int.reduceLE, Nat.reduceAdd, Nat.reduceLeDiff, Nat.reduceMul]
    rw [← h2]
noncomputable def B2 (g : FuncId) : PSpec := (putΦ (putΦ (putΦ B1 100 dayBS) 101 numberBS) 117 indexS) g
theorem hB2 : TabSound GG B2 := (((hB1.put w_dayBS).put w_numberBS).put w_indexS)
noncomputable def containsS : PSpec := on_ls (fun es _ => (∃ l : List (List UInt8), es = l.map PV.str) ∧ es.length ≤ 1000000) (fun es s => .bool ((es.map sOf).contains s))
theorem k_containsS_117 {args : List PV} : B2 117 args = indexS args := rfl
theorem w_containsS : PSound GG 106 containsS := by
  refine PSound.of_wpc (C := cxP Tryz.prog B2 [] 9) (T := plan0) Tryz.func106 rfl rfl rfl (Fit.pure (G := GG) hB2 mixed) (fun args h => ?_)
  unfold containsS at h
  obtain ⟨es, s, rfl, hp⟩ := on_ls_inv h
  refine ⟨by simp [cxP], ?_⟩
  simp only [containsS, on_ls_eq, Tryz.f106, argL, plan0]
  simp only [k_containsS_117, indexS, on_ls_eq, Tryz.underlying3, sz3, by3, ze3, Tryz.underlying4, sz4, by4, ze4, Tryz.underlying9, sz9, by9, ze9, Tryz.underlying44, sz44, by44, ze44, go_sem, ↓reduceIte, reduceCtorEq, Nat.reduceEqDiff, Nat.reduceLT, ↓all_qV, Int.reduceToNat, Int.reduceLT, Int.reduceLE, Nat.reduceAdd, Nat.reduceLeDiff, Nat.reduceMul]
  rw [ixT_has _ _ _ (by decide)]
  exact ⟨hp, rfl⟩
noncomputable def orS : PSpec := on_l (fun es => ∃ l : List Int, es = l.map intV ∧ l.length ≤ 1000000000000) (fun es => .int .i64 (orF (es.map nOf)))
theorem w_orS : PSound GG 53 orS := by
  refine PSound.of_wpc (C := cxP Tryz.prog B2 [] 18) (T := plan0) Tryz.func53 rfl rfl rfl (Fit.pure (G := GG) hB2 mixed) (fun args h => ?_)
  unfold orS at h
  obtain ⟨es, rfl, hp⟩ := on_l_inv h
  refine ⟨by simp [cxP], ?_⟩
  simp only [orS, on_l_eq, Tryz.f53, argL, plan0]
  obtain ⟨l, rfl, hl⟩ := hp
  have hn : ∀ l : List Int, (l.map intV).map nOf = l := fun l => by simp [List.map_map, Function.comp_def, nOf, intV]
  simp only [hn, List.length_map, Tryz.underlying3, sz3, by3, ze3, Tryz.underlying4, sz4, by4, ze4, Tryz.underlying22, sz22, by22, ze22, go_sem, ↓reduceIte, reduceCtorEq, Nat.reduceEqDiff, Nat.reduceLT, ↓all_qV, Int.reduceToNat, Int.reduceLT, Int.reduceLE, Nat.reduceAdd, Nat.reduceLeDiff, Nat.reduceMul]
  refine AWp.loop (T := plan0) (α := Nat) (fun i => ([(3, .pv (.int .i64 0)), (6, .pv (.sl (l.map intV))), (7, .pv (.int .i64 l.length)), (8, .pv (.int .i64 i))], [])) (fun i => i ≤ l.length ∧ orF (l.drop i) = orF l) (fun i => l.length - i)
    ⟨0, ⟨Nat.zero_le _, rfl⟩, ⟨by simp [fitR, look], trivial, rfl, rfl, rfl⟩⟩ ?_
  rintro i ⟨h1, h2⟩
  have hi1 : IntKind.i64.wrap ((i : Int) + 1) = ((i + 1 : Nat) : Int) := by rw [i64_in _ (by omega)]; omega
  by_cases hlt : i < l.length
  · have c0 : decide ((i : Int) < (l.length : Int)) = true := by simp; omega
    have k1 := getD_intV hlt
    rw [List.drop_eq_getElem_cons hlt, orF] at h2
    have e2 : l.getD i 0 = l[i] := by simp [List.getD_eq_getElem?_getD, hlt]
    rw [e2] at k1
    simp only [c0, k1, hi1, List.length_map, Tryz.underlying3, sz3, by3, ze3, Tryz.underlying4, sz4, by4, ze4, Tryz.underlying22, sz22, by22, ze22, plan0, go_sem, ↓reduceIte, reduceCtorEq, Nat.reduceEqDiff, Nat.reduceLT, ↓all_qV, Int.reduceToNat, Int.reduceLT, Int.reduceLE, Nat.reduceAdd, Nat.reduceLeDiff, Nat.reduceMul]
    refine ⟨⟨by omega, by omega⟩, fun h3 => ?_, fun h3 => ⟨i + 1, ⟨by omega, ?_⟩, by omega, ⟨by simp [fitR, look], trivial, rfl, rfl, rfl⟩⟩⟩
    · rw [h3] at h2; rw [← h2]; rfl
    · rw [h3] at h2; exact h2
  · have c0 : decide ((i : Int) < (l.length : Int)) = false := by simp; omega
    rw [List.drop_eq_nil_of_le (by omega)] at h2
    simp only [c0, List.length_map, Tryz.underlying3, sz3, by3, ze3, Tryz.underlying4, sz4, by4, ze4, Tryz.underlying22, sz22, by22, ze22, plan0, go_sem, ↓reduceIte, reduceCtorEq, Nat.reduceEqDiff, Nat.reduceLT, ↓all_qV, Int.reduceToNat, Int.reduceLT, Int.reduceLE, Nat.reduceAdd, Nat.reduceLeDiff, Nat.reduceMul]
    rw [← h2]; rfl
noncomputable def orES : PSpec := on_l (fun es => ∃ l : List Int, es = l.map intV ∧ l.length ≤ 1000000000000) (fun es => .int .i64 (orF (es.map nOf)))
theorem w_orES : PSound GG 67 orES := by
  refine PSound.of_wpc (C := cxP Tryz.prog B2 [] 18) (T := plan0) Tryz.func67 rfl rfl rfl (Fit.pure (G := GG) hB2 mixed) (fun args h => ?_)
  unfold orES at h
  obtain ⟨es, rfl, hp⟩ := on_l_inv h
  refine ⟨by simp [cxP], ?_⟩
  simp only [orES, on_l_eq, Tryz.f67, argL, plan0]
  obtain ⟨l, rfl, hl⟩ := hp
  have hn : ∀ l : List Int, (l.map intV).map nOf = l := fun l => by simp [List.map_map, Function.comp_def, nOf, intV]
  simp only [hn, List.length_map, Tryz.underlying3, sz3, by3, ze3, Tryz.underlying4, sz4, by4, ze4, Tryz.underlying46, sz46, by46, ze46, Tryz.underlying143, sz143, by143, ze143, go_sem, ↓reduceIte, reduceCtorEq, Nat.reduceEqDiff, Nat.reduceLT, ↓all_qV, Int.reduceToNat, Int.reduceLT, Int.reduceLE, Nat.reduceAdd, Nat.reduceLeDiff, Nat.reduceMul]
  refine AWp.loop (T := plan0) (α := Nat) (fun i => ([(3, .pv (.int .i64 0)), (6, .pv (.sl (l.map intV))), (7, .pv (.int .i64 l.length)), (8, .pv (.int .i64 i))], [])) (fun i => i ≤ l.length ∧ orF (l.drop i) = orF l) (fun i => l.length - i)
    ⟨0, ⟨Nat.zero_le _, rfl⟩, ⟨by simp [fitR, look], trivial, rfl, rfl, rfl⟩⟩ ?_
  rintro i ⟨h1, h2⟩
  have hi1 : IntKind.i64.wrap ((i : Int) + 1) = ((i + 1 : Nat) : Int) := by rw [i64_in _ (by omega)]; omega
  by_cases hlt : i < l.length
  · have c0 : decide ((i : Int) < (l.length : Int)) = true := by simp; omega
    have k1 := getD_intV hlt
    rw [List.drop_eq_getElem_cons hlt, orF] at h2
    have e2 : l.getD i 0 = l[i] := by simp [List.getD_eq_getElem?_getD, hlt]
    rw [e2] at k1
    simp only [c0, k1, hi1, List.length_map, Tryz.underlying3, sz3, by3, ze3, Tryz.underlying4, sz4, by4, ze4, Tryz.underlying46, sz46, by46, ze46, Tryz.underlying143, sz143, by143, ze143, plan0, go_sem, ↓reduceIte, reduceCtorEq, Nat.reduceEqDiff, Nat.reduceLT, ↓all_qV, Int.reduceToNat, Int.reduceLT, Int.reduceLE, Nat.reduceAdd, Nat.reduceLeDiff, Nat.reduceMul]
    refine ⟨⟨by omega, by omega⟩, fun h3 => ?_, fun h3 => ⟨i + 1, ⟨by omega, ?_⟩, by omega, ⟨by simp [fitR, look], trivial, rfl, rfl, rfl⟩⟩⟩
    · rw [h3] at h2; rw [← h2]; rfl
    · rw [h3] at h2; exact h2
  · have c0 : decide ((i : Int) < (l.length : Int)) = false := by simp; omega
    rw [List.drop_eq_nil_of_le (by omega)] at h2
    simp only [c0, List.length_map, Tryz.underlying3, sz3, by3, ze3, Tryz.underlying4, sz4, by4, ze4, Tryz.underlying46, sz46, by46, ze46, Tryz.underlying143, sz143, by143, ze143, plan0, go_sem, ↓reduceIte, reduceCtorEq, Nat.reduceEqDiff, Nat.reduceLT, ↓all_qV, Int.reduceToNat, Int.reduceLT, Int.reduceLE, Nat.reduceAdd, Nat.reduceLeDiff, Nat.reduceMul]
    rw [← h2]; rfl
noncomputable def B3 (g : FuncId) : PSpec := (putΦ (putΦ (putΦ B2 106 containsS) 53 orS) 67 orES) g
theorem hB3 : TabSound GG B3 := (((hB2.put w_containsS).put w_orS).put w_orES)
/-! ### Orders -/
def isL3 (e : PV) : Prop := ∃ s y m, e = .agg [.str s, .int .i64 y, .int .i64 m] ∧ s.length ≤ 1000000000000
def isE3 (e : PV) : Prop := ∃ s c p, e = .agg [.str s, .str c, .int .i64 p] ∧ s.length ≤ 1000000000000 ∧ c.length ≤ 1000000000000
def isR4 (e : PV) : Prop := ∃ n s c p, e = .agg [.int .i64 n, .str s, .str c, .int .i64 p] ∧ s.length ≤ 1000000000000 ∧ c.length ≤ 1000000000000
def isC7 (e : PV) : Prop := ∃ c y am k d s l, e = .agg [.str c, .int .i64 y, .int .i64 am, .int .i64 k, .int .i64 d, .str s, .int .i64 l] ∧ c.length ≤ 1000000000000 ∧ s.length ≤ 1000000000000
def earC : PV → List UInt8
  | .agg [_, .str c, _] => c
  | _ => []
def earO (x y : PV) : Int := orF [cmpC (srcOf x) (srcOf y), cmpC (earC x) (earC y)]
def rulO (x y : PV) : Int := cmpI (ruN x) (ruN y)
def anyO (_ _ : PV) : Int := -1
noncomputable def linesS : PSpec := on_pp (fun a b => isL3 a ∧ isL3 b) (fun a b => .int .i64 (linO a b))
theorem k_linesS_53 {args : List PV} : B3 53 args = orS args := rfl
theorem k_linesS_54 {args : List PV} : B3 54 args = cmpIS args := rfl
theorem k_linesS_95 {args : List PV} : B3 95 args = cmpCS args := rfl
theorem w_linesS : PSound GG 69 linesS := by
  refine PSound.of_wpc (C := cxP Tryz.prog B3 [] 17) (T := plan0) Tryz.func69 rfl rfl rfl (Fit.pure (G := GG) hB3 mixed) (fun args h => ?_)
  unfold linesS at h
  obtain ⟨p, q, rfl, hp⟩ := on_pp_inv h
  refine ⟨by simp [cxP], ?_⟩
  simp only [linesS, on_pp_eq, Tryz.f69, argL, plan0]
  obtain ⟨⟨s, y, m, rfl, hs⟩, ⟨s', y', m', rfl, hs'⟩⟩ := hp
  have e : linO (.agg [.str s, .int .i64 y, .int .i64 m]) (.agg [.str s', .int .i64 y', .int .i64 m']) = orF [cmpC s s', cmpI y y'] := rfl
  simp only [e, k_linesS_53, orS, on_l_eq, k_linesS_54, cmpIS, on_ii_eq, k_linesS_95, cmpCS, on_ss_eq, Tryz.underlying1, sz1, by1, ze1, Tryz.underlying2, sz2, by2, ze2, Tryz.underlying3, sz3, by3, ze3, Tryz.underlying9, sz9, by9, ze9, Tryz.underlying22, sz22, by22, ze22, Tryz.underlying86, sz86, by86, ze86, fa86_0, fa86_1, fa86_2, go_sem, ↓reduceIte, reduceCtorEq, Nat.reduceEqDiff, Nat.reduceLT, ↓all_qV, Int.reduceToNat, Int.reduceLT, Int.reduceLE, Nat.reduceAdd, Nat.reduceLeDiff, Nat.reduceMul]
  exact ⟨by kernel_rfl, ⟨hs, hs'⟩, ⟨[cmpC s s', cmpI y y'], rfl, by simp⟩, rfl⟩
noncomputable def boundsS : PSpec := on_pp (fun a b => isL3 a ∧ isL3 b) (fun a b => .int .i64 (linO a b))
theorem k_boundsS_53 {args : List PV} : B3 53 args = orS args := rfl
theorem k_boundsS_54 {args : List PV} : B3 54 args = cmpIS args := rfl
theorem k_boundsS_95 {args : List PV} : B3 95 args = cmpCS args := rfl
theorem w_boundsS : PSound GG 72 boundsS := by
  refine PSound.of_wpc (C := cxP Tryz.prog B3 [] 17) (T := plan0) Tryz.func72 rfl rfl rfl (Fit.pure (G := GG) hB3 mixed) (fun args h => ?_)
  unfold boundsS at h
  obtain ⟨p, q, rfl, hp⟩ := on_pp_inv h
  refine ⟨by simp [cxP], ?_⟩
  simp only [boundsS, on_pp_eq, Tryz.f72, argL, plan0]
  obtain ⟨⟨s, y, m, rfl, hs⟩, ⟨s', y', m', rfl, hs'⟩⟩ := hp
  have e : linO (.agg [.str s, .int .i64 y, .int .i64 m]) (.agg [.str s', .int .i64 y', .int .i64 m']) = orF [cmpC s s', cmpI y y'] := rfl
  simp only [e, k_boundsS_53, orS, on_l_eq, k_boundsS_54, cmpIS, on_ii_eq, k_boundsS_95, cmpCS, on_ss_eq, Tryz.underlying1, sz1, by1, ze1, Tryz.underlying2, sz2, by2, ze2, Tryz.underlying3, sz3, by3, ze3, Tryz.underlying9, sz9, by9, ze9, Tryz.underlying22, sz22, by22, ze22, Tryz.underlying89, sz89, by89, ze89, fa89_0, fa89_1, fa89_2, go_sem, ↓reduceIte, reduceCtorEq, Nat.reduceEqDiff, Nat.reduceLT, ↓all_qV, Int.reduceToNat, Int.reduceLT, Int.reduceLE, Nat.reduceAdd, Nat.reduceLeDiff, Nat.reduceMul]
  exact ⟨by kernel_rfl, ⟨hs, hs'⟩, ⟨[cmpC s s', cmpI y y'], rfl, by simp⟩, rfl⟩
noncomputable def earmarksS : PSpec := on_pp (fun a b => isE3 a ∧ isE3 b) (fun a b => .int .i64 (earO a b))
theorem k_earmarksS_53 {args : List PV} : B3 53 args = orS args := rfl
theorem k_earmarksS_95 {args : List PV} : B3 95 args = cmpCS args := rfl
theorem w_earmarksS : PSound GG 75 earmarksS := by
  refine PSound.of_wpc (C := cxP Tryz.prog B3 [] 17) (T := plan0) Tryz.func75 rfl rfl rfl (Fit.pure (G := GG) hB3 mixed) (fun args h => ?_)
  unfold earmarksS at h
  obtain ⟨p, q, rfl, hp⟩ := on_pp_inv h
  refine ⟨by simp [cxP], ?_⟩
  simp only [earmarksS, on_pp_eq, Tryz.f75, argL, plan0]
  obtain ⟨⟨s, c, m, rfl, hs, hc⟩, ⟨s', c', m', rfl, hs', hc'⟩⟩ := hp
  have e : earO (.agg [.str s, .str c, .int .i64 m]) (.agg [.str s', .str c', .int .i64 m']) = orF [cmpC s s', cmpC c c'] := rfl
  simp only [e, k_earmarksS_53, orS, on_l_eq, k_earmarksS_95, cmpCS, on_ss_eq, Tryz.underlying1, sz1, by1, ze1, Tryz.underlying2, sz2, by2, ze2, Tryz.underlying3, sz3, by3, ze3, Tryz.underlying9, sz9, by9, ze9, Tryz.underlying22, sz22, by22, ze22, Tryz.underlying77, sz77, by77, ze77, fa77_0, fa77_1, fa77_2, go_sem, ↓reduceIte, reduceCtorEq, Nat.reduceEqDiff, Nat.reduceLT, ↓all_qV, Int.reduceToNat, Int.reduceLT, Int.reduceLE, Nat.reduceAdd, Nat.reduceLeDiff, Nat.reduceMul]
  exact ⟨by kernel_rfl, ⟨hs, hs'⟩, ⟨hc, hc'⟩, ⟨[cmpC s s', cmpC c c'], rfl, by simp⟩, rfl⟩
noncomputable def rulesS : PSpec := on_pp (fun a b => isR4 a ∧ isR4 b) (fun a b => .int .i64 (rulO a b))
theorem k_rulesS_54 {args : List PV} : B3 54 args = cmpIS args := rfl
theorem w_rulesS : PSound GG 81 rulesS := by
  refine PSound.of_wpc (C := cxP Tryz.prog B3 [] 10) (T := plan0) Tryz.func81 rfl rfl rfl (Fit.pure (G := GG) hB3 mixed) (fun args h => ?_)
  unfold rulesS at h
  obtain ⟨p, q, rfl, hp⟩ := on_pp_inv h
  refine ⟨by simp [cxP], ?_⟩
  simp only [rulesS, on_pp_eq, Tryz.f81, argL, plan0]
  obtain ⟨⟨n, s, c, m, rfl, hs, hc⟩, ⟨n', s', c', m', rfl, hs', hc'⟩⟩ := hp
  have e : rulO (.agg [.int .i64 n, .str s, .str c, .int .i64 m]) (.agg [.int .i64 n', .str s', .str c', .int .i64 m']) = cmpI n n' := rfl
  simp only [e, k_rulesS_54, cmpIS, on_ii_eq, Tryz.underlying3, sz3, by3, ze3, Tryz.underlying9, sz9, by9, ze9, Tryz.underlying88, sz88, by88, ze88, fa88_0, fa88_1, fa88_2, fa88_3, go_sem, ↓reduceIte, reduceCtorEq, Nat.reduceEqDiff, Nat.reduceLT, ↓all_qV, Int.reduceToNat, Int.reduceLT, Int.reduceLE, Nat.reduceAdd, Nat.reduceLeDiff, Nat.reduceMul]
noncomputable def anyS : PSpec := on_pp (fun a b => isC7 a ∧ isC7 b) (fun a b => .int .i64 (anyO a b))
theorem w_anyS : PSound GG 66 anyS := by
  refine PSound.of_wpc (C := cxP Tryz.prog B3 [] 5) (T := plan0) Tryz.func66 rfl rfl rfl (Fit.pure (G := GG) hB3 mixed) (fun args h => ?_)
  unfold anyS at h
  obtain ⟨p, q, rfl, hp⟩ := on_pp_inv h
  refine ⟨by simp [cxP], ?_⟩
  simp only [anyS, on_pp_eq, Tryz.f66, argL, plan0]
  obtain ⟨⟨c, y, am, k, d, s, l, rfl, hs, hc⟩, ⟨c', y', am', k', d', s', l', rfl, hs', hc'⟩⟩ := hp
  simp only [Tryz.underlying3, sz3, by3, ze3, Tryz.underlying9, sz9, by9, ze9, Tryz.underlying57, sz57, by57, ze57, fa57_0, fa57_1, fa57_2, fa57_3, fa57_4, fa57_5, fa57_6, go_sem, ↓reduceIte, reduceCtorEq, Nat.reduceEqDiff, Nat.reduceLT, ↓all_qV, Int.reduceToNat, Int.reduceLT, Int.reduceLE, Nat.reduceAdd, Nat.reduceLeDiff, Nat.reduceMul]
  rfl
noncomputable def B4 (g : FuncId) : PSpec := (putΦ (putΦ (putΦ (putΦ (putΦ B3 69 linesS) 72 boundsS) 75 earmarksS) 81 rulesS) 66 anyS) g
theorem hB4 : TabSound GG B4 := (((((hB3.put w_linesS).put w_boundsS).put w_earmarksS).put w_rulesS).put w_anyS)
end Go.AM
