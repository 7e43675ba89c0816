/-
  A part of a proof: see the last text of this claim for what is proved.
-/
import Derived.Test.YtdbnifmcikljdaaGreatDoorCls
import Derived.Test.YtdbnifmcikljdaaGreatDoorZMa
namespace Go.AM
open Go Go.Proofs Go.IntWalk
set_option maxRecDepth 100000
set_option maxHeartbeats 1000000
set_option linter.unusedSimpArgs false
set_option linter.unusedVariables false
theorem drop_getD {s : List UInt8} {i : Nat} (h : i < s.length) : s.drop i = s.getD i 0 :: s.drop (i + 1) := by
  rw [List.drop_eq_getElem_cons h]; simp [List.getD_eq_getElem?_getD, h]
def parG : List UInt8 → List PV → Int → Int → Int → List PV
  | [], acc, v, d, f => bif d == 0 || decide (2 < d) || f == 48 then [] else (if 4 < (acc ++ [intV v]).length then [] else acc ++ [intV v])
  | c :: r, acc, v, d, f => bif (c.toNat : Int) == 46 then (bif d == 0 || decide (2 < d) || f == 48 then [] else parG r (acc ++ [intV v]) 0 0 0) else
      bif decide ((c.toNat : Int) < 48) || decide (57 < (c.toNat : Int)) then [] else parG r acc (10 * v + ((c.toNat : Int) - 48)) (d + 1) (bif d == 0 then (c.toNat : Int) else f)
def parts (s : List UInt8) : List PV := if 12 < s.length then [] else parG s [] 0 0 0
noncomputable def rPartsS : PSpec := on_s (fun s => s.length ≤ 4611686018427387904) (fun s => .sl (parts s))
theorem w_rPartsS : PSound GG 35 rPartsS := by
  refine PSound.of_wpc (C := cxP Tryz.prog Φ0 [] 68) (T := plan0) Tryz.func35 rfl rfl rfl (Fit.pure (G := GG) hΦ0 mixed) (fun args h => ?_)
  unfold rPartsS at h
  obtain ⟨s, rfl, hp⟩ := on_s_inv h
  refine ⟨by simp [cxP], ?_⟩
  simp only [rPartsS, on_s_eq, Tryz.f35, argL, plan0]
  simp only [Tryz.underlying1, sz1, by1, ze1, Tryz.underlying3, sz3, by3, ze3, Tryz.underlying4, sz4, by4, ze4, Tryz.underlying5, sz5, by5, ze5, Tryz.underlying9, sz9, by9, ze9, Tryz.underlying22, sz22, by22, ze22, indexA, go_sem, ↓reduceIte, reduceCtorEq, Nat.reduceEqDiff, Nat.reduceLT, ↓all_qV, Int.reduceToNat, Int.reduceLT, Int.reduceLE, Nat.reduceAdd, Nat.reduceLeDiff, Nat.reduceMul]
  refine ⟨fun h1 => ?_, fun h1 => ?_⟩
  · have : 12 < s.length := by simp at h1; omega
    unfold parts; rw [if_pos this]
  · have h12 : s.length ≤ 12 := by simp at h1; omega
    refine AWp.adoptS (s := 3) (κ := 8000) (k := 1) (by simp [look]) rfl (by decide) ?_
    refine AWp.loop (T := plan0) (α := Nat × List PV × Int × Int × Int) (fun x => ([(0, .pv (.str s)), (6, .pv (.int .i64 x.1)), (3, .rs 8000 x.2.1.length), (4, .pv (.int .i64 x.2.2.1)), (5, .pv (.int .i64 x.2.2.2.1))], [(8000, .row 1 x.2.1)]))
      (fun x => x.1 ≤ s.length + 1 ∧ x.2.1.length ≤ x.1 ∧ (0 ≤ x.2.2.2.1 ∧ x.2.2.2.1 ≤ x.1) ∧ (0 ≤ x.2.2.1 ∧ x.2.2.1 < 10 ^ x.1) ∧ (0 < x.2.2.2.1 → x.2.2.2.2 = ((s.getD ((x.1 : Int) - x.2.2.2.1).toNat 0).toNat : Int)) ∧
        (if x.1 ≤ s.length then parG (s.drop x.1) x.2.1 x.2.2.1 x.2.2.2.1 x.2.2.2.2 else (if 4 < x.2.1.length then [] else x.2.1)) = parts s)
      (fun x => s.length + 2 - x.1) ⟨(0, [], 0, 0, 0), ?_, ⟨by simp [fitR, look, upd], by simp [fitH, hget, hset], rfl, rfl, rfl⟩⟩ ?_
    · refine ⟨Nat.zero_le _, Nat.le_refl _, ⟨by decide, by decide⟩, ⟨by decide, by decide⟩, fun h => absurd h (by decide), ?_⟩
      rw [if_pos (Nat.zero_le _)]; unfold parts; rw [if_neg (by omega)]; rfl
    rintro ⟨i, acc, v, d, f⟩ ⟨h2, h3, h4, h5, h6, h7⟩
    simp only at h2 h3 h4 h5 h6 h7
    have h10 : (10 : Int) ^ i ≤ 10 ^ 13 := by
      have : (10 : Nat) ^ i ≤ 10 ^ 13 := Nat.pow_le_pow_right (by decide) (by omega)
      exact_mod_cast this
    have hw : IntKind.i64.wrap ((i : Int) - d) = (i : Int) - d := i64_in _ (by omega)
    have hi1 : IntKind.i64.wrap ((i : Int) + 1) = ((i + 1 : Nat) : Int) := by rw [i64_in _ (by omega)]; omega
    have hd1 : IntKind.i64.wrap (d + 1) = d + 1 := i64_in _ (by omega)
    have hE : (d == 0 || decide (2 < d) || ((s.getD ((i : Int) - d).toNat 0).toNat : Int) == 48) = (d == 0 || decide (2 < d) || f == 48) := by
      by_cases h : 0 < d
      · rw [← h6 h]
      · have : d = 0 := by omega
        subst this; rfl
    by_cases hle : i ≤ s.length
    · have c0 : decide ((i : Int) ≤ (s.length : Int)) = true := by simp; omega
      rw [if_pos hle] at h7
      simp only [c0, hw, hE, hi1, hd1, Tryz.underlying1, sz1, by1, ze1, Tryz.underlying3, sz3, by3, ze3, Tryz.underlying4, sz4, by4, ze4, Tryz.underlying5, sz5, by5, ze5, Tryz.underlying9, sz9, by9, ze9, Tryz.underlying22, sz22, by22, ze22, plan0, indexA, go_sem, ↓reduceIte, reduceCtorEq, Nat.reduceEqDiff, Nat.reduceLT, ↓all_qV, Int.reduceToNat, Int.reduceLT, Int.reduceLE, Nat.reduceAdd, Nat.reduceLeDiff, Nat.reduceMul]
      refine ⟨fun h => ?_, fun h => ?_, fun h => ?_⟩
      · have : ¬ (i : Int) = s.length := by simpa using h
        omega
      · have hg : parG (s.drop i) acc v d f = bif (d == 0 || decide (2 < d) || f == 48) then [] else (if i + 1 ≤ s.length then parG (s.drop (i + 1)) (acc ++ [intV v]) 0 0 0 else (if 4 < (acc ++ [intV v]).length then [] else acc ++ [intV v])) := by
          by_cases hlt : i < s.length
          · have e1 : ((i : Int) == (s.length : Int)) = false := by simp; omega
            rw [e1, Bool.false_or] at h
            rw [drop_getD hlt, parG, h, if_pos (by omega)]; rfl
          · rw [List.drop_eq_nil_of_le (by omega), parG, if_neg (show ¬ (i + 1 ≤ s.length) by omega)]
        rw [hg] at h7
        refine ⟨fun h8 => ?_, fun h8 => ?_, fun h8 => ?_⟩
        · simp only [Bool.not_eq_true', Bool.or_eq_false_iff, beq_eq_false_iff_ne, decide_eq_false_iff_not] at h8
          omega
        · rw [h8] at h7; exact congrArg PV.sl h7
        · rw [h8] at h7
          refine ⟨rfl, fun e he => by simp only [List.mem_singleton] at he; subst he; rfl, Nat.le_refl _, by omega, by simp only [maxLen]; omega, (i + 1, acc ++ [intV v], 0, 0, 0), ⟨by simp only; omega, by simp only [List.length_append, List.length_cons, List.length_nil]; omega, ⟨by simp only; omega, by simp only; omega⟩, ⟨by simp only; omega, ?_⟩, fun h9 => absurd h9 (by simp only; omega), h7⟩, by simp only; omega, ⟨by simp [fitR, look], by simp [fitH, hget, intV], rfl, rfl, rfl⟩⟩
          simp only
          exact Int.pow_pos (by decide)
      · have hlt : i < s.length := by
          simp only [Bool.or_eq_false_iff, beq_eq_false_iff_ne] at h
          have := h.1
          omega
        have e1 : ((i : Int) == (s.length : Int)) = false := by simp; omega
        rw [e1, Bool.false_or] at h
        rw [drop_getD hlt, parG, h, cond_false] at h7
        refine ⟨by omega, fun _ => by omega, fun h8 => ?_, fun h8 => ⟨by omega, ?_⟩⟩
        · rw [h8] at h7; exact congrArg PV.sl h7
        · rw [h8, cond_false] at h7
          simp only [Bool.or_eq_false_iff, decide_eq_false_iff_not] at h8
          have e2 : IntKind.i64.wrap (IntKind.i64.wrap (10 * v) + IntKind.i64.wrap (IntKind.u8.wrap (((s.getD i 0).toNat : Int) - 48))) = 10 * v + (((s.getD i 0).toNat : Int) - 48) := by
            rw [u8_in _ (by omega), i64_in (10 * v) (by omega), i64_in (((s.getD i 0).toNat : Int) - 48) (by omega), i64_in _ (by omega)]
          have e3 : (10 : Int) ^ (i + 1) = 10 ^ i * 10 := Int.pow_succ 10 i
          refine ⟨(i + 1, acc, 10 * v + (((s.getD i 0).toNat : Int) - 48), d + 1, bif d == 0 then ((s.getD i 0).toNat : Int) else f), ⟨by simp only; omega, by simp only; omega, ⟨by simp only; omega, by simp only; omega⟩, ⟨by simp only; omega, by simp only; omega⟩, fun _ => ?_, ?_⟩, by simp only; omega, ⟨by simp only [fitR, look_cons, Nat.reduceEqDiff, if_true, if_false, ↓reduceIte, e2, and_self], by simp [fitH, hget], rfl, rfl, rfl⟩⟩
          · simp only
            have e4 : ((i + 1 : Nat) : Int) - (d + 1) = (i : Int) - d := by omega
            rw [e4]
            by_cases h9 : 0 < d
            · have : (d == 0) = false := by simp; omega
              rw [this]; exact h6 h9
            · have : d = 0 := by omega
              subst this
              simp
          · simp only
            rw [if_pos (by omega)]; exact h7
    · have c0 : decide ((i : Int) ≤ (s.length : Int)) = false := by simp; omega
      rw [if_neg hle] at h7
      simp only [c0, hw, hE, hi1, hd1, Tryz.underlying1, sz1, by1, ze1, Tryz.underlying3, sz3, by3, ze3, Tryz.underlying4, sz4, by4, ze4, Tryz.underlying5, sz5, by5, ze5, Tryz.underlying9, sz9, by9, ze9, Tryz.underlying22, sz22, by22, ze22, plan0, indexA, go_sem, ↓reduceIte, reduceCtorEq, Nat.reduceEqDiff, Nat.reduceLT, ↓all_qV, Int.reduceToNat, Int.reduceLT, Int.reduceLE, Nat.reduceAdd, Nat.reduceLeDiff, Nat.reduceMul]
      refine ⟨fun h => ?_, fun h => ⟨Nat.le_refl _, ?_⟩⟩
      · have : 4 < acc.length := by simp at h; omega
        rw [if_pos this] at h7; exact congrArg PV.sl h7
      · have : ¬ 4 < acc.length := by simp at h; omega
        rw [if_neg this] at h7; rw [List.take_length]; exact congrArg PV.sl h7
theorem parG_int : ∀ (s : List UInt8) (acc : List Int) (v d f : Int), ∃ l : List Int, parG s (acc.map intV) v d f = l.map intV ∧ l.length ≤ 4
  | [], acc, v, d, f => by
    unfold parG
    cases (d == 0 || decide (2 < d) || f == 48) with
    | true => exact ⟨[], rfl, by decide⟩
    | false =>
      simp only [cond_false]
      split
      · exact ⟨[], rfl, by decide⟩
      · rename_i h
        exact ⟨acc ++ [v], by simp, by simp only [List.length_append, List.length_map, List.length_cons, List.length_nil] at h ⊢; omega⟩
  | c :: r, acc, v, d, f => by
    unfold parG
    cases h1 : ((c.toNat : Int) == 46) with
    | true =>
      simp only [cond_true]
      cases (d == 0 || decide (2 < d) || f == 48) with
      | true => exact ⟨[], rfl, by decide⟩
      | false =>
        have := parG_int r (acc ++ [v]) 0 0 0
        simpa using this
    | false =>
      simp only [cond_false]
      cases (decide ((c.toNat : Int) < 48) || decide (57 < (c.toNat : Int))) with
      | true => exact ⟨[], rfl, by decide⟩
      | false => exact parG_int r acc _ _ _
theorem parts_int (s : List UInt8) : ∃ l : List Int, parts s = l.map intV ∧ l.length ≤ 4 := by
  unfold parts
  split
  · exact ⟨[], rfl, by decide⟩
  · exact parG_int s [] 0 0 0
def pI (s : List UInt8) : List Int := (parts s).map nOf
theorem parts_eq (s : List UInt8) : parts s = (pI s).map intV ∧ (pI s).length ≤ 4 := by
  obtain ⟨l, h1, h2⟩ := parts_int s
  have : pI s = l := by unfold pI; rw [h1]; simp [List.map_map, Function.comp_def, nOf, intV]
  rw [this]
  exact ⟨h1, h2⟩
def cmpF (a b : List UInt8) : Int :=
  bif (((pI a).length : Int) == 0 || ((pI b).length : Int) == 0) then
    (bif decide (0 < ((pI a).length : Int)) then 1 else bif decide (0 < ((pI b).length : Int)) then -1 else bif Op.bytesLess a b then -1 else bif !(Op.bytesLess a b || a == b) then 1 else 0)
  else cmpL (pI a) (pI b)
noncomputable def R1 (g : FuncId) : PSpec := (putΦ Φ0 35 rPartsS) g
theorem hR1 : TabSound GG R1 := (hΦ0.put w_rPartsS)
noncomputable def rCmpS : PSpec := on_ss (fun a b => a.length ≤ 4611686018427387904 ∧ b.length ≤ 4611686018427387904) (fun a b => .int .i64 (cmpF a b))
theorem k_rCmpS_35 {args : List PV} : R1 35 args = rPartsS args := rfl
theorem w_rCmpS : PSound GG 36 rCmpS := by
  refine PSound.of_wpc (C := cxP Tryz.prog R1 [] 78) (T := plan0) Tryz.func36 rfl rfl rfl (Fit.pure (G := GG) hR1 mixed) (fun args h => ?_)
  unfold rCmpS at h
  obtain ⟨a, b, rfl, hp⟩ := on_ss_inv h
  refine ⟨by simp [cxP], ?_⟩
  simp only [rCmpS, on_ss_eq, Tryz.f36, argL, plan0]
  obtain ⟨e1, n1⟩ := parts_eq a
  obtain ⟨e2, n2⟩ := parts_eq b
  unfold cmpF
  generalize pI a = p at e1 n1 ⊢
  generalize pI b = q at e2 n2 ⊢
  simp only [e1, e2, k_rCmpS_35, rPartsS, on_s_eq, List.length_map, Tryz.underlying3, sz3, by3, ze3, Tryz.underlying4, sz4, by4, ze4, Tryz.underlying9, sz9, by9, ze9, Tryz.underlying22, sz22, by22, ze22, go_sem, ↓reduceIte, reduceCtorEq, Nat.reduceEqDiff, Nat.reduceLT, ↓all_qV, Int.reduceToNat, Int.reduceLT, Int.reduceLE, Nat.reduceAdd, Nat.reduceLeDiff, Nat.reduceMul]
  refine ⟨hp.1, hp.2, fun h1 => ⟨fun h2 => ?_, fun h2 => ⟨fun h3 => ?_, fun h3 => ⟨fun h4 => ?_, fun h4 => ⟨fun h5 => ?_, fun h5 => ?_⟩⟩⟩⟩, fun h1 => ?_⟩
  · rw [h1, h2]; rfl
  · rw [h1, h2, h3]; rfl
  · rw [h1, h2, h3, h4]; rfl
  · rw [h4] at h5; rw [h1, h2, h3, h4, h5]; rfl
  · rw [h4] at h5; rw [h1, h2, h3, h4, h5]; rfl
  · rw [h1, cond_false]
    refine AWp.loop (T := plan0) (α := Nat) (fun i => ([(5, .pv (.sl (p.map intV))), (6, .pv (.sl (q.map intV))), (7, .pv (.int .i64 i))], [])) (fun i => (i ≤ p.length ∧ i ≤ q.length) ∧ cmpL (p.drop i) (q.drop i) = cmpL p q) (fun i => p.length - i)
      ⟨0, ⟨⟨Nat.zero_le _, Nat.zero_le _⟩, rfl⟩, ⟨by simp [fitR, look], trivial, rfl, rfl, rfl⟩⟩ ?_
    rintro i ⟨⟨g1, g2⟩, g3⟩
    have hi1 : IntKind.i64.wrap ((i : Int) + 1) = ((i + 1 : Nat) : Int) := by rw [i64_in _ (by omega)]; omega
    by_cases hlt : i < p.length ∧ i < q.length
    · have c0 : decide ((i : Int) < (p.length : Int)) = true := by simp; omega
      have c1 : decide ((i : Int) < (q.length : Int)) = true := by simp; omega
      have k1 := getD_intV hlt.1
      have k2 := getD_intV hlt.2
      have d1 : p.drop i = p.getD i 0 :: p.drop (i + 1) := by rw [List.drop_eq_getElem_cons hlt.1]; simp [List.getD_eq_getElem?_getD, hlt.1]
      have d2 : q.drop i = q.getD i 0 :: q.drop (i + 1) := by rw [List.drop_eq_getElem_cons hlt.2]; simp [List.getD_eq_getElem?_getD, hlt.2]
      rw [d1, d2, cmpL] at g3
      simp only [c0, c1, k1, k2, hi1, List.length_map, Tryz.underlying3, sz3, by3, ze3, Tryz.underlying4, sz4, by4, ze4, Tryz.underlying9, sz9, by9, ze9, Tryz.underlying22, sz22, by22, ze22, plan0, go_sem, ↓reduceIte, reduceCtorEq, Nat.reduceEqDiff, Nat.reduceLT, ↓all_qV, Int.reduceToNat, Int.reduceLT, Int.reduceLE, Nat.reduceAdd, Nat.reduceLeDiff, Nat.reduceMul]
      refine ⟨by kernel_rfl, by omega, by omega, fun h3 => ?_, fun h3 => ⟨by kernel_rfl, by omega, by omega, fun h4 => ?_, fun h4 => ⟨i + 1, ⟨⟨by omega, by omega⟩, ?_⟩, by omega, ⟨by simp [fitR, look], trivial, rfl, rfl, rfl⟩⟩⟩⟩
      · rw [← g3, if_pos (by simpa using h3)]
      · rw [← g3, if_neg (by simpa using h3), if_pos (by simpa using h4)]
      · rw [← g3, if_neg (by simpa using h3), if_neg (by simpa using h4)]
    · have hcond : (decide ((i : Int) < (p.length : Int)) && decide ((i : Int) < (q.length : Int))) = false := by
        by_cases h9 : i < p.length
        · have : ¬ (i : Int) < q.length := by omega
          simp [this]
        · have : ¬ (i : Int) < p.length := by omega
          simp [this]
      simp only [hcond, List.length_map, Tryz.underlying3, sz3, by3, ze3, Tryz.underlying4, sz4, by4, ze4, Tryz.underlying9, sz9, by9, ze9, Tryz.underlying22, sz22, by22, ze22, plan0, go_sem, ↓reduceIte, reduceCtorEq, Nat.reduceEqDiff, Nat.reduceLT, ↓all_qV, Int.reduceToNat, Int.reduceLT, Int.reduceLE, Nat.reduceAdd, Nat.reduceLeDiff, Nat.reduceMul]
      rw [cmpL_end g1 g2 hlt] at g3
      rw [← g3]
      refine ⟨fun h3 => ?_, fun h3 => ⟨fun h4 => ?_, fun h4 => ?_⟩⟩
      · simp only [decide_eq_true_eq] at h3
        rw [if_pos (by omega)]
      · simp only [decide_eq_true_eq, decide_eq_false_iff_not] at h3 h4
        rw [if_neg (by omega), if_pos (by omega)]
      · simp only [decide_eq_false_iff_not] at h3 h4
        rw [if_neg (by omega), if_neg (by omega)]
noncomputable def R2 (g : FuncId) : PSpec := (putΦ R1 36 rCmpS) g
theorem hR2 : TabSound GG R2 := (hR1.put w_rCmpS)
end Go.AM
