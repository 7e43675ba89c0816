/-
  A part of a proof: see the last text of this claim for what is proved.
-/
import Derived.Test.YthfmoamiaofamaaGreatDoorS2
import Derived.Test.YthfmoamiaofamaaGreatDoorZMa
/-! accrual: amounts -/
namespace Go.AM
open Go Go.Proofs Go.IntWalk
set_option maxRecDepth 100000
set_option maxHeartbeats 1000000
set_option linter.unusedSimpArgs false
set_option linter.unusedVariables false
theorem getD_intV {l : List Int} {i : Nat} (h : i < l.length) : (l.map intV).getD i default = .int .i64 (l.getD i 0) := by
  simp [List.getD_eq_getElem?_getD, h, intV]
def nOfI : PV → Int
  | .int _ n => n
  | _ => 0
theorem map_nOfI (l : List Int) : (l.map intV).map nOfI = l := by simp [List.map_map, Function.comp_def, nOfI, intV]
noncomputable def am1S : PSpec := on_i (fun _ => True) (fun n => .bool (!vldM n))
theorem k10_valid {args : List PV} : Φ10 63 args = validMS args := rfl
theorem w_am1S : PSound GG 62 am1S := by
  refine PSound.of_wpc (C := cxP Tryz.prog Φ10 [] 6) (T := plan0) Tryz.func62 rfl rfl rfl (Fit.pure (G := GG) hΦ10 mixed) (fun args h => ?_)
  unfold am1S at h
  obtain ⟨n, rfl, hp⟩ := on_i_inv h
  refine ⟨by simp [cxP], ?_⟩
  simp only [am1S, on_i_eq, Tryz.f62, argL, plan0]
  simp only [k10_valid, validMS, on_i_eq, Tryz.underlying3, sz3, by3, ze3, Tryz.underlying4, sz4, by4, ze4, go_sem, ↓reduceIte, reduceCtorEq, Nat.reduceEqDiff, Nat.reduceLT, ↓all_qV, Int.reduceToNat, Int.reduceLT, Int.reduceLE, Nat.reduceAdd, Nat.reduceLeDiff, Nat.reduceMul]
noncomputable def Z0 (g : FuncId) : PSpec := (putΦ Φ10 62 am1S) g
theorem hZ0 : TabSound GG Z0 := (hΦ10.put w_am1S)
def ixIG : Nat → List Int → Int
  | _, [] => -1
  | i, x :: r => bif !vldM x then (i : Int) else ixIG (i + 1) r
theorem ixIG_any : ∀ (i : Nat) (l : List Int), decide (0 ≤ ixIG i l) = l.any fun x => !vldM x
  | _, [] => rfl
  | i, x :: r => by
    unfold ixIG
    rw [List.any_cons]
    cases h : vldM x with
    | true => simpa [h] using ixIG_any (i + 1) r
    | false => simp
noncomputable def ixIS : PSpec := on_lp (fun es f => f = .fn 62 [] ∧ (∃ l : List Int, es = l.map intV) ∧ es.length ≤ 1000000) (fun es _ => .int .i64 (ixIG 0 (es.map nOfI)))
theorem k_am1 {args : List PV} : Z0 62 args = am1S args := rfl
theorem w_ixIS : PSound GG 80 ixIS := by
  refine PSound.of_wpc (C := cxP Tryz.prog Z0 [] 19) (T := plan0) Tryz.func80 rfl rfl rfl (Fit.pure (G := GG) hZ0 mixed) (fun args h => ?_)
  unfold ixIS at h
  obtain ⟨es, f, rfl, hp⟩ := on_lp_inv h
  refine ⟨by simp [cxP], ?_⟩
  simp only [ixIS, on_lp_eq, Tryz.f80, argL, plan0]
  obtain ⟨rfl, ⟨l, rfl⟩, hl⟩ := hp
  simp only [List.length_map] at hl
  simp only [map_nOfI, List.length_map, Tryz.underlying3, sz3, by3, ze3, Tryz.underlying4, sz4, by4, ze4, Tryz.underlying22, sz22, by22, ze22, Tryz.underlying70, sz70, by70, ze70, go_sem, ↓reduceIte, reduceCtorEq, Nat.reduceEqDiff, Nat.reduceLT, ↓all_qV, Int.reduceToNat, Int.reduceLT, Int.reduceLE, Nat.reduceAdd, Nat.reduceLeDiff, Nat.reduceMul]
  refine AWp.loop (T := plan0) (α := Nat) (fun i => ([(0, .pv (.sl (l.map intV))), (1, .pv (.fn 62 [])), (7, .pv (.int .i64 l.length)), (8, .pv (.int .i64 i))], [])) (fun i => i ≤ l.length ∧ ixIG 0 l = ixIG i (l.drop i)) (fun i => l.length - i)
    ⟨0, ⟨Nat.zero_le _, rfl⟩, ⟨by simp [fitR, look], trivial, rfl, rfl, rfl⟩⟩ ?_
  rintro i ⟨h1, h2⟩
  have hi1 : IntKind.i64.wrap ((i : Int) + 1) = ((i + 1 : Nat) : Int) := by rw [i64_in _ (by omega)]; omega
  by_cases hlt : i < l.length
  · have c0 : decide ((i : Int) < (l.length : Int)) = true := by simp; omega
    have e1 := getD_intV hlt
    have hd : l.drop i = l.getD i 0 :: l.drop (i + 1) := by rw [List.drop_eq_getElem_cons hlt]; simp [List.getD_eq_getElem?_getD, hlt]
    rw [hd, ixIG] at h2
    generalize l.getD i 0 = x at e1 h2
    simp only [c0, e1, hi1, k_am1, am1S, on_i_eq, ev_callT, callTK, List.length_map, List.take_succ_cons, List.take_nil, Tryz.underlying3, sz3, by3, ze3, Tryz.underlying4, sz4, by4, ze4, Tryz.underlying22, sz22, by22, ze22, Tryz.underlying70, sz70, by70, ze70, plan0, go_sem, ↓reduceIte, reduceCtorEq, Nat.reduceEqDiff, Nat.reduceLT, ↓all_qV, Int.reduceToNat, Int.reduceLT, Int.reduceLE, Nat.reduceAdd, Nat.reduceLeDiff, Nat.reduceMul]
    and_intros
    all_goals try first | (show checkD _ _ _ = true; kernel_rfl) | omega | (intros; omega) | rfl | trivial | assumption
    · intro h9
      have h9 : vldM x = false := by simpa using h9
      rw [h2, h9]; rfl
    · intro h9
      have h9 : vldM x = true := by simpa using h9
      refine ⟨i + 1, ⟨by omega, by rw [h2, h9]; rfl⟩, by omega, ⟨by simp [fitR, look], trivial, rfl, rfl, rfl⟩⟩
  · have c0 : decide ((i : Int) < (l.length : Int)) = false := by simp; omega
    rw [List.drop_eq_nil_of_le (by omega)] at h2
    simp only [c0, List.length_map, Tryz.underlying3, sz3, by3, ze3, Tryz.underlying4, sz4, by4, ze4, Tryz.underlying22, sz22, by22, ze22, Tryz.underlying70, sz70, by70, ze70, plan0, go_sem, ↓reduceIte, reduceCtorEq, Nat.reduceEqDiff, Nat.reduceLT, ↓all_qV, Int.reduceToNat, Int.reduceLT, Int.reduceLE, Nat.reduceAdd, Nat.reduceLeDiff, Nat.reduceMul]
    rw [h2]; rfl
noncomputable def Z1 (g : FuncId) : PSpec := (putΦ Z0 80 ixIS) g
theorem hZ1 : TabSound GG Z1 := (hZ0.put w_ixIS)
noncomputable def ctIS : PSpec := on_lp (fun es f => f = .fn 62 [] ∧ (∃ l : List Int, es = l.map intV) ∧ es.length ≤ 1000000) (fun es _ => .bool ((es.map nOfI).any fun x => !vldM x))
theorem k_ctIS_80 {args : List PV} : Z1 80 args = ixIS args := rfl
theorem w_ctIS : PSound GG 61 ctIS := by
  refine PSound.of_wpc (C := cxP Tryz.prog Z1 [] 9) (T := plan0) Tryz.func61 rfl rfl rfl (Fit.pure (G := GG) hZ1 mixed) (fun args h => ?_)
  unfold ctIS at h
  obtain ⟨es, f, rfl, hp⟩ := on_lp_inv h
  refine ⟨by simp [cxP], ?_⟩
  simp only [ctIS, on_lp_eq, Tryz.f61, argL, plan0]
  obtain ⟨rfl, ⟨l, rfl⟩, hl⟩ := hp
  simp only [map_nOfI, k_ctIS_80, ixIS, on_lp_eq, Tryz.underlying3, sz3, by3, ze3, Tryz.underlying4, sz4, by4, ze4, Tryz.underlying22, sz22, by22, ze22, Tryz.underlying70, sz70, by70, ze70, go_sem, ↓reduceIte, reduceCtorEq, Nat.reduceEqDiff, Nat.reduceLT, ↓all_qV, Int.reduceToNat, Int.reduceLT, Int.reduceLE, Nat.reduceAdd, Nat.reduceLeDiff, Nat.reduceMul]
  exact ⟨⟨⟨l, rfl⟩, hl⟩, by rw [← ixIG_any 0 l]⟩
noncomputable def Z2 (g : FuncId) : PSpec := (putΦ Z1 61 ctIS) g
theorem hZ2 : TabSound GG Z2 := (hZ1.put w_ctIS)
noncomputable def amtS : PSpec := on_l (fun es => (∃ l : List Int, es = l.map intV) ∧ es.length ≤ 1000000) (fun es => .bool (!((es.map nOfI).any fun x => !vldM x)))
theorem k_amtS_61 {args : List PV} : Z2 61 args = ctIS args := rfl
theorem k_amtS_62 {args : List PV} : Z2 62 args = am1S args := rfl
theorem w_amtS : PSound GG 32 amtS := by
  refine PSound.of_wpc (C := cxP Tryz.prog Z2 [] 6) (T := plan0) Tryz.func32 rfl rfl rfl (Fit.pure (G := GG) hZ2 mixed) (fun args h => ?_)
  unfold amtS at h
  obtain ⟨es, rfl, hp⟩ := on_l_inv h
  refine ⟨by simp [cxP], ?_⟩
  simp only [amtS, on_l_eq, Tryz.f32, argL, plan0]
  obtain ⟨⟨l, rfl⟩, hl⟩ := hp
  simp only [map_nOfI, k_amtS_61, ctIS, on_lp_eq, k_amtS_62, am1S, on_i_eq, Tryz.underlying3, sz3, by3, ze3, Tryz.underlying4, sz4, by4, ze4, Tryz.underlying22, sz22, by22, ze22, Tryz.underlying70, sz70, by70, ze70, go_sem, ↓reduceIte, reduceCtorEq, Nat.reduceEqDiff, Nat.reduceLT, ↓all_qV, Int.reduceToNat, Int.reduceLT, Int.reduceLE, Nat.reduceAdd, Nat.reduceLeDiff, Nat.reduceMul]
  exact ⟨⟨l, rfl⟩, hl⟩
noncomputable def Z3 (g : FuncId) : PSpec := (putΦ Z2 32 amtS) g
theorem hZ3 : TabSound GG Z3 := (hZ2.put w_amtS)
end Go.AM
