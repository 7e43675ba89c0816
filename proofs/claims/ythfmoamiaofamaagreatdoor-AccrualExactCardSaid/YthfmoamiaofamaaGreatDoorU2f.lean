/-
  A part of a proof: see the last text of this claim for what is proved.
-/
import Derived.Test.YthfmoamiaofamaaGreatDoorU2y
import Derived.Test.YthfmoamiaofamaaGreatDoorZMa
/-! the reference's Postings; accrual.Close -/
namespace Go.AM
open Go Go.Proofs Go.IntWalk
set_option maxRecDepth 100000
set_option maxHeartbeats 4000000
set_option linter.unusedSimpArgs false
set_option linter.unusedVariables false
def on_ll (p : List PV → List PV → Prop) (f : List PV → List PV → PV) : PSpec
  | [.sl a0, .sl a1] => (p a0 a1, f a0 a1)
  | _ => (False, default)
theorem on_ll_eq {p : List PV → List PV → Prop} {f : List PV → List PV → PV} {a0 : List PV} {a1 : List PV} : on_ll p f [.sl a0, .sl a1] = (p a0 a1, f a0 a1) := rfl
theorem on_ll_inv {p : List PV → List PV → Prop} {f : List PV → List PV → PV} {args : List PV} (h : (on_ll p f args).1) : ∃ a0 : List PV, ∃ a1 : List PV, args = [.sl a0, .sl a1] ∧ p a0 a1 := by
  unfold on_ll at h
  split at h
  · exact ⟨_, _, rfl, h⟩
  · exact h.elim
def eqG : List Pst → List Pst → Bool
  | [], [] => true
  | x :: r, y :: s => decide (x = y) && eqG r s
  | _, _ => false
theorem eqG_iff : ∀ a b : List Pst, eqG a b = true ↔ a = b
  | [], [] => by simp [eqG]
  | [], y :: s => by simp [eqG]
  | x :: r, [] => by simp [eqG]
  | x :: r, y :: s => by simp [eqG, eqG_iff r s]
theorem keyPs {a b : Pst} : keyEqL [.int .i64 a.nu, .int .i64 a.d, .int .i64 a.en, .int .i64 a.db, .int .i64 a.cr, .int .i64 a.am, .int .i64 a.pa, .int .i64 a.re] [.int .i64 b.nu, .int .i64 b.d, .int .i64 b.en, .int .i64 b.db, .int .i64 b.cr, .int .i64 b.am, .int .i64 b.pa, .int .i64 b.re] = decide (a = b) := by
  rw [Bool.eq_iff_iff]
  cases a; cases b
  simp [keyEqL, keyEq1]
noncomputable def rpsS : PSpec := on_ll (fun a b => (∃ l : List Pst, a = l.map psV) ∧ (∃ l : List Pst, b = l.map psV) ∧ a.length ≤ 1000000 ∧ b.length ≤ 1000000) (fun a b => .bool (decide (a.map psOf = b.map psOf)))
theorem w_rpsS : PSound GG 23 rpsS := by
  refine PSound.of_wpc (C := cxP Tryz.prog AG [] 26) (T := plan0) Tryz.func23 rfl rfl rfl (Fit.pure (G := GG) hAG mixed) (fun args h => ?_)
  unfold rpsS at h
  obtain ⟨a, b, rfl, hp⟩ := on_ll_inv h
  refine ⟨by simp [cxP], ?_⟩
  simp only [rpsS, on_ll_eq, Tryz.f23, argL, plan0]
  obtain ⟨⟨a, rfl⟩, ⟨b, rfl⟩, hla, hlb⟩ := hp
  rw [List.length_map] at hla hlb
  simp only [map_psOf, List.length_map, Tryz.underlying3, sz3, by3, ze3, Tryz.underlying4, sz4, by4, ze4, Tryz.underlying23, sz23, by23, ze23, Tryz.underlying63, sz63, by63, ze63, fa63_0, fa63_1, fa63_2, fa63_3, fa63_4, fa63_5, fa63_6, fa63_7, go_sem, ↓reduceIte, reduceCtorEq, Nat.reduceEqDiff, Nat.reduceLT, ↓all_qV, Int.reduceToNat, Int.reduceLT, Int.reduceLE, Nat.reduceAdd, Nat.reduceLeDiff, Nat.reduceMul]
  refine ⟨fun h1 => ?_, fun h1 => ?_⟩
  · have h1 : ¬ a.length = b.length := by simp at h1; omega
    have : ¬ a = b := fun e => h1 (by rw [e])
    simp [this]
  have hl : a.length = b.length := by simp at h1; omega
  refine AWp.loop (T := plan0) (α := Nat) (fun i => ([(0, .pv (.sl (a.map psV))), (1, .pv (.sl (b.map psV))), (12, .pv (.int .i64 a.length)), (13, .pv (.int .i64 i))], []))
    (fun i => i ≤ a.length ∧ a.take i = b.take i) (fun i => a.length - i)
    ⟨0, ⟨Nat.zero_le _, rfl⟩, ⟨by simp [fitR, look], trivial, rfl, rfl, rfl⟩⟩ ?_
  rintro i ⟨hi, hab⟩
  have hi1 : IntKind.i64.wrap ((i : Int) + 1) = ((i + 1 : Nat) : Int) := by rw [i64_in _ (by omega)]; omega
  by_cases hlt : i < a.length
  · have c0 : decide ((i : Int) < (a.length : Int)) = true := by simp; omega
    have e1 := getD_ps hlt
    have e2 := getD_ps (l := b) (i := i) (by omega)
    have t1 := take_succ' hlt
    have t2 := take_succ' (l := b) (i := i) (by omega)
    have g1 : a = b → a.getD i default = b.getD i default := fun e => by rw [e]
    generalize a.getD i default = x at e1 t1 g1
    generalize b.getD i default = y at e2 t2 g1
    have hk := keyPs (a := x) (b := y)
    obtain ⟨nu, d, en, db, cr, am, pa, re⟩ := x
    obtain ⟨nu', d', en', db', cr', am', pa', re'⟩ := y
    simp only [psV] at e1 e2
    simp only at hk
    simp only [c0, e1, e2, hi1, hk, List.length_map, List.take_succ_cons, List.take_nil, Tryz.underlying3, sz3, by3, ze3, Tryz.underlying4, sz4, by4, ze4, Tryz.underlying23, sz23, by23, ze23, Tryz.underlying63, sz63, by63, ze63, fa63_0, fa63_1, fa63_2, fa63_3, fa63_4, fa63_5, fa63_6, fa63_7, plan0, go_sem, ↓reduceIte, reduceCtorEq, Nat.reduceEqDiff, Nat.reduceLT, ↓all_qV, Int.reduceToNat, Int.reduceLT, Int.reduceLE, Nat.reduceAdd, Nat.reduceLeDiff, Nat.reduceMul, ev_callG, gcallK_b, gcallK_w, callGc_true, callGc_false]
    refine ⟨by kernel_rfl, ⟨by omega, by omega⟩, ⟨by omega, by omega⟩, ⟨by kernel_rfl, by kernel_rfl⟩, fun h9 => ?_, fun h9 => ⟨i + 1, ⟨by omega, ?_⟩, by omega, ⟨by simp [fitR, look], trivial, rfl, rfl, rfl⟩⟩⟩
    · have h9 : ¬ (Pst.mk nu d en db cr am pa re = ⟨nu', d', en', db', cr', am', pa', re'⟩) := fun e => by rw [decide_eq_true e] at h9; cases h9
      have : ¬ a = b := fun e => h9 (g1 e)
      simp [this]
    · have h9 : Pst.mk nu d en db cr am pa re = ⟨nu', d', en', db', cr', am', pa', re'⟩ := Classical.byContradiction fun e => by rw [decide_eq_false e] at h9; cases h9
      rw [t1, t2, hab, h9]
  · have c0 : decide ((i : Int) < (a.length : Int)) = false := by simp; omega
    rw [List.take_of_length_le (by omega), List.take_of_length_le (by omega)] at hab
    subst hab
    simp only [c0, List.length_map, Tryz.underlying3, sz3, by3, ze3, Tryz.underlying4, sz4, by4, ze4, Tryz.underlying23, sz23, by23, ze23, Tryz.underlying63, sz63, by63, ze63, fa63_0, fa63_1, fa63_2, fa63_3, fa63_4, fa63_5, fa63_6, fa63_7, plan0, go_sem, ↓reduceIte, reduceCtorEq, Nat.reduceEqDiff, Nat.reduceLT, ↓all_qV, Int.reduceToNat, Int.reduceLT, Int.reduceLE, Nat.reduceAdd, Nat.reduceLeDiff, Nat.reduceMul]
    simp
/-! ### Close -/
def cloF (l : List Pst) (en day : Int) (c : Clo) : List Pst × Int := bif (adjF l en day c).2 != 0 then ([], (adjF l en day c).2) else (l ++ (adjF l en day c).1, 0)
theorem bif_len {n : Nat} {b : Bool} {x y : List Pst × Int} (hx : x.1.length ≤ n) (hy : y.1.length ≤ n) : (bif b then x else y).1.length ≤ n := by cases b; exact hy; exact hx
theorem adj_len {l : List Pst} {en day : Int} {c : Clo} : (adjF l en day c).1.length ≤ 5 := by
  unfold adjF
  exact bif_len (Nat.zero_le _) (bif_len (Nat.zero_le _) (bif_len (Nat.zero_le _) (bif_len (Nat.zero_le _) (bif_len (Nat.zero_le _) (bif_len (Nat.zero_le _) (bif_len (Nat.zero_le _) outA_len))))))
noncomputable def closS : PSpec := on_piip (fun a _ _ b => isLg a ∧ isClo b ∧ (lgOf a).length ≤ 1000) (fun a en day b => .tup [lgV (cloF (lgOf a) en day (cloOf b)).1, .int .i64 (cloF (lgOf a) en day (cloOf b)).2])
theorem k_closS_20 {args : List PV} : AG 20 args = adjS args := rfl
theorem k_closS_50 {args : List PV} : AG 50 args = concS args := rfl
theorem w_closS : PSound GG 22 closS := by
  refine PSound.of_wpc (C := cxP Tryz.prog AG [] 30) (T := plan0) Tryz.func22 rfl rfl rfl (Fit.pure (G := GG) hAG mixed) (fun args h => ?_)
  unfold closS at h
  obtain ⟨a, en, day, b, rfl, hp⟩ := on_piip_inv h
  refine ⟨by simp [cxP], ?_⟩
  simp only [closS, on_piip_eq, Tryz.f22, argL, plan0]
  obtain ⟨⟨l, rfl, hl⟩, ⟨⟨i, u, p, cl⟩, rfl, hc, hcl⟩, hn⟩ := hp
  rw [show lgOf (lgV l) = l from lgOf_agg] at hn
  simp only at hc hcl
  have hal := adj_len (l := l) (en := en) (day := day) (c := ⟨i, u, p, cl⟩)
  simp only [lgV, lgOf_agg, cloV, cloOf_agg, map_psOf, List.length_map, loadC_eq, k_closS_20, adjS, on_piip_eq, k_closS_50, concS, on_l_eq, List.take_succ_cons, List.take_nil, Tryz.underlying1, sz1, by1, ze1, Tryz.underlying2, sz2, by2, ze2, Tryz.underlying3, sz3, by3, ze3, Tryz.underlying4, sz4, by4, ze4, Tryz.underlying9, sz9, by9, ze9, Tryz.underlying23, sz23, by23, ze23, Tryz.underlying25, sz25, by25, ze25, fa25_0, Tryz.underlying26, sz26, by26, ze26, Tryz.underlying28, sz28, by28, ze28, fa28_0, fa28_1, fa28_2, fa28_3, Tryz.underlying40, sz40, by40, ze40, fa40_0, fa40_1, fa40_2, fa40_3, fa40_4, fa40_5, Tryz.underlying41, sz41, by41, ze41, Tryz.underlying53, sz53, by53, ze53, Tryz.underlying63, sz63, by63, ze63, fa63_0, fa63_1, fa63_2, fa63_3, fa63_4, fa63_5, fa63_6, fa63_7, Tryz.underlying100, sz100, by100, ze100, go_sem, ↓reduceIte, reduceCtorEq, Nat.reduceEqDiff, Nat.reduceLT, ↓all_qV, Int.reduceToNat, Int.reduceLT, Int.reduceLE, Nat.reduceAdd, Nat.reduceLeDiff, Nat.reduceMul, ev_callG, gcallK_b, gcallK_w, callGc_true, callGc_false]
  refine ⟨⟨⟨okL1, okC4⟩, ⟨l, rfl, hl⟩, ⟨i, u, p, cl⟩, rfl, hc, hcl⟩, fun h1 => ⟨okN1, by unfold cloF; rw [h1]; rfl⟩, fun h1 => ?_⟩
  unfold cloF
  rw [h1]
  obtain ⟨⟨r, e⟩, hr⟩ : ∃ r, adjF l en day ⟨i, u, p, cl⟩ = r := ⟨_, rfl⟩
  rw [hr] at hal h1 ⊢
  simp only at hal ⊢
  refine ⟨⟨[l, r], rfl, by simp, by simp; omega⟩, ?_⟩
  exact ⟨okL1, by simp [slOf]⟩
noncomputable def AH (g : FuncId) : PSpec := (putΦ (putΦ AG 23 rpsS) 22 closS) g
theorem hAH : TabSound GG AH := ((hAG.put w_rpsS).put w_closS)
end Go.AM
