/-
  A part of a proof: see the last text of this claim for what is proved.
-/
import Derived.Test.YtamiheckgglgaaaGreatDoorB4a
import Derived.Test.YtamiheckgglgaaaGreatDoorSO
import Derived.Test.YtamiheckgglgaaaGreatDoorZMa
namespace Go.AM
open Go Go.Proofs Go.IntWalk
set_option maxRecDepth 100000
set_option maxHeartbeats 1000000
set_option linter.unusedSimpArgs false
set_option linter.unusedVariables false
def ltQ (e d : PV) : Bool := decide (cmpB (bidOf e) (bidOf d) < 0)
theorem cmpI_lt {a b : Int} : cmpI a b < 0 ↔ a < b := by
  unfold cmpI
  by_cases h : a < b
  · simp [h]
  · by_cases h2 : b < a <;> simp [h, h2]
theorem cmpI_0 {a b : Int} : cmpI a b = 0 ↔ a = b := by
  unfold cmpI
  by_cases h : a < b
  · simp [h]; omega
  · by_cases h2 : b < a
    · simp [h, h2]; omega
    · simp [h, h2]; omega
theorem cmpB_lt {x y : Bid} : cmpB x y < 0 ↔ x.b < y.b ∨ x.b = y.b ∧ x.n < y.n := by
  unfold cmpB orF
  by_cases h : x.b = y.b
  · have h0 : cmpI x.b y.b = 0 := cmpI_0.2 h
    rw [h0]
    simp only [bne_self_eq_false, cond_false, orF]
    by_cases h2 : x.n = y.n
    · have h1 : cmpI x.n y.n = 0 := cmpI_0.2 h2
      rw [h1]
      simp only [bne_self_eq_false, cond_false]
      omega
    · have h1 : (cmpI x.n y.n != 0) = true := by simpa using fun e => h2 (cmpI_0.1 e)
      rw [h1, cond_true, cmpI_lt]
      omega
  · have h1 : (cmpI x.b y.b != 0) = true := by simpa using fun e => h (cmpI_0.1 e)
    rw [h1, cond_true, cmpI_lt]
    omega
theorem ltQ_iff {e d : PV} : ltQ e d = true ↔ (bidOf e).b < (bidOf d).b ∨ (bidOf e).b = (bidOf d).b ∧ (bidOf e).n < (bidOf d).n := by unfold ltQ; rw [decide_eq_true_eq, cmpB_lt]
theorem ltQ_no {e d : PV} : ltQ e d = false ↔ ¬ ((bidOf e).b < (bidOf d).b ∨ (bidOf e).b = (bidOf d).b ∧ (bidOf e).n < (bidOf d).n) := by rw [← ltQ_iff, Bool.not_eq_true]
theorem ltQ_weak : Weak ltQ where
  t a b c h1 h2 := by rw [ltQ_no] at *; omega
  a a b h1 := by rw [ltQ_iff] at h1; rw [ltQ_no]; omega
end Go.AM
namespace Go.AM
open Go Go.Proofs Go.IntWalk
set_option maxRecDepth 100000
set_option maxHeartbeats 4000000
set_option linter.unusedSimpArgs false
set_option linter.unusedVariables false
theorem getD_set_ne' {l : List PV} {i j : Nat} {v : PV} (h : i ≠ j) : (l.set i v).getD j default = l.getD j default := by
  simp [List.getD_eq_getElem?_getD, List.getElem?_set, h]
theorem swS_lt {a b n N : Nat} (h1 : a + n ≤ b) (h2 : b + n ≤ N) {k : Nat} (h : k < N) : swS a b n k < N := by unfold swS; (repeat' split) <;> omega
def swP : List PV → List PV → Prop × List PV
  | es, [.int .i64 a, .int .i64 b, .int .i64 n, .fn f []] => ((0 ≤ a ∧ 0 ≤ n ∧ a + n ≤ b ∧ b + n ≤ es.length) ∧ f = 37 ∧ es.length ≤ 1000000 ∧ (∀ e, e ∈ es → isBid e), app es (swS a.toNat b.toNat n.toNat))
  | es, _ => (False, es)
theorem swP_eq {es : List PV} {a b n : Int} {f : FuncId} : swP es [.int .i64 a, .int .i64 b, .int .i64 n, .fn f []] = ((0 ≤ a ∧ 0 ≤ n ∧ a + n ≤ b ∧ b + n ≤ es.length) ∧ f = 37 ∧ es.length ≤ 1000000 ∧ (∀ e, e ∈ es → isBid e), app es (swS a.toNat b.toNat n.toNat)) := rfl
theorem swP_inv {es args : List PV} (h : (swP es args).1) : ∃ a b n : Nat, args = [.int .i64 a, .int .i64 b, .int .i64 n, .fn 37 []] ∧ (a + n ≤ b ∧ b + n ≤ es.length) ∧ es.length ≤ 1000000 ∧ (∀ e, e ∈ es → isBid e) := by
  unfold swP at h
  split at h
  · obtain ⟨⟨h1, h2, h3, h4⟩, rfl, h5, h6⟩ := h
    rename_i a b n
    obtain ⟨a, rfl⟩ := Int.eq_ofNat_of_zero_le h1
    obtain ⟨n, rfl⟩ := Int.eq_ofNat_of_zero_le h2
    obtain ⟨b, rfl⟩ := Int.eq_ofNat_of_zero_le (show 0 ≤ b by omega)
    exact ⟨a, b, n, rfl, by omega, h5, h6⟩
  · exact h.elim
theorem w_swS : ESound GG 92 (psiPut 5 swP) := by
  refine ESound.of_put (C := cxQ Tryz.prog B5 noΘ noΨ [] [9001] 38) (T := plan0) Tryz.func92 rfl rfl rfl rfl rfl (Fit.all (G := GG) hB5 hnoΘ hnoΨ mixed) (fun es args h hw => ?_)
  obtain ⟨a, b, n, rfl, ⟨hab, hbn⟩, hl, hop⟩ := swP_inv h
  refine ⟨by simp [cxQ], ?_⟩
  simp only [swP_eq, Tryz.f92, argL, Tryz.underlying3, sz3, by3, ze3, Tryz.underlying4, sz4, by4, ze4, Tryz.underlying23, sz23, by23, ze23, Tryz.underlying29, sz29, by29, ze29, fa29_0, fa29_1, fa29_2, fa29_3, fa29_4, Tryz.underlying66, sz66, by66, ze66, plan0, go_sem, ↓reduceIte, reduceCtorEq, Nat.reduceEqDiff, Nat.reduceLT, ↓all_qV, Int.reduceToNat, Int.reduceLT, Int.reduceLE, Nat.reduceAdd, Nat.reduceLeDiff, Nat.reduceMul, ev_callG, gcallK_b, gcallK_w, callGc_true, callGc_false]
  have hid : app es (swS a b 0) = es := by
    have : app es (swS a b 0) = app es (fun j => j) := app_congr (fun j hj => by unfold swS; (repeat' split) <;> omega)
    rw [this, app_id]
  refine AWp.loop (T := plan0) (α := Nat) (fun i => ([(0, .rs 9001 es.length), (1, .pv (.int .i64 a)), (2, .pv (.int .i64 b)), (3, .pv (.int .i64 n)), (4, .pv (.fn 37 [])), (10, .pv (.int .i64 i))], [(9001, .row 5 (app es (swS a b i)))]))
    (fun i => i ≤ n) (fun i => n - i)
    ⟨0, Nat.zero_le _, ⟨by simp [fitR, look], by simp [fitH, hget, hid], rfl, rfl, rfl⟩⟩ ?_
  intro i hi
  have hi1 : IntKind.i64.wrap ((i : Int) + 1) = ((i + 1 : Nat) : Int) := by rw [i64_in _ (by omega)]; omega
  have ha1 : IntKind.i64.wrap ((a : Int) + i) = ((a + i : Nat) : Int) := by rw [i64_in _ (by omega)]; omega
  have hb1 : IntKind.i64.wrap ((b : Int) + i) = ((b + i : Nat) : Int) := by rw [i64_in _ (by omega)]; omega
  by_cases hlt : i < n
  · have c0 : decide ((i : Int) < (n : Int)) = true := by simp; omega
    have hRl : (app es (swS a b i)).length = es.length := app_length
    have hRm : ∀ e, e ∈ app es (swS a b i) → isBid e := fun e he => hop e (app_mem (fun j hj => swS_lt (by omega) (by omega) hj) he)
    have hst := sw_step (es := es) (a := a) (b := b) (i := i) (by omega) (by omega)
    generalize app es (swS a b i) = R at hRl hRm hst ⊢
    have x1 := hRm _ (getD_mem' (j := a + i) (by omega))
    have x2 := hRm _ (getD_mem' (j := b + i) (by omega))
    obtain ⟨e, he⟩ : ∃ e, R.getD (a + i) default = e := ⟨_, rfl⟩
    obtain ⟨d, hd⟩ : ∃ d, R.getD (b + i) default = d := ⟨_, rfl⟩
    have e4 : ∀ v, (R.set (a + i) v).getD (b + i) default = R.getD (b + i) default := fun v => getD_set_ne' (by omega)
    rw [he] at x1 hst
    rw [hd] at x2 hst e4
    obtain ⟨⟨u1, u2, u3, u4, u5⟩, rfl⟩ := x1
    obtain ⟨⟨v1, v2, v3, v4, v5⟩, rfl⟩ := x2
    simp only [bidV] at he hd hst e4
    simp (config := {maxSteps := 1000000}) only [c0, hi1, ha1, hb1, he, hd, e4, Int.toNat_natCast, boxP, putP, PV.nth, List.take_succ_cons, List.take_nil, Tryz.underlying3, sz3, by3, ze3, Tryz.underlying4, sz4, by4, ze4, Tryz.underlying23, sz23, by23, ze23, Tryz.underlying29, sz29, by29, ze29, fa29_0, fa29_1, fa29_2, fa29_3, fa29_4, Tryz.underlying66, sz66, by66, ze66, plan0, go_sem, ↓reduceIte, reduceCtorEq, Nat.reduceEqDiff, Nat.reduceLT, ↓all_qV, Int.reduceToNat, Int.reduceLT, Int.reduceLE, Nat.reduceAdd, Nat.reduceLeDiff, Nat.reduceMul, ev_callG, gcallK_b, gcallK_w, callGc_true, callGc_false]
    and_intros
    all_goals try first | (show checkD _ _ _ = true; kernel_rfl) | omega | (rw [List.length_set]; omega)
    exact ⟨i + 1, by omega, by omega, ⟨by simp [fitR, look], by simp [fitH, hget, hst], rfl, rfl, rfl⟩⟩
  · have c0 : decide ((i : Int) < (n : Int)) = false := by simp; omega
    have : i = n := by omega
    subst this
    simp only [c0, FinPut_n, FinPut_r, Int.toNat_natCast, Tryz.underlying3, sz3, by3, ze3, Tryz.underlying4, sz4, by4, ze4, Tryz.underlying23, sz23, by23, ze23, Tryz.underlying29, sz29, by29, ze29, fa29_0, fa29_1, fa29_2, fa29_3, fa29_4, Tryz.underlying66, sz66, by66, ze66, plan0, go_sem, ↓reduceIte, reduceCtorEq, Nat.reduceEqDiff, Nat.reduceLT, ↓all_qV, Int.reduceToNat, Int.reduceLT, Int.reduceLE, Nat.reduceAdd, Nat.reduceLeDiff, Nat.reduceMul, ev_callG, gcallK_b, gcallK_w, callGc_true, callGc_false]
noncomputable def ΨS1 (g : FuncId) : Option ESpec := putΨ noΨ 92 (psiPut 5 swP) g
theorem hΨS1 : ETab GG ΨS1 := hnoΨ.put w_swS psiPut_mono
/-! ### rotate -/
theorem roS_lt {a m b N : Nat} (h1 : a ≤ m) (h2 : m ≤ b) (h3 : b ≤ N) {k : Nat} (h : k < N) : roS a m b k < N := by unfold roS; (repeat' split) <;> omega
def roP : List PV → List PV → Prop × List PV
  | es, [.int .i64 a, .int .i64 m, .int .i64 b, .fn f []] => ((0 ≤ a ∧ a < m ∧ m < b ∧ b ≤ es.length) ∧ f = 37 ∧ es.length ≤ 1000000 ∧ (∀ e, e ∈ es → isBid e), app es (roS a.toNat m.toNat b.toNat))
  | es, _ => (False, es)
theorem roP_eq {es : List PV} {a m b : Int} {f : FuncId} : roP es [.int .i64 a, .int .i64 m, .int .i64 b, .fn f []] = ((0 ≤ a ∧ a < m ∧ m < b ∧ b ≤ es.length) ∧ f = 37 ∧ es.length ≤ 1000000 ∧ (∀ e, e ∈ es → isBid e), app es (roS a.toNat m.toNat b.toNat)) := rfl
theorem roP_inv {es args : List PV} (h : (roP es args).1) : ∃ a m b : Nat, args = [.int .i64 a, .int .i64 m, .int .i64 b, .fn 37 []] ∧ (a < m ∧ m < b ∧ b ≤ es.length) ∧ es.length ≤ 1000000 ∧ (∀ e, e ∈ es → isBid e) := by
  unfold roP at h
  split at h
  · obtain ⟨⟨h1, h2, h3, h4⟩, rfl, h5, h6⟩ := h
    rename_i a m b
    obtain ⟨a, rfl⟩ := Int.eq_ofNat_of_zero_le h1
    obtain ⟨m, rfl⟩ := Int.eq_ofNat_of_zero_le (show 0 ≤ m by omega)
    obtain ⟨b, rfl⟩ := Int.eq_ofNat_of_zero_le (show 0 ≤ b by omega)
    exact ⟨a, m, b, rfl, by omega, h5, h6⟩
  · exact h.elim
theorem w_roS : ESound GG 76 (psiPut 5 roP) := by
  refine ESound.of_put (C := cxQ Tryz.prog B5 noΘ ΨS1 [] [9001] 58) (T := plan0) Tryz.func76 rfl rfl rfl rfl rfl (Fit.all (G := GG) hB5 hnoΘ hΨS1 mixed) (fun es args h hw => ?_)
  obtain ⟨a, m, b, rfl, ⟨ham, hmb, hbl⟩, hl, hop⟩ := roP_inv h
  refine ⟨by simp [cxQ], ?_⟩
  have w1 : IntKind.i64.wrap ((m : Int) - a) = ((m - a : Nat) : Int) := by rw [i64_in _ (by omega)]; omega
  have w2 : IntKind.i64.wrap ((b : Int) - m) = ((b - m : Nat) : Int) := by rw [i64_in _ (by omega)]; omega
  simp only [roP_eq, w1, w2, Tryz.f76, argL, Tryz.underlying3, sz3, by3, ze3, Tryz.underlying4, sz4, by4, ze4, Tryz.underlying23, sz23, by23, ze23, Tryz.underlying29, sz29, by29, ze29, fa29_0, fa29_1, fa29_2, fa29_3, fa29_4, Tryz.underlying66, sz66, by66, ze66, plan0, go_sem, ↓reduceIte, reduceCtorEq, Nat.reduceEqDiff, Nat.reduceLT, ↓all_qV, Int.reduceToNat, Int.reduceLT, Int.reduceLE, Nat.reduceAdd, Nat.reduceLeDiff, Nat.reduceMul, ev_callG, gcallK_b, gcallK_w, callGc_true, callGc_false]
  refine AWp.loop (T := plan0) (α := List PV × Nat × Nat) (fun z => ([(0, .rs 9001 es.length), (1, .pv (.int .i64 a)), (2, .pv (.int .i64 m)), (3, .pv (.int .i64 b)), (4, .pv (.fn 37 [])), (10, .pv (.int .i64 z.2.1)), (11, .pv (.int .i64 z.2.2))], [(9001, .row 5 z.1)]))
    (fun z => (0 < z.2.1 ∧ 0 < z.2.2) ∧ z.2.1 ≤ m ∧ m + z.2.2 ≤ es.length ∧ z.1.length = es.length ∧ (∀ e, e ∈ z.1 → isBid e) ∧ app z.1 (roS (m - z.2.1) m (m + z.2.2)) = app es (roS a m b)) (fun z => z.2.1 + z.2.2)
    ⟨(es, m - a, b - m), ⟨by simp only; omega, by simp only; omega, by simp only; omega, rfl, hop, ?_⟩, ⟨by simp [fitR, look], by simp [fitH, hget], rfl, rfl, rfl⟩⟩ ?_
  · simp only
    rw [show m - (m - a) = a by omega, show m + (b - m) = b by omega]
  rintro ⟨R, i, j⟩ ⟨⟨g1, g2⟩, g3, g4, g5, g6, g7⟩
  simp only at g1 g2 g3 g4 g5 g6 g7
  have w3 : IntKind.i64.wrap ((m : Int) - i) = ((m - i : Nat) : Int) := by rw [i64_in _ (by omega)]; omega
  by_cases hij : i = j
  · subst hij
    have c0 : ((i : Int) != (i : Int)) = false := by simp
    have hfin := ro_eq (es := R) (m := m) (i := i) g3 (by omega)
    simp only [c0, w3, ΨS1, psiPut_eq, swP_eq, Int.toNat_natCast, FinPut_n, FinPut_r, Tryz.underlying3, sz3, by3, ze3, Tryz.underlying4, sz4, by4, ze4, Tryz.underlying23, sz23, by23, ze23, Tryz.underlying29, sz29, by29, ze29, fa29_0, fa29_1, fa29_2, fa29_3, fa29_4, Tryz.underlying66, sz66, by66, ze66, plan0, go_sem, ↓reduceIte, reduceCtorEq, Nat.reduceEqDiff, Nat.reduceLT, ↓all_qV, Int.reduceToNat, Int.reduceLT, Int.reduceLE, Nat.reduceAdd, Nat.reduceLeDiff, Nat.reduceMul, ev_callG, gcallK_b, gcallK_w, callGc_true, callGc_false]
    exact ⟨by omega, ⟨⟨by omega, by omega, by omega, by omega⟩, by omega, g6⟩, app_length, congrArg _ (hfin.trans g7)⟩
  · have c0 : ((i : Int) != (j : Int)) = true := by simp; omega
    by_cases hgt : j < i
    · have c1 : decide ((j : Int) < (i : Int)) = true := by simp; omega
      have w4 : IntKind.i64.wrap ((i : Int) - j) = ((i - j : Nat) : Int) := by rw [i64_in _ (by omega)]; omega
      have hst := ro_gt (es := R) (m := m) (i := i) (j := j) hgt g3 (by omega)
      simp only [c0, c1, w3, w4, ΨS1, psiPut_eq, swP_eq, Int.toNat_natCast, Tryz.underlying3, sz3, by3, ze3, Tryz.underlying4, sz4, by4, ze4, Tryz.underlying23, sz23, by23, ze23, Tryz.underlying29, sz29, by29, ze29, fa29_0, fa29_1, fa29_2, fa29_3, fa29_4, Tryz.underlying66, sz66, by66, ze66, plan0, go_sem, ↓reduceIte, reduceCtorEq, Nat.reduceEqDiff, Nat.reduceLT, ↓all_qV, Int.reduceToNat, Int.reduceLT, Int.reduceLE, Nat.reduceAdd, Nat.reduceLeDiff, Nat.reduceMul, ev_callG, gcallK_b, gcallK_w, callGc_true, callGc_false]
      exact ⟨by omega, ⟨⟨by omega, by omega, by omega, by omega⟩, by omega, g6⟩, app_length, (app R (swS (m - i) m j), i - j, j),
        ⟨⟨by simp only; omega, g2⟩, by simp only; omega, g4, by simp only; rw [app_length, g5], fun e he => g6 e (app_mem (fun k hk => swS_lt (by omega) (by omega) hk) he), hst.trans g7⟩, by simp only; omega,
        ⟨by simp [fitR, look, app_length, g5], by simp [fitH, hget], rfl, rfl, rfl⟩⟩
    · have c1 : decide ((j : Int) < (i : Int)) = false := by simp; omega
      have w4 : IntKind.i64.wrap ((j : Int) - i) = ((j - i : Nat) : Int) := by rw [i64_in _ (by omega)]; omega
      have w5 : IntKind.i64.wrap ((m : Int) + j) = ((m + j : Nat) : Int) := by rw [i64_in _ (by omega)]; omega
      have w6 : IntKind.i64.wrap (((m + j : Nat) : Int) - i) = ((m + (j - i) : Nat) : Int) := by rw [i64_in _ (by omega)]; omega
      have hst := ro_lt (es := R) (m := m) (i := i) (j := j) (by omega) g3 (by omega)
      simp only [c0, c1, w3, w4, w5, w6, ΨS1, psiPut_eq, swP_eq, Int.toNat_natCast, Tryz.underlying3, sz3, by3, ze3, Tryz.underlying4, sz4, by4, ze4, Tryz.underlying23, sz23, by23, ze23, Tryz.underlying29, sz29, by29, ze29, fa29_0, fa29_1, fa29_2, fa29_3, fa29_4, Tryz.underlying66, sz66, by66, ze66, plan0, go_sem, ↓reduceIte, reduceCtorEq, Nat.reduceEqDiff, Nat.reduceLT, ↓all_qV, Int.reduceToNat, Int.reduceLT, Int.reduceLE, Nat.reduceAdd, Nat.reduceLeDiff, Nat.reduceMul, ev_callG, gcallK_b, gcallK_w, callGc_true, callGc_false]
      exact ⟨by omega, ⟨⟨by omega, by omega, by omega, by omega⟩, by omega, g6⟩, app_length, (app R (swS (m - i) (m + (j - i)) i), i, j - i),
        ⟨⟨g1, by simp only; omega⟩, g3, by simp only; omega, by simp only; rw [app_length, g5], fun e he => g6 e (app_mem (fun k hk => swS_lt (by omega) (by omega) hk) he), hst.trans g7⟩, by simp only; omega,
        ⟨by simp [fitR, look, app_length, g5], by simp [fitH, hget], rfl, rfl, rfl⟩⟩
noncomputable def ΨS2 (g : FuncId) : Option ESpec := putΨ ΨS1 76 (psiPut 5 roP) g
theorem hΨS2 : ETab GG ΨS2 := hΨS1.put w_roS psiPut_mono
end Go.AM
