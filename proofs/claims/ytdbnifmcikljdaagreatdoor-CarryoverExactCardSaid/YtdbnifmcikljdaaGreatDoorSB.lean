/-
  A part of a proof: see the last text of this claim for what is proved.
-/
import Derived.Test.YtdbnifmcikljdaaGreatDoorSA
import Derived.Test.YtdbnifmcikljdaaGreatDoorZMa
import Derived.Test.YtdbnifmcikljdaaGreatDoorNE
namespace Go.AM
open Go Go.Proofs Go.IntWalk
set_option maxRecDepth 100000
set_option maxHeartbeats 4000000
set_option linter.unusedSimpArgs false
set_option linter.unusedVariables false
theorem getD_set_ne' {l : List PV} {i j : Nat} {v : PV} (h : i ≠ j) : (l.set i v).getD j default = l.getD j default := by
  simp [List.getD_eq_getElem?_getD, List.getElem?_set, h]
theorem swS_lt {a b n N : Nat} (h1 : a + n ≤ b) (h2 : b + n ≤ N) {k : Nat} (h : k < N) : swS a b n k < N := by unfold swS; (repeat' split) <;> omega
def swP : List PV → List PV → Prop × List PV
  | es, [.int .i64 a, .int .i64 b, .int .i64 n, .fn f []] => ((0 ≤ a ∧ 0 ≤ n ∧ a + n ≤ b ∧ b + n ≤ es.length) ∧ f = 44 ∧ es.length ≤ 1000000 ∧ (∀ e, e ∈ es → isE e), app es (swS a.toNat b.toNat n.toNat))
  | es, _ => (False, es)
theorem swP_eq {es : List PV} {a b n : Int} {f : FuncId} : swP es [.int .i64 a, .int .i64 b, .int .i64 n, .fn f []] = ((0 ≤ a ∧ 0 ≤ n ∧ a + n ≤ b ∧ b + n ≤ es.length) ∧ f = 44 ∧ es.length ≤ 1000000 ∧ (∀ e, e ∈ es → isE e), app es (swS a.toNat b.toNat n.toNat)) := rfl
theorem swP_inv {es args : List PV} (h : (swP es args).1) : ∃ a b n : Nat, args = [.int .i64 a, .int .i64 b, .int .i64 n, .fn 44 []] ∧ (a + n ≤ b ∧ b + n ≤ es.length) ∧ es.length ≤ 1000000 ∧ (∀ e, e ∈ es → isE e) := by
  unfold swP at h
  split at h
  · obtain ⟨⟨h1, h2, h3, h4⟩, rfl, h5, h6⟩ := h
    rename_i a b n
    obtain ⟨a, rfl⟩ := Int.eq_ofNat_of_zero_le h1
    obtain ⟨n, rfl⟩ := Int.eq_ofNat_of_zero_le h2
    obtain ⟨b, rfl⟩ := Int.eq_ofNat_of_zero_le (show 0 ≤ b by omega)
    exact ⟨a, b, n, rfl, by omega, h5, h6⟩
  · exact h.elim
theorem w_swS : ESound GG 97 (psiPut 5 swP) := by
  refine ESound.of_put (C := cxQ Tryz.prog UU noΘ noΨ [] [9001] 38) (T := plan0) Tryz.func97 rfl rfl rfl rfl rfl (Fit.all (G := GG) hUU hnoΘ hnoΨ mixed) (fun es args h hw => ?_)
  obtain ⟨a, b, n, rfl, ⟨hab, hbn⟩, hl, hop⟩ := swP_inv h
  refine ⟨by simp [cxQ], ?_⟩
  simp only [swP_eq, Tryz.f97, argL, Tryz.underlying3, sz3, by3, ze3, Tryz.underlying4, sz4, by4, ze4, Tryz.underlying9, sz9, by9, ze9, Tryz.underlying23, sz23, by23, ze23, Tryz.underlying37, sz37, by37, ze37, fa37_0, fa37_1, fa37_2, fa37_3, fa37_4, Tryz.underlying66, sz66, by66, ze66, plan0, go_sem, ↓reduceIte, reduceCtorEq, Nat.reduceEqDiff, Nat.reduceLT, ↓all_qV, Int.reduceToNat, Int.reduceLT, Int.reduceLE, Nat.reduceAdd, Nat.reduceLeDiff, Nat.reduceMul, ev_callG, gcallK_b, gcallK_w, callGc_true, callGc_false]
  have hid : app es (swS a b 0) = es := by
    have : app es (swS a b 0) = app es (fun j => j) := app_congr (fun j hj => by unfold swS; (repeat' split) <;> omega)
    rw [this, app_id]
  refine AWp.loop (T := plan0) (α := Nat) (fun i => ([(0, .rs 9001 es.length), (1, .pv (.int .i64 a)), (2, .pv (.int .i64 b)), (3, .pv (.int .i64 n)), (4, .pv (.fn 44 [])), (10, .pv (.int .i64 i))], [(9001, .row 5 (app es (swS a b i)))]))
    (fun i => i ≤ n) (fun i => n - i)
    ⟨0, Nat.zero_le _, ⟨by simp [fitR, look], by simp [fitH, hget, hid], rfl, rfl, rfl⟩⟩ ?_
  intro i hi
  have hi1 : IntKind.i64.wrap ((i : Int) + 1) = ((i + 1 : Nat) : Int) := by rw [i64_in _ (by omega)]; omega
  have ha1 : IntKind.i64.wrap ((a : Int) + i) = ((a + i : Nat) : Int) := by rw [i64_in _ (by omega)]; omega
  have hb1 : IntKind.i64.wrap ((b : Int) + i) = ((b + i : Nat) : Int) := by rw [i64_in _ (by omega)]; omega
  by_cases hlt : i < n
  · have c0 : decide ((i : Int) < (n : Int)) = true := by simp; omega
    have hRl : (app es (swS a b i)).length = es.length := app_length
    have hRm : ∀ e, e ∈ app es (swS a b i) → isE e := fun e he => hop e (app_mem (fun j hj => swS_lt (by omega) (by omega) hj) he)
    have hst := sw_step (es := es) (a := a) (b := b) (i := i) (by omega) (by omega)
    generalize app es (swS a b i) = R at hRl hRm hst ⊢
    have x1 := hRm _ (getD_mem' (j := a + i) (by omega))
    have x2 := hRm _ (getD_mem' (j := b + i) (by omega))
    obtain ⟨e, he⟩ : ∃ e, R.getD (a + i) default = e := ⟨_, rfl⟩
    obtain ⟨d, hd⟩ : ∃ d, R.getD (b + i) default = d := ⟨_, rfl⟩
    have e4 : ∀ v, (R.set (a + i) v).getD (b + i) default = R.getD (b + i) default := fun v => getD_set_ne' (by omega)
    rw [he] at x1 hst
    rw [hd] at x2 hst e4
    obtain ⟨⟨u1, u2, u3, u4, u5⟩, rfl, hu1, hu2⟩ := x1
    obtain ⟨⟨v1, v2, v3, v4, v5⟩, rfl, hv1, hv2⟩ := x2
    simp only [opV] at he hd hst e4
    simp (config := {maxSteps := 1000000}) only [c0, hi1, ha1, hb1, he, hd, e4, Int.toNat_natCast, boxP, putP, PV.nth, List.take_succ_cons, List.take_nil, Tryz.underlying3, sz3, by3, ze3, Tryz.underlying4, sz4, by4, ze4, Tryz.underlying9, sz9, by9, ze9, Tryz.underlying23, sz23, by23, ze23, Tryz.underlying37, sz37, by37, ze37, fa37_0, fa37_1, fa37_2, fa37_3, fa37_4, Tryz.underlying66, sz66, by66, ze66, plan0, go_sem, ↓reduceIte, reduceCtorEq, Nat.reduceEqDiff, Nat.reduceLT, ↓all_qV, Int.reduceToNat, Int.reduceLT, Int.reduceLE, Nat.reduceAdd, Nat.reduceLeDiff, Nat.reduceMul, ev_callG, gcallK_b, gcallK_w, callGc_true, callGc_false]
    and_intros
    all_goals try first | (show checkD _ _ _ = true; kernel_rfl) | omega | (rw [List.length_set]; omega)
    exact ⟨i + 1, by omega, by omega, ⟨by simp [fitR, look], by simp [fitH, hget, hst], rfl, rfl, rfl⟩⟩
  · have c0 : decide ((i : Int) < (n : Int)) = false := by simp; omega
    have : i = n := by omega
    subst this
    simp only [c0, FinPut_n, FinPut_r, Int.toNat_natCast, Tryz.underlying3, sz3, by3, ze3, Tryz.underlying4, sz4, by4, ze4, Tryz.underlying9, sz9, by9, ze9, Tryz.underlying23, sz23, by23, ze23, Tryz.underlying37, sz37, by37, ze37, fa37_0, fa37_1, fa37_2, fa37_3, fa37_4, Tryz.underlying66, sz66, by66, ze66, plan0, go_sem, ↓reduceIte, reduceCtorEq, Nat.reduceEqDiff, Nat.reduceLT, ↓all_qV, Int.reduceToNat, Int.reduceLT, Int.reduceLE, Nat.reduceAdd, Nat.reduceLeDiff, Nat.reduceMul, ev_callG, gcallK_b, gcallK_w, callGc_true, callGc_false]
noncomputable def ΨS1 (g : FuncId) : Option ESpec := putΨ noΨ 97 (psiPut 5 swP) g
theorem hΨS1 : ETab GG ΨS1 := hnoΨ.put w_swS psiPut_mono
theorem roS_lt {a m b N : Nat} (h1 : a ≤ m) (h2 : m ≤ b) (h3 : b ≤ N) {k : Nat} (h : k < N) : roS a m b k < N := by unfold roS; (repeat' split) <;> omega
def roP : List PV → List PV → Prop × List PV
  | es, [.int .i64 a, .int .i64 m, .int .i64 b, .fn f []] => ((0 ≤ a ∧ a < m ∧ m < b ∧ b ≤ es.length) ∧ f = 44 ∧ es.length ≤ 1000000 ∧ (∀ e, e ∈ es → isE e), app es (roS a.toNat m.toNat b.toNat))
  | es, _ => (False, es)
theorem roP_eq {es : List PV} {a m b : Int} {f : FuncId} : roP es [.int .i64 a, .int .i64 m, .int .i64 b, .fn f []] = ((0 ≤ a ∧ a < m ∧ m < b ∧ b ≤ es.length) ∧ f = 44 ∧ es.length ≤ 1000000 ∧ (∀ e, e ∈ es → isE e), app es (roS a.toNat m.toNat b.toNat)) := rfl
theorem roP_inv {es args : List PV} (h : (roP es args).1) : ∃ a m b : Nat, args = [.int .i64 a, .int .i64 m, .int .i64 b, .fn 44 []] ∧ (a < m ∧ m < b ∧ b ≤ es.length) ∧ es.length ≤ 1000000 ∧ (∀ e, e ∈ es → isE e) := by
  unfold roP at h
  split at h
  · obtain ⟨⟨h1, h2, h3, h4⟩, rfl, h5, h6⟩ := h
    rename_i a m b
    obtain ⟨a, rfl⟩ := Int.eq_ofNat_of_zero_le h1
    obtain ⟨m, rfl⟩ := Int.eq_ofNat_of_zero_le (show 0 ≤ m by omega)
    obtain ⟨b, rfl⟩ := Int.eq_ofNat_of_zero_le (show 0 ≤ b by omega)
    exact ⟨a, m, b, rfl, by omega, h5, h6⟩
  · exact h.elim
theorem w_roS : ESound GG 86 (psiPut 5 roP) := by
  refine ESound.of_put (C := cxQ Tryz.prog UU noΘ ΨS1 [] [9001] 58) (T := plan0) Tryz.func86 rfl rfl rfl rfl rfl (Fit.all (G := GG) hUU hnoΘ hΨS1 mixed) (fun es args h hw => ?_)
  obtain ⟨a, m, b, rfl, ⟨ham, hmb, hbl⟩, hl, hop⟩ := roP_inv h
  refine ⟨by simp [cxQ], ?_⟩
  have w1 : IntKind.i64.wrap ((m : Int) - a) = ((m - a : Nat) : Int) := by rw [i64_in _ (by omega)]; omega
  have w2 : IntKind.i64.wrap ((b : Int) - m) = ((b - m : Nat) : Int) := by rw [i64_in _ (by omega)]; omega
  simp only [roP_eq, w1, w2, Tryz.f86, argL, Tryz.underlying3, sz3, by3, ze3, Tryz.underlying4, sz4, by4, ze4, Tryz.underlying9, sz9, by9, ze9, Tryz.underlying23, sz23, by23, ze23, Tryz.underlying37, sz37, by37, ze37, fa37_0, fa37_1, fa37_2, fa37_3, fa37_4, Tryz.underlying66, sz66, by66, ze66, plan0, go_sem, ↓reduceIte, reduceCtorEq, Nat.reduceEqDiff, Nat.reduceLT, ↓all_qV, Int.reduceToNat, Int.reduceLT, Int.reduceLE, Nat.reduceAdd, Nat.reduceLeDiff, Nat.reduceMul, ev_callG, gcallK_b, gcallK_w, callGc_true, callGc_false]
  refine AWp.loop (T := plan0) (α := List PV × Nat × Nat) (fun z => ([(0, .rs 9001 es.length), (1, .pv (.int .i64 a)), (2, .pv (.int .i64 m)), (3, .pv (.int .i64 b)), (4, .pv (.fn 44 [])), (10, .pv (.int .i64 z.2.1)), (11, .pv (.int .i64 z.2.2))], [(9001, .row 5 z.1)]))
    (fun z => (0 < z.2.1 ∧ 0 < z.2.2) ∧ z.2.1 ≤ m ∧ m + z.2.2 ≤ es.length ∧ z.1.length = es.length ∧ (∀ e, e ∈ z.1 → isE e) ∧ app z.1 (roS (m - z.2.1) m (m + z.2.2)) = app es (roS a m b)) (fun z => z.2.1 + z.2.2)
    ⟨(es, m - a, b - m), ⟨by simp only; omega, by simp only; omega, by simp only; omega, rfl, hop, ?_⟩, ⟨by simp [fitR, look], by simp [fitH, hget], rfl, rfl, rfl⟩⟩ ?_
  · simp only
    rw [show m - (m - a) = a by omega, show m + (b - m) = b by omega]
  rintro ⟨R, i, j⟩ ⟨⟨g1, g2⟩, g3, g4, g5, g6, g7⟩
  simp only at g1 g2 g3 g4 g5 g6 g7
  have w3 : IntKind.i64.wrap ((m : Int) - i) = ((m - i : Nat) : Int) := by rw [i64_in _ (by omega)]; omega
  by_cases hij : i = j
  · subst hij
    have c0 : ((i : Int) != (i : Int)) = false := by simp
    have hfin := ro_eq (es := R) (m := m) (i := i) g3 (by omega)
    simp only [c0, w3, ΨS1, psiPut_eq, swP_eq, Int.toNat_natCast, FinPut_n, FinPut_r, Tryz.underlying3, sz3, by3, ze3, Tryz.underlying4, sz4, by4, ze4, Tryz.underlying9, sz9, by9, ze9, Tryz.underlying23, sz23, by23, ze23, Tryz.underlying37, sz37, by37, ze37, fa37_0, fa37_1, fa37_2, fa37_3, fa37_4, Tryz.underlying66, sz66, by66, ze66, plan0, go_sem, ↓reduceIte, reduceCtorEq, Nat.reduceEqDiff, Nat.reduceLT, ↓all_qV, Int.reduceToNat, Int.reduceLT, Int.reduceLE, Nat.reduceAdd, Nat.reduceLeDiff, Nat.reduceMul, ev_callG, gcallK_b, gcallK_w, callGc_true, callGc_false]
    exact ⟨by omega, ⟨⟨by omega, by omega, by omega, by omega⟩, by omega, g6⟩, app_length, congrArg _ (hfin.trans g7)⟩
  · have c0 : ((i : Int) != (j : Int)) = true := by simp; omega
    by_cases hgt : j < i
    · have c1 : decide ((j : Int) < (i : Int)) = true := by simp; omega
      have w4 : IntKind.i64.wrap ((i : Int) - j) = ((i - j : Nat) : Int) := by rw [i64_in _ (by omega)]; omega
      have hst := ro_gt (es := R) (m := m) (i := i) (j := j) hgt g3 (by omega)
      simp only [c0, c1, w3, w4, ΨS1, psiPut_eq, swP_eq, Int.toNat_natCast, Tryz.underlying3, sz3, by3, ze3, Tryz.underlying4, sz4, by4, ze4, Tryz.underlying9, sz9, by9, ze9, Tryz.underlying23, sz23, by23, ze23, Tryz.underlying37, sz37, by37, ze37, fa37_0, fa37_1, fa37_2, fa37_3, fa37_4, Tryz.underlying66, sz66, by66, ze66, plan0, go_sem, ↓reduceIte, reduceCtorEq, Nat.reduceEqDiff, Nat.reduceLT, ↓all_qV, Int.reduceToNat, Int.reduceLT, Int.reduceLE, Nat.reduceAdd, Nat.reduceLeDiff, Nat.reduceMul, ev_callG, gcallK_b, gcallK_w, callGc_true, callGc_false]
      exact ⟨by omega, ⟨⟨by omega, by omega, by omega, by omega⟩, by omega, g6⟩, app_length, (app R (swS (m - i) m j), i - j, j),
        ⟨⟨by simp only; omega, g2⟩, by simp only; omega, g4, by simp only; rw [app_length, g5], fun e he => g6 e (app_mem (fun k hk => swS_lt (by omega) (by omega) hk) he), hst.trans g7⟩, by simp only; omega,
        ⟨by simp [fitR, look, app_length, g5], by simp [fitH, hget], rfl, rfl, rfl⟩⟩
    · have c1 : decide ((j : Int) < (i : Int)) = false := by simp; omega
      have w4 : IntKind.i64.wrap ((j : Int) - i) = ((j - i : Nat) : Int) := by rw [i64_in _ (by omega)]; omega
      have w5 : IntKind.i64.wrap ((m : Int) + j) = ((m + j : Nat) : Int) := by rw [i64_in _ (by omega)]; omega
      have w6 : IntKind.i64.wrap (((m + j : Nat) : Int) - i) = ((m + (j - i) : Nat) : Int) := by rw [i64_in _ (by omega)]; omega
      have hst := ro_lt (es := R) (m := m) (i := i) (j := j) (by omega) g3 (by omega)
      simp only [c0, c1, w3, w4, w5, w6, ΨS1, psiPut_eq, swP_eq, Int.toNat_natCast, Tryz.underlying3, sz3, by3, ze3, Tryz.underlying4, sz4, by4, ze4, Tryz.underlying9, sz9, by9, ze9, Tryz.underlying23, sz23, by23, ze23, Tryz.underlying37, sz37, by37, ze37, fa37_0, fa37_1, fa37_2, fa37_3, fa37_4, Tryz.underlying66, sz66, by66, ze66, plan0, go_sem, ↓reduceIte, reduceCtorEq, Nat.reduceEqDiff, Nat.reduceLT, ↓all_qV, Int.reduceToNat, Int.reduceLT, Int.reduceLE, Nat.reduceAdd, Nat.reduceLeDiff, Nat.reduceMul, ev_callG, gcallK_b, gcallK_w, callGc_true, callGc_false]
      exact ⟨by omega, ⟨⟨by omega, by omega, by omega, by omega⟩, by omega, g6⟩, app_length, (app R (swS (m - i) (m + (j - i)) i), i, j - i),
        ⟨⟨g1, by simp only; omega⟩, g3, by simp only; omega, by simp only; rw [app_length, g5], fun e he => g6 e (app_mem (fun k hk => swS_lt (by omega) (by omega) hk) he), hst.trans g7⟩, by simp only; omega,
        ⟨by simp [fitR, look, app_length, g5], by simp [fitH, hget], rfl, rfl, rfl⟩⟩
noncomputable def ΨS2 (g : FuncId) : Option ESpec := putΨ ΨS1 86 (psiPut 5 roP) g
theorem hΨS2 : ETab GG ΨS2 := hΨS1.put w_roS psiPut_mono
end Go.AM
namespace Go.AM
open Go Go.Proofs Go.IntWalk
set_option maxRecDepth 100000
set_option maxHeartbeats 4000000
set_option linter.unusedSimpArgs false
set_option linter.unusedVariables false
theorem AWp.join3 {C : Ctx} {T : Plan} {c : Code} {Q : AX → ASt → Prop} {p q R : Prop} {s2 : ASt} {α : Type} (I : α → List (Nat × AV) × AHeap) (P : α → Prop)
    (h1 : p → (∀ z st, P z → Fits C.pins (I z).1 (I z).2 st → AWp C c Q st) → R) (h2 : q → ∃ z, P z ∧ Fits C.pins (I z).1 (I z).2 s2) (rest : ∀ z, P z → wpc C T c Q ⟨look (I z).1, (I z).2⟩) : (p → R) ∧ (q → AWp C c Q s2) :=
  ⟨fun hp => h1 hp (fun z _ hz h => AWp.here I P ⟨z, hz, h⟩ rest), fun hq => AWp.here I P (h2 hq) rest⟩
def planM : Plan := { keep := fun _ => none, cut := fun _ => false, stop := fun i => i == 41 || i == 43 }
theorem symR_mem {es : List PV} {a m b : Nat} (h1 : a ≤ m) (h2 : m ≤ b) (h3 : b ≤ es.length) {x : PV} (h : x ∈ symR ltQ es a m b) : x ∈ es := by
  have : (symR ltQ es a m b).Perm es := by
    have e := seg5 (es := es) (a := a) (b := m) (c := b) (d := b) h1 h2 (Nat.le_refl _) h3
    rw [seg_self, List.nil_append] at e
    unfold symR
    refine List.Perm.trans ((List.Perm.append_right _ (mrg_perm ltQ _ _)).append_left _) ?_
    rw [List.append_assoc]
    exact List.Perm.of_eq e.symm
  exact this.mem_iff.1 h
theorem roS_triv {es : List PV} {s m e : Nat} (h1 : s ≤ m) (h2 : m ≤ e) (h : s = m ∨ m = e) : app es (roS s m e) = es := by
  have : app es (roS s m e) = app es (fun j => j) := app_congr (fun j hj => by unfold roS; (repeat' split) <;> omega)
  rw [this, app_id]
def symP (N : Nat) : List PV → List PV → Prop × List PV
  | es, [.int .i64 a, .int .i64 m, .int .i64 b, .fn f []] => ((0 ≤ a ∧ a < m ∧ m < b ∧ b ≤ es.length ∧ b - a ≤ N) ∧ f = 44 ∧ es.length ≤ 1000000 ∧ (∀ e, e ∈ es → isE e) ∧ Srt ltQ (seg es a.toNat m.toNat) ∧ Srt ltQ (seg es m.toNat b.toNat), symR ltQ es a.toNat m.toNat b.toNat)
  | es, _ => (False, es)
theorem symP_eq {N : Nat} {es : List PV} {a m b : Int} {f : FuncId} : symP N es [.int .i64 a, .int .i64 m, .int .i64 b, .fn f []] = ((0 ≤ a ∧ a < m ∧ m < b ∧ b ≤ es.length ∧ b - a ≤ N) ∧ f = 44 ∧ es.length ≤ 1000000 ∧ (∀ e, e ∈ es → isE e) ∧ Srt ltQ (seg es a.toNat m.toNat) ∧ Srt ltQ (seg es m.toNat b.toNat), symR ltQ es a.toNat m.toNat b.toNat) := rfl
theorem symP_inv {N : Nat} {es args : List PV} (h : (symP N es args).1) : ∃ a m b : Nat, args = [.int .i64 a, .int .i64 m, .int .i64 b, .fn 44 []] ∧ (a < m ∧ m < b ∧ b ≤ es.length ∧ b - a ≤ N) ∧ es.length ≤ 1000000 ∧ (∀ e, e ∈ es → isE e) ∧ Srt ltQ (seg es a m) ∧ Srt ltQ (seg es m b) := by
  unfold symP at h
  split at h
  · obtain ⟨⟨h1, h2, h3, h4, h5⟩, rfl, h6, h7⟩ := h
    rename_i a m b
    obtain ⟨a, rfl⟩ := Int.eq_ofNat_of_zero_le h1
    obtain ⟨m, rfl⟩ := Int.eq_ofNat_of_zero_le (show 0 ≤ m by omega)
    obtain ⟨b, rfl⟩ := Int.eq_ofNat_of_zero_le (show 0 ≤ b by omega)
    exact ⟨a, m, b, rfl, by omega, h6, h7⟩
  · exact h.elim
noncomputable def ΨM (N : Nat) (g : FuncId) : Option ESpec := putΨ ΨS2 76 (psiPut 5 (symP N)) g
theorem k_cmpS {args : List PV} : UU 44 args = cmpS2 args := rfl
theorem mid_w {i j h : Nat} (h1 : i + j ≤ 4000000) (h2 : (i + j) / 2 = h) : IntKind.i64.wrap (IntKind.u64.wrap (IntKind.i64.wrap ((i : Int) + j)) / 2) = (h : Int) := by
  have e1 : IntKind.i64.wrap ((i : Int) + j) = ((i + j : Nat) : Int) := by rw [i64_in _ (by omega)]; omega
  have e2 : IntKind.u64.wrap ((i + j : Nat) : Int) = ((i + j : Nat) : Int) := by unfold IntKind.wrap; simp only [IntKind.signed, IntKind.bits, Bool.false_and, Bool.false_eq_true, if_false]; omega
  rw [e1, e2, i64_in _ (by omega)]; omega
theorem w_p1 {i : Nat} (h : i ≤ 4000000) : IntKind.i64.wrap ((i : Int) + 1) = ((i + 1 : Nat) : Int) := by rw [i64_in _ (by omega)]; omega
theorem w_m1 {i : Nat} (h : 1 ≤ i) (h2 : i ≤ 4000000) : IntKind.i64.wrap ((i : Int) - 1) = ((i - 1 : Nat) : Int) := by rw [i64_in _ (by omega)]; omega
theorem seg_symR {es : List PV} {a m b i j : Nat} (h1 : a ≤ m) (h2 : m ≤ b) (h3 : b ≤ es.length) (h4 : b ≤ i) (h5 : b ≤ j) : seg (symR ltQ es a m b) i j = seg es i j := by
  have hl : (seg es 0 a ++ mrg ltQ (seg es a m) (seg es m b)).length = b := by
    rw [List.length_append, mrg_length, seg_length (by omega), seg_length (by omega), seg_length (by omega)]; omega
  have e := seg_mid (P := seg es 0 a ++ mrg ltQ (seg es a m) (seg es m b)) (S := seg es b es.length) (i := i - b) (j := j - b) hl
  rw [show b + (i - b) = i by omega, show b + (j - b) = j by omega, List.append_assoc] at e
  unfold symR
  rw [e]
  unfold seg
  rw [List.take_length, List.take_drop, List.drop_drop, show b + (j - b) = j by omega, show b + (i - b) = i by omega]
theorem w_symS (N : Nat) (hM : ETab GG (ΨM N)) : ESound GG 76 (psiPut 5 (symP (N + 1))) := by
  refine ESound.of_put (C := cxQ Tryz.prog UU noΘ (ΨM N) [] [9001] 220) (T := planM) Tryz.func76 rfl rfl rfl rfl rfl (Fit.all (G := GG) hUU hnoΘ hM mixed) (fun es args h hw => ?_)
  obtain ⟨a, m, b, rfl, ⟨ham, hmb, hbl, hN⟩, hl, hop, hsA, hsB⟩ := symP_inv h
  refine ⟨by simp [cxQ], ?_⟩
  have hW := ltQ_weak
  have w1 : IntKind.i64.wrap ((m : Int) - a) = ((m - a : Nat) : Int) := by rw [i64_in _ (by omega)]; omega
  have w2 : IntKind.i64.wrap ((b : Int) - m) = ((b - m : Nat) : Int) := by rw [i64_in _ (by omega)]; omega
  have hlit : ∀ {j : Nat}, j < es.length → isE (es.getD j default) := fun h => hop _ (getD_mem' h)
  by_cases q1 : m = a + 1
  · have c1 : (((m - a : Nat) : Int) == 1) = true := by simp; omega
    simp only [symP_eq, w1, c1, Tryz.f76, argL, ΨM, ΨS2, ΨS1, psiPut_eq, roP_eq, symP_eq, Int.toNat_natCast, List.take_succ_cons, List.take_nil, callTGK, ev_callTG, ev_callT, callTK, k_cmpS, cmpS2, opOf_agg, on_pp_eq, Bool.or_self, Bool.or_false, Bool.false_or, Bool.true_or, Nat.reduceBEq, Tryz.underlying3, sz3, by3, ze3, Tryz.underlying4, sz4, by4, ze4, Tryz.underlying9, sz9, by9, ze9, Tryz.underlying23, sz23, by23, ze23, Tryz.underlying37, sz37, by37, ze37, fa37_0, fa37_1, fa37_2, fa37_3, fa37_4, Tryz.underlying66, sz66, by66, ze66, Tryz.underlying87, sz87, by87, ze87, planM, go_sem, ↓reduceIte, reduceCtorEq, Nat.reduceEqDiff, Nat.reduceLT, ↓all_qV, Int.reduceToNat, Int.reduceLT, Int.reduceLE, Nat.reduceAdd, Nat.reduceLeDiff, Nat.reduceMul, ev_callG, gcallK_b, gcallK_w, callGc_true, callGc_false]
    refine AWp.loop (T := planM) (α := Nat × Nat) (fun z => ([(0, .rs 9001 es.length), (1, .pv (.int .i64 a)), (2, .pv (.int .i64 m)), (3, .pv (.int .i64 b)), (4, .pv (.fn 44 [])), (10, .pv (.int .i64 z.1)), (11, .pv (.int .i64 z.2))], [(9001, .row 5 es)]))
      (fun z => m ≤ z.1 ∧ z.1 ≤ z.2 ∧ z.2 ≤ b ∧ (z.1 = m ∨ ltQ (es.getD (z.1 - 1) default) (es.getD a default) = true) ∧ (z.2 = b ∨ ltQ (es.getD z.2 default) (es.getD a default) = false)) (fun z => z.2 - z.1)
      ⟨(m, b), ⟨Nat.le_refl _, by simp only; omega, Nat.le_refl _, .inl rfl, .inl rfl⟩, ⟨by simp [fitR, look], by simp [fitH, hget], rfl, rfl, rfl⟩⟩ ?_
    rintro ⟨i, j⟩ ⟨g1, g2, g3, g4, g5⟩
    simp only at g1 g2 g3 g4 g5
    by_cases hij : i < j
    · have c2 : decide ((i : Int) < (j : Int)) = true := by simp; omega
      obtain ⟨hh, hh1⟩ : ∃ k : Nat, (i + j) / 2 = k := ⟨_, rfl⟩
      have e1 := hlit (j := hh) (by omega)
      have e2 := hlit (j := a) (by omega)
      obtain ⟨e, he⟩ : ∃ e, es.getD hh default = e := ⟨_, rfl⟩
      obtain ⟨d, hd⟩ : ∃ d, es.getD a default = d := ⟨_, rfl⟩
      rw [he] at e1
      rw [hd] at e2
      rw [hd] at g4 g5
      have hm := mid_w (i := i) (j := j) (by omega) hh1
      have hp := w_p1 (i := hh) (by omega)
      have i1 := e1
      have i2 := e2
      obtain ⟨⟨u1, u2, u3, u4, u5⟩, rfl, hu1, hu2⟩ := e1
      obtain ⟨⟨v1, v2, v3, v4, v5⟩, rfl, hv1, hv2⟩ := e2
      simp only [opV] at he hd i1 i2 g4 g5
      simp (config := {maxSteps := 1000000}) only [c2, hm, hp, he, hd, ΨM, ΨS2, ΨS1, psiPut_eq, roP_eq, symP_eq, Int.toNat_natCast, List.take_succ_cons, List.take_nil, callTGK, ev_callTG, ev_callT, callTK, k_cmpS, cmpS2, opOf_agg, on_pp_eq, Bool.or_self, Bool.or_false, Bool.false_or, Bool.true_or, Nat.reduceBEq, Tryz.underlying3, sz3, by3, ze3, Tryz.underlying4, sz4, by4, ze4, Tryz.underlying9, sz9, by9, ze9, Tryz.underlying23, sz23, by23, ze23, Tryz.underlying37, sz37, by37, ze37, fa37_0, fa37_1, fa37_2, fa37_3, fa37_4, Tryz.underlying66, sz66, by66, ze66, Tryz.underlying87, sz87, by87, ze87, planM, go_sem, ↓reduceIte, reduceCtorEq, Nat.reduceEqDiff, Nat.reduceLT, ↓all_qV, Int.reduceToNat, Int.reduceLT, Int.reduceLE, Nat.reduceAdd, Nat.reduceLeDiff, Nat.reduceMul, ev_callG, gcallK_b, gcallK_w, callGc_true, callGc_false]
      refine ⟨by kernel_rfl, ⟨by omega, by omega⟩, by omega, ⟨by omega, by omega⟩, by omega, ⟨i1, i2⟩, fun h9 => ⟨(hh + 1, j), ⟨by simp only; omega, by simp only; omega, g3, .inr ?_, g5⟩, by simp only; omega, ⟨by simp [fitR, look], by simp [fitH, hget], rfl, rfl, rfl⟩⟩,
        fun h9 => ⟨(i, hh), ⟨g1, by simp only; omega, by simp only; omega, g4, .inr ?_⟩, by simp only; omega, ⟨by simp [fitR, look], by simp [fitH, hget], rfl, rfl, rfl⟩⟩⟩
      · simp only [Nat.add_sub_cancel, he]; exact h9
      · simp only [he]; exact h9
    · have c2 : decide ((i : Int) < (j : Int)) = false := by simp; omega
      have : i = j := by omega
      subst this
      simp (config := {maxSteps := 1000000}) only [c2, ΨM, ΨS2, ΨS1, psiPut_eq, roP_eq, symP_eq, Int.toNat_natCast, List.take_succ_cons, List.take_nil, callTGK, ev_callTG, ev_callT, callTK, k_cmpS, cmpS2, opOf_agg, on_pp_eq, Bool.or_self, Bool.or_false, Bool.false_or, Bool.true_or, Nat.reduceBEq, Tryz.underlying3, sz3, by3, ze3, Tryz.underlying4, sz4, by4, ze4, Tryz.underlying9, sz9, by9, ze9, Tryz.underlying23, sz23, by23, ze23, Tryz.underlying37, sz37, by37, ze37, fa37_0, fa37_1, fa37_2, fa37_3, fa37_4, Tryz.underlying66, sz66, by66, ze66, Tryz.underlying87, sz87, by87, ze87, planM, go_sem, ↓reduceIte, reduceCtorEq, Nat.reduceEqDiff, Nat.reduceLT, ↓all_qV, Int.reduceToNat, Int.reduceLT, Int.reduceLE, Nat.reduceAdd, Nat.reduceLeDiff, Nat.reduceMul, ev_callG, gcallK_b, gcallK_w, callGc_true, callGc_false]
      refine AWp.loop (T := planM) (α := Nat) (fun k => ([(0, .rs 9001 es.length), (1, .pv (.int .i64 a)), (2, .pv (.int .i64 m)), (3, .pv (.int .i64 b)), (4, .pv (.fn 44 [])), (10, .pv (.int .i64 i)), (13, .pv (.int .i64 k))], [(9001, .row 5 (app es (shl a k)))]))
        (fun k => a ≤ k ∧ k ≤ i - 1) (fun k => i - 1 - k)
        ⟨a, ⟨Nat.le_refl _, by omega⟩, ⟨by simp [fitR, look], by simp [fitH, hget, shl_id], rfl, rfl, rfl⟩⟩ ?_
      intro k ⟨f1, f2⟩
      have hi1 := w_m1 (i := i) (by omega) (by omega)
      have hk1 := w_p1 (i := k) (by omega)
      by_cases hlt : k < i - 1
      · have c0 : decide ((k : Int) < ((i - 1 : Nat) : Int)) = true := by simp; omega
        have hst := shl_step (es := es) (a := a) (k := k) f1 (by omega)
        have hWl : (app es (shl a k)).length = es.length := app_length
        have hWm : ∀ e, e ∈ app es (shl a k) → isE e := fun e he => hop e (app_mem (fun j hj => by unfold shl; (repeat' split) <;> omega) he)
        generalize app es (shl a k) = W at hst hWl hWm ⊢
        have x1 := hWm _ (getD_mem' (j := k + 1) (by omega))
        have x2 := hWm _ (getD_mem' (j := k) (by omega))
        obtain ⟨e, he⟩ : ∃ e, W.getD (k + 1) default = e := ⟨_, rfl⟩
        obtain ⟨d, hd⟩ : ∃ d, W.getD k default = d := ⟨_, rfl⟩
        rw [he] at x1 hst
        rw [hd] at x2 hst
        have e4 : ∀ v, (W.set k v).getD (k + 1) default = W.getD (k + 1) default := fun v => getD_set_ne' (by omega)
        rw [he] at e4
        obtain ⟨⟨u1, u2, u3, u4, u5⟩, rfl, hu1, hu2⟩ := x1
        obtain ⟨⟨v1, v2, v3, v4, v5⟩, rfl, hv1, hv2⟩ := x2
        simp only [opV] at he hd e4 hst
        simp (config := {maxSteps := 1000000}) only [c0, hi1, hk1, he, hd, e4, boxP, putP, PV.nth, ΨM, ΨS2, ΨS1, psiPut_eq, roP_eq, symP_eq, Int.toNat_natCast, List.take_succ_cons, List.take_nil, callTGK, ev_callTG, ev_callT, callTK, k_cmpS, cmpS2, opOf_agg, on_pp_eq, Bool.or_self, Bool.or_false, Bool.false_or, Bool.true_or, Nat.reduceBEq, Tryz.underlying3, sz3, by3, ze3, Tryz.underlying4, sz4, by4, ze4, Tryz.underlying9, sz9, by9, ze9, Tryz.underlying23, sz23, by23, ze23, Tryz.underlying37, sz37, by37, ze37, fa37_0, fa37_1, fa37_2, fa37_3, fa37_4, Tryz.underlying66, sz66, by66, ze66, Tryz.underlying87, sz87, by87, ze87, planM, go_sem, ↓reduceIte, reduceCtorEq, Nat.reduceEqDiff, Nat.reduceLT, ↓all_qV, Int.reduceToNat, Int.reduceLT, Int.reduceLE, Nat.reduceAdd, Nat.reduceLeDiff, Nat.reduceMul, ev_callG, gcallK_b, gcallK_w, callGc_true, callGc_false]
        and_intros
        all_goals try first | (show checkD _ _ _ = true; kernel_rfl) | omega | (rw [List.length_set]; omega)
        exact ⟨k + 1, ⟨by omega, by omega⟩, by omega, ⟨by simp [fitR, look], by simp [fitH, hget, hst], rfl, rfl, rfl⟩⟩
      · have c0 : decide ((k : Int) < ((i - 1 : Nat) : Int)) = false := by simp; omega
        have : k = i - 1 := by omega
        subst this
        subst q1
        have hfin := sym_left hW hbl g1 g3 hsB g4 g5
        simp (config := {maxSteps := 1000000}) only [c0, hi1, hfin, FinPut_n, FinPut_r, ΨM, ΨS2, ΨS1, psiPut_eq, roP_eq, symP_eq, Int.toNat_natCast, List.take_succ_cons, List.take_nil, callTGK, ev_callTG, ev_callT, callTK, k_cmpS, cmpS2, opOf_agg, on_pp_eq, Bool.or_self, Bool.or_false, Bool.false_or, Bool.true_or, Nat.reduceBEq, Tryz.underlying3, sz3, by3, ze3, Tryz.underlying4, sz4, by4, ze4, Tryz.underlying9, sz9, by9, ze9, Tryz.underlying23, sz23, by23, ze23, Tryz.underlying37, sz37, by37, ze37, fa37_0, fa37_1, fa37_2, fa37_3, fa37_4, Tryz.underlying66, sz66, by66, ze66, Tryz.underlying87, sz87, by87, ze87, planM, go_sem, ↓reduceIte, reduceCtorEq, Nat.reduceEqDiff, Nat.reduceLT, ↓all_qV, Int.reduceToNat, Int.reduceLT, Int.reduceLE, Nat.reduceAdd, Nat.reduceLeDiff, Nat.reduceMul, ev_callG, gcallK_b, gcallK_w, callGc_true, callGc_false]
  · have c1 : (((m - a : Nat) : Int) == 1) = false := by simp; omega
    by_cases q2 : b = m + 1
    · have c2 : (((b - m : Nat) : Int) == 1) = true := by simp; omega
      simp only [symP_eq, w1, w2, c1, c2, Tryz.f76, argL, ΨM, ΨS2, ΨS1, psiPut_eq, roP_eq, symP_eq, Int.toNat_natCast, List.take_succ_cons, List.take_nil, callTGK, ev_callTG, ev_callT, callTK, k_cmpS, cmpS2, opOf_agg, on_pp_eq, Bool.or_self, Bool.or_false, Bool.false_or, Bool.true_or, Nat.reduceBEq, Tryz.underlying3, sz3, by3, ze3, Tryz.underlying4, sz4, by4, ze4, Tryz.underlying9, sz9, by9, ze9, Tryz.underlying23, sz23, by23, ze23, Tryz.underlying37, sz37, by37, ze37, fa37_0, fa37_1, fa37_2, fa37_3, fa37_4, Tryz.underlying66, sz66, by66, ze66, Tryz.underlying87, sz87, by87, ze87, planM, go_sem, ↓reduceIte, reduceCtorEq, Nat.reduceEqDiff, Nat.reduceLT, ↓all_qV, Int.reduceToNat, Int.reduceLT, Int.reduceLE, Nat.reduceAdd, Nat.reduceLeDiff, Nat.reduceMul, ev_callG, gcallK_b, gcallK_w, callGc_true, callGc_false]
      refine AWp.loop (T := planM) (α := Nat × Nat) (fun z => ([(0, .rs 9001 es.length), (1, .pv (.int .i64 a)), (2, .pv (.int .i64 m)), (3, .pv (.int .i64 b)), (4, .pv (.fn 44 [])), (14, .pv (.int .i64 z.1)), (15, .pv (.int .i64 z.2))], [(9001, .row 5 es)]))
        (fun z => a ≤ z.1 ∧ z.1 ≤ z.2 ∧ z.2 ≤ m ∧ (z.1 = a ∨ ltQ (es.getD m default) (es.getD (z.1 - 1) default) = false) ∧ (z.2 = m ∨ ltQ (es.getD m default) (es.getD z.2 default) = true)) (fun z => z.2 - z.1)
        ⟨(a, m), ⟨Nat.le_refl _, by simp only; omega, Nat.le_refl _, .inl rfl, .inl rfl⟩, ⟨by simp [fitR, look], by simp [fitH, hget], rfl, rfl, rfl⟩⟩ ?_
      rintro ⟨i, j⟩ ⟨g1, g2, g3, g4, g5⟩
      simp only at g1 g2 g3 g4 g5
      by_cases hij : i < j
      · have c2 : decide ((i : Int) < (j : Int)) = true := by simp; omega
        obtain ⟨hh, hh1⟩ : ∃ k : Nat, (i + j) / 2 = k := ⟨_, rfl⟩
        have e1 := hlit (j := hh) (by omega)
        have e2 := hlit (j := m) (by omega)
        obtain ⟨e, he⟩ : ∃ e, es.getD hh default = e := ⟨_, rfl⟩
        obtain ⟨d, hd⟩ : ∃ d, es.getD m default = d := ⟨_, rfl⟩
        rw [he] at e1
        rw [hd] at e2
        rw [hd] at g4 g5
        have hm := mid_w (i := i) (j := j) (by omega) hh1
        have hp := w_p1 (i := hh) (by omega)
        have i1 := e1
        have i2 := e2
        obtain ⟨⟨u1, u2, u3, u4, u5⟩, rfl, hu1, hu2⟩ := e1
        obtain ⟨⟨v1, v2, v3, v4, v5⟩, rfl, hv1, hv2⟩ := e2
        simp only [opV] at he hd i1 i2 g4 g5
        simp (config := {maxSteps := 1000000}) only [c2, hm, hp, he, hd, ΨM, ΨS2, ΨS1, psiPut_eq, roP_eq, symP_eq, Int.toNat_natCast, List.take_succ_cons, List.take_nil, callTGK, ev_callTG, ev_callT, callTK, k_cmpS, cmpS2, opOf_agg, on_pp_eq, Bool.or_self, Bool.or_false, Bool.false_or, Bool.true_or, Nat.reduceBEq, Tryz.underlying3, sz3, by3, ze3, Tryz.underlying4, sz4, by4, ze4, Tryz.underlying9, sz9, by9, ze9, Tryz.underlying23, sz23, by23, ze23, Tryz.underlying37, sz37, by37, ze37, fa37_0, fa37_1, fa37_2, fa37_3, fa37_4, Tryz.underlying66, sz66, by66, ze66, Tryz.underlying87, sz87, by87, ze87, planM, go_sem, ↓reduceIte, reduceCtorEq, Nat.reduceEqDiff, Nat.reduceLT, ↓all_qV, Int.reduceToNat, Int.reduceLT, Int.reduceLE, Nat.reduceAdd, Nat.reduceLeDiff, Nat.reduceMul, ev_callG, gcallK_b, gcallK_w, callGc_true, callGc_false]
        refine ⟨by kernel_rfl, ⟨by omega, by omega⟩, by omega, ⟨by omega, by omega⟩, by omega, ⟨i2, i1⟩, ?_, ?_⟩
        · intro h9
          exact ⟨(hh + 1, j), ⟨by simp only; omega, by simp only; omega, g3, .inr (by simp only [Nat.add_sub_cancel, he]; exact Eq.mp (Bool.not_eq_true' _) h9), g5⟩, by simp only; omega, ⟨by simp [fitR, look], by simp [fitH, hget], rfl, rfl, rfl⟩⟩
        · intro h9
          exact ⟨(i, hh), ⟨g1, by simp only; omega, by simp only; omega, g4, .inr (by simp only [he]; exact Eq.mp (Bool.not_eq_false' _) h9)⟩, by simp only; omega, ⟨by simp [fitR, look], by simp [fitH, hget], rfl, rfl, rfl⟩⟩
      · have c2 : decide ((i : Int) < (j : Int)) = false := by simp; omega
        have : i = j := by omega
        subst this
        simp (config := {maxSteps := 1000000}) only [c2, ΨM, ΨS2, ΨS1, psiPut_eq, roP_eq, symP_eq, Int.toNat_natCast, List.take_succ_cons, List.take_nil, callTGK, ev_callTG, ev_callT, callTK, k_cmpS, cmpS2, opOf_agg, on_pp_eq, Bool.or_self, Bool.or_false, Bool.false_or, Bool.true_or, Nat.reduceBEq, Tryz.underlying3, sz3, by3, ze3, Tryz.underlying4, sz4, by4, ze4, Tryz.underlying9, sz9, by9, ze9, Tryz.underlying23, sz23, by23, ze23, Tryz.underlying37, sz37, by37, ze37, fa37_0, fa37_1, fa37_2, fa37_3, fa37_4, Tryz.underlying66, sz66, by66, ze66, Tryz.underlying87, sz87, by87, ze87, planM, go_sem, ↓reduceIte, reduceCtorEq, Nat.reduceEqDiff, Nat.reduceLT, ↓all_qV, Int.reduceToNat, Int.reduceLT, Int.reduceLE, Nat.reduceAdd, Nat.reduceLeDiff, Nat.reduceMul, ev_callG, gcallK_b, gcallK_w, callGc_true, callGc_false]
        refine AWp.loop (T := planM) (α := Nat) (fun k => ([(0, .rs 9001 es.length), (1, .pv (.int .i64 a)), (2, .pv (.int .i64 m)), (3, .pv (.int .i64 b)), (4, .pv (.fn 44 [])), (14, .pv (.int .i64 i)), (17, .pv (.int .i64 k))], [(9001, .row 5 (app es (shr k m)))]))
          (fun k => i ≤ k ∧ k ≤ m) (fun k => k - i)
          ⟨m, ⟨by omega, Nat.le_refl _⟩, ⟨by simp [fitR, look], by simp [fitH, hget, shr_id], rfl, rfl, rfl⟩⟩ ?_
        intro k ⟨f1, f2⟩
        by_cases hlt : i < k
        · obtain ⟨k, rfl⟩ : ∃ k', k = k' + 1 := ⟨k - 1, by omega⟩
          have c0 : decide ((i : Int) < ((k + 1 : Nat) : Int)) = true := by simp; omega
          have hk1 : IntKind.i64.wrap (((k + 1 : Nat) : Int) - 1) = (k : Int) := by rw [i64_in _ (by omega)]; omega
          have hst := shr_step (es := es) (c := k) (m := m) f2 (by omega)
          have hWl : (app es (shr (k + 1) m)).length = es.length := app_length
          have hWm : ∀ e, e ∈ app es (shr (k + 1) m) → isE e := fun e he => hop e (app_mem (fun j hj => by unfold shr; (repeat' split) <;> omega) he)
          generalize app es (shr (k + 1) m) = W at hst hWl hWm ⊢
          have x1 := hWm _ (getD_mem' (j := k) (by omega))
          have x2 := hWm _ (getD_mem' (j := k + 1) (by omega))
          obtain ⟨e, he⟩ : ∃ e, W.getD k default = e := ⟨_, rfl⟩
          obtain ⟨d, hd⟩ : ∃ d, W.getD (k + 1) default = d := ⟨_, rfl⟩
          rw [he] at x1 hst
          rw [hd] at x2 hst
          have e4 : ∀ v, (W.set (k + 1) v).getD k default = W.getD k default := fun v => getD_set_ne' (by omega)
          rw [he] at e4
          obtain ⟨⟨u1, u2, u3, u4, u5⟩, rfl, hu1, hu2⟩ := x1
          obtain ⟨⟨v1, v2, v3, v4, v5⟩, rfl, hv1, hv2⟩ := x2
          simp only [opV] at he hd e4 hst
          simp (config := {maxSteps := 1000000}) only [c0, hk1, he, hd, e4, boxP, putP, PV.nth, ΨM, ΨS2, ΨS1, psiPut_eq, roP_eq, symP_eq, Int.toNat_natCast, List.take_succ_cons, List.take_nil, callTGK, ev_callTG, ev_callT, callTK, k_cmpS, cmpS2, opOf_agg, on_pp_eq, Bool.or_self, Bool.or_false, Bool.false_or, Bool.true_or, Nat.reduceBEq, Tryz.underlying3, sz3, by3, ze3, Tryz.underlying4, sz4, by4, ze4, Tryz.underlying9, sz9, by9, ze9, Tryz.underlying23, sz23, by23, ze23, Tryz.underlying37, sz37, by37, ze37, fa37_0, fa37_1, fa37_2, fa37_3, fa37_4, Tryz.underlying66, sz66, by66, ze66, Tryz.underlying87, sz87, by87, ze87, planM, go_sem, ↓reduceIte, reduceCtorEq, Nat.reduceEqDiff, Nat.reduceLT, ↓all_qV, Int.reduceToNat, Int.reduceLT, Int.reduceLE, Nat.reduceAdd, Nat.reduceLeDiff, Nat.reduceMul, ev_callG, gcallK_b, gcallK_w, callGc_true, callGc_false]
          and_intros
          all_goals try first | (show checkD _ _ _ = true; kernel_rfl) | omega | (rw [List.length_set]; omega)
          exact ⟨k, ⟨by omega, by omega⟩, by omega, ⟨by simp [fitR, look], by simp [fitH, hget, hst], rfl, rfl, rfl⟩⟩
        · have c0 : decide ((i : Int) < (k : Int)) = false := by simp; omega
          have : k = i := by omega
          subst this
          subst q2
          have hfin := sym_right hW hbl g1 g3 hsA g4 g5
          simp (config := {maxSteps := 1000000}) only [c0, hfin, FinPut_n, FinPut_r, ΨM, ΨS2, ΨS1, psiPut_eq, roP_eq, symP_eq, Int.toNat_natCast, List.take_succ_cons, List.take_nil, callTGK, ev_callTG, ev_callT, callTK, k_cmpS, cmpS2, opOf_agg, on_pp_eq, Bool.or_self, Bool.or_false, Bool.false_or, Bool.true_or, Nat.reduceBEq, Tryz.underlying3, sz3, by3, ze3, Tryz.underlying4, sz4, by4, ze4, Tryz.underlying9, sz9, by9, ze9, Tryz.underlying23, sz23, by23, ze23, Tryz.underlying37, sz37, by37, ze37, fa37_0, fa37_1, fa37_2, fa37_3, fa37_4, Tryz.underlying66, sz66, by66, ze66, Tryz.underlying87, sz87, by87, ze87, planM, go_sem, ↓reduceIte, reduceCtorEq, Nat.reduceEqDiff, Nat.reduceLT, ↓all_qV, Int.reduceToNat, Int.reduceLT, Int.reduceLE, Nat.reduceAdd, Nat.reduceLeDiff, Nat.reduceMul, ev_callG, gcallK_b, gcallK_w, callGc_true, callGc_false]
    · have c2 : (((b - m : Nat) : Int) == 1) = false := by simp; omega
      obtain ⟨mid, hmid⟩ : ∃ k, (a + b) / 2 = k := ⟨_, rfl⟩
      have v1 := mid_w (i := a) (j := b) (by omega) hmid
      have v2 : IntKind.i64.wrap ((mid : Int) + m) = ((mid + m : Nat) : Int) := by rw [i64_in _ (by omega)]; omega
      have v3 := w_m1 (i := mid + m) (by omega) (by omega)
      simp only [symP_eq, w1, w2, c1, c2, v1, v2, v3, Tryz.f76, argL, ΨM, ΨS2, ΨS1, psiPut_eq, roP_eq, symP_eq, Int.toNat_natCast, List.take_succ_cons, List.take_nil, callTGK, ev_callTG, ev_callT, callTK, k_cmpS, cmpS2, opOf_agg, on_pp_eq, Bool.or_self, Bool.or_false, Bool.false_or, Bool.true_or, Nat.reduceBEq, Tryz.underlying3, sz3, by3, ze3, Tryz.underlying4, sz4, by4, ze4, Tryz.underlying9, sz9, by9, ze9, Tryz.underlying23, sz23, by23, ze23, Tryz.underlying37, sz37, by37, ze37, fa37_0, fa37_1, fa37_2, fa37_3, fa37_4, Tryz.underlying66, sz66, by66, ze66, Tryz.underlying87, sz87, by87, ze87, planM, go_sem, ↓reduceIte, reduceCtorEq, Nat.reduceEqDiff, Nat.reduceLT, ↓all_qV, Int.reduceToNat, Int.reduceLT, Int.reduceLE, Nat.reduceAdd, Nat.reduceLeDiff, Nat.reduceMul, ev_callG, gcallK_b, gcallK_w, callGc_true, callGc_false]
      refine AWp.join3 (T := planM) (α := Nat × Nat) (fun z => ([(0, .rs 9001 es.length), (1, .pv (.int .i64 a)), (2, .pv (.int .i64 m)), (3, .pv (.int .i64 b)), (4, .pv (.fn 44 [])), (18, .pv (.int .i64 mid)), (19, .pv (.int .i64 (mid + m : Nat))), (20, .pv (.int .i64 z.1)), (21, .pv (.int .i64 z.2)), (22, .pv (.int .i64 (mid + m - 1 : Nat)))], [(9001, .row 5 es)]))
        (fun z => (a ≤ z.1 ∧ mid + m ≤ z.1 + b) ∧ z.1 ≤ z.2 ∧ z.2 ≤ m ∧ z.2 ≤ mid ∧ (z.1 = a ∨ mid + m = z.1 + b ∨ ltQ (es.getD (mid + m - z.1) default) (es.getD (z.1 - 1) default) = false) ∧ (z.2 = m ∨ z.2 = mid ∨ ltQ (es.getD (mid + m - 1 - z.2) default) (es.getD z.2 default) = true))
        (fun h9 H => ?_) (fun h9 => ?_) (fun z hz => ?_)
      · have h9 := of_decide_eq_true h9
        have v4 : IntKind.i64.wrap (((mid + m : Nat) : Int) - b) = ((mid + m - b : Nat) : Int) := by rw [i64_in _ (by omega)]; omega
        have v5 : IntKind.i64.wrap ((mid : Int) + m - b) = ((mid + m - b : Nat) : Int) := by rw [i64_in _ (by omega)]; omega
        exact H (mid + m - b, mid) _ ⟨by simp only; omega, by simp only; omega, by simp only; omega, Nat.le_refl _, .inr (.inl (by simp only; omega)), .inr (.inl rfl)⟩ ⟨by simp [fitR, look, v4, v5], by simp [fitH, hget], rfl, rfl, rfl⟩
      · have h9 := of_decide_eq_false h9
        exact ⟨(a, m), ⟨by simp only; omega, by simp only; omega, Nat.le_refl _, by simp only; omega, .inl rfl, .inl rfl⟩, ⟨by simp [fitR, look], by simp [fitH, hget], rfl, rfl, rfl⟩⟩
      · obtain ⟨s0, r0⟩ := z
        simp only at hz
        simp (config := {maxSteps := 1000000}) only [ΨM, ΨS2, ΨS1, psiPut_eq, roP_eq, symP_eq, Int.toNat_natCast, List.take_succ_cons, List.take_nil, callTGK, ev_callTG, ev_callT, callTK, k_cmpS, cmpS2, opOf_agg, on_pp_eq, Bool.or_self, Bool.or_false, Bool.false_or, Bool.true_or, Nat.reduceBEq, Tryz.underlying3, sz3, by3, ze3, Tryz.underlying4, sz4, by4, ze4, Tryz.underlying9, sz9, by9, ze9, Tryz.underlying23, sz23, by23, ze23, Tryz.underlying37, sz37, by37, ze37, fa37_0, fa37_1, fa37_2, fa37_3, fa37_4, Tryz.underlying66, sz66, by66, ze66, Tryz.underlying87, sz87, by87, ze87, planM, go_sem, ↓reduceIte, reduceCtorEq, Nat.reduceEqDiff, Nat.reduceLT, ↓all_qV, Int.reduceToNat, Int.reduceLT, Int.reduceLE, Nat.reduceAdd, Nat.reduceLeDiff, Nat.reduceMul, ev_callG, gcallK_b, gcallK_w, callGc_true, callGc_false]
        refine AWp.loop (T := planM) (α := Nat × Nat) (fun z => ([(0, .rs 9001 es.length), (1, .pv (.int .i64 a)), (2, .pv (.int .i64 m)), (3, .pv (.int .i64 b)), (4, .pv (.fn 44 [])), (18, .pv (.int .i64 mid)), (19, .pv (.int .i64 (mid + m : Nat))), (20, .pv (.int .i64 z.1)), (21, .pv (.int .i64 z.2)), (22, .pv (.int .i64 (mid + m - 1 : Nat)))], [(9001, .row 5 es)]))
          (fun z => (a ≤ z.1 ∧ mid + m ≤ z.1 + b) ∧ z.1 ≤ z.2 ∧ z.2 ≤ m ∧ z.2 ≤ mid ∧ (z.1 = a ∨ mid + m = z.1 + b ∨ ltQ (es.getD (mid + m - z.1) default) (es.getD (z.1 - 1) default) = false) ∧ (z.2 = m ∨ z.2 = mid ∨ ltQ (es.getD (mid + m - 1 - z.2) default) (es.getD z.2 default) = true)) (fun z => z.2 - z.1) ⟨(s0, r0), hz, ⟨by simp [fitR, look], by simp [fitH, hget], rfl, rfl, rfl⟩⟩ ?_
        clear hz s0 r0
        rintro ⟨s, r⟩ ⟨⟨g0, g1⟩, g2, g3, g6, g4, g5⟩
        simp only at g0 g1 g2 g3 g6 g4 g5
        by_cases hij : s < r
        · have c2 : decide ((s : Int) < (r : Int)) = true := by simp; omega
          obtain ⟨hh, hh1⟩ : ∃ k : Nat, (s + r) / 2 = k := ⟨_, rfl⟩
          obtain ⟨pp, hpp⟩ : ∃ k : Nat, mid + m - 1 - hh = k := ⟨_, rfl⟩
          have e1 := hlit (j := hh) (by omega)
          have e2 := hlit (j := pp) (by omega)
          obtain ⟨e, he⟩ : ∃ e, es.getD hh default = e := ⟨_, rfl⟩
          obtain ⟨d, hd⟩ : ∃ d, es.getD pp default = d := ⟨_, rfl⟩
          rw [he] at e1
          rw [hd] at e2
          have hm := mid_w (i := s) (j := r) (by omega) hh1
          have hp := w_p1 (i := hh) (by omega)
          have hq : IntKind.i64.wrap (((mid + m - 1 : Nat) : Int) - hh) = (pp : Int) := by rw [i64_in _ (by omega)]; omega
          have i1 := e1
          have i2 := e2
          obtain ⟨⟨u1, u2, u3, u4, u5⟩, rfl, hu1, hu2⟩ := e1
          obtain ⟨⟨v1, v2, v3, v4, v5⟩, rfl, hv1, hv2⟩ := e2
          simp only [opV] at he hd i1 i2
          simp (config := {maxSteps := 1000000}) only [c2, hm, hp, hq, he, hd, ΨM, ΨS2, ΨS1, psiPut_eq, roP_eq, symP_eq, Int.toNat_natCast, List.take_succ_cons, List.take_nil, callTGK, ev_callTG, ev_callT, callTK, k_cmpS, cmpS2, opOf_agg, on_pp_eq, Bool.or_self, Bool.or_false, Bool.false_or, Bool.true_or, Nat.reduceBEq, Tryz.underlying3, sz3, by3, ze3, Tryz.underlying4, sz4, by4, ze4, Tryz.underlying9, sz9, by9, ze9, Tryz.underlying23, sz23, by23, ze23, Tryz.underlying37, sz37, by37, ze37, fa37_0, fa37_1, fa37_2, fa37_3, fa37_4, Tryz.underlying66, sz66, by66, ze66, Tryz.underlying87, sz87, by87, ze87, planM, go_sem, ↓reduceIte, reduceCtorEq, Nat.reduceEqDiff, Nat.reduceLT, ↓all_qV, Int.reduceToNat, Int.reduceLT, Int.reduceLE, Nat.reduceAdd, Nat.reduceLeDiff, Nat.reduceMul, ev_callG, gcallK_b, gcallK_w, callGc_true, callGc_false]
          refine ⟨by kernel_rfl, ⟨by omega, by omega⟩, by omega, ⟨by omega, by omega⟩, by omega, ⟨i2, i1⟩, ?_, ?_⟩
          · intro h9
            refine ⟨(hh + 1, r), ⟨by simp only; omega, by simp only; omega, g3, g6, .inr (.inr ?_), g5⟩, by simp only; omega, ⟨by simp [fitR, look], by simp [fitH, hget], rfl, rfl, rfl⟩⟩
            simp only
            rw [show mid + m - (hh + 1) = pp by omega, Nat.add_sub_cancel, he, hd]
            exact Eq.mp (Bool.not_eq_true' _) h9
          · intro h9
            refine ⟨(s, hh), ⟨by simp only; omega, by simp only; omega, by simp only; omega, by simp only; omega, g4, .inr (.inr ?_)⟩, by simp only; omega, ⟨by simp [fitR, look], by simp [fitH, hget], rfl, rfl, rfl⟩⟩
            simp only
            rw [hpp, he, hd]
            exact Eq.mp (Bool.not_eq_false' _) h9
        · have c2 : decide ((s : Int) < (r : Int)) = false := by simp; omega
          have : r = s := by omega
          subst this
          obtain ⟨e, he⟩ : ∃ k : Nat, mid + m - r = k := ⟨_, rfl⟩
          have hq : IntKind.i64.wrap (((mid + m : Nat) : Int) - r) = (e : Int) := by rw [i64_in _ (by omega)]; omega
          have hsm : r + (e - m) = mid := by omega
          have hmain := sym_main hW g0 g3 (show m ≤ e by omega) (show e ≤ b by omega) hbl hsA hsB (g4.imp_right (Or.imp (fun h => by omega) (fun h => by rw [← he]; exact h))) (g5.imp_right (Or.imp (fun h => by omega) (fun h => by rw [show e - 1 = mid + m - 1 - r by omega]; exact h)))
          have hseg := rot_segs (es := es) g0 g3 (show m ≤ e by omega) (show e ≤ b by omega) hbl
          rw [hsm] at hmain hseg
          simp (config := {maxSteps := 1000000}) only [c2, hq, ΨM, ΨS2, ΨS1, psiPut_eq, roP_eq, symP_eq, Int.toNat_natCast, List.take_succ_cons, List.take_nil, callTGK, ev_callTG, ev_callT, callTK, k_cmpS, cmpS2, opOf_agg, on_pp_eq, Bool.or_self, Bool.or_false, Bool.false_or, Bool.true_or, Nat.reduceBEq, Tryz.underlying3, sz3, by3, ze3, Tryz.underlying4, sz4, by4, ze4, Tryz.underlying9, sz9, by9, ze9, Tryz.underlying23, sz23, by23, ze23, Tryz.underlying37, sz37, by37, ze37, fa37_0, fa37_1, fa37_2, fa37_3, fa37_4, Tryz.underlying66, sz66, by66, ze66, Tryz.underlying87, sz87, by87, ze87, planM, go_sem, ↓reduceIte, reduceCtorEq, Nat.reduceEqDiff, Nat.reduceLT, ↓all_qV, Int.reduceToNat, Int.reduceLT, Int.reduceLE, Nat.reduceAdd, Nat.reduceLeDiff, Nat.reduceMul, ev_callG, gcallK_b, gcallK_w, callGc_true, callGc_false]
          refine AWp.join3 (T := plan0) (α := Unit) (fun _ => ([(0, .rs 9001 es.length), (1, .pv (.int .i64 a)), (2, .pv (.int .i64 m)), (3, .pv (.int .i64 b)), (4, .pv (.fn 44 [])), (18, .pv (.int .i64 mid)), (20, .pv (.int .i64 r)), (24, .pv (.int .i64 e))], [(9001, .row 5 (app es (roS r m e)))])) (fun _ => True) (fun h9 H => ?_) (fun h9 => ?_) (fun z hz => ?_)
          · rw [Bool.and_eq_true] at h9
            have k1 := of_decide_eq_true h9.1
            have k2 := of_decide_eq_true h9.2
            exact ⟨⟨⟨by omega, k1, k2, by omega⟩, hl, hop⟩, app_length, H () _ trivial ⟨by simp [fitR, look], by simp [fitH, hget], rfl, rfl, rfl⟩⟩
          · have k1 : r = m ∨ m = e := by
              by_cases k1 : r < m
              · by_cases k2 : m < e
                · rw [decide_eq_true (show (r : Int) < m by omega), decide_eq_true (show (m : Int) < e by omega)] at h9; cases h9
                · exact .inr (by omega)
              · exact .inl (by omega)
            have k2 := roS_triv (es := es) (s := r) (m := m) (e := e) g3 (by omega) k1
            exact ⟨(), trivial, ⟨by simp [fitR, look], by simp [fitH, hget, k2], rfl, rfl, rfl⟩⟩
          · clear hz z
            obtain ⟨t1, t2, t3, t4, t5, t6⟩ := hseg
            have hWl : (app es (roS r m e)).length = es.length := app_length
            have hWm : ∀ x, x ∈ app es (roS r m e) → isE x := fun x hx => hop x (app_mem (fun j hj => roS_lt (by omega) (by omega) (by omega) hj) hx)
            generalize app es (roS r m e) = W at t1 t2 t3 t4 t5 t6 hWl hWm hmain ⊢
            have u1 : Srt ltQ (seg W a r) := by rw [t2]; exact srt_sub (Nat.le_refl _) g0 g3 (by omega) hsA
            have u2 : Srt ltQ (seg W r mid) := by rw [t3]; exact srt_sub (Nat.le_refl _) (by omega) (show e ≤ b by omega) hbl hsB
            have u3 : Srt ltQ (seg W mid e) := by rw [t4]; exact srt_sub g0 g3 (Nat.le_refl _) (by omega) hsA
            have u4 : Srt ltQ (seg W e b) := by rw [t5]; exact srt_sub (show m ≤ e by omega) (by omega) (Nat.le_refl _) hbl hsB
            rw [← seg_symR (a := a) (m := r) (b := mid) g0 g6 (by omega) (by omega) (by omega)] at u3 u4
            simp (config := {maxSteps := 1000000}) only [ΨM, ΨS2, ΨS1, psiPut_eq, roP_eq, symP_eq, Int.toNat_natCast, List.take_succ_cons, List.take_nil, callTGK, ev_callTG, ev_callT, callTK, k_cmpS, cmpS2, opOf_agg, on_pp_eq, Bool.or_self, Bool.or_false, Bool.false_or, Bool.true_or, Nat.reduceBEq, Tryz.underlying3, sz3, by3, ze3, Tryz.underlying4, sz4, by4, ze4, Tryz.underlying9, sz9, by9, ze9, Tryz.underlying23, sz23, by23, ze23, Tryz.underlying37, sz37, by37, ze37, fa37_0, fa37_1, fa37_2, fa37_3, fa37_4, Tryz.underlying66, sz66, by66, ze66, Tryz.underlying87, sz87, by87, ze87, planM, plan0, hWl, go_sem, ↓reduceIte, reduceCtorEq, Nat.reduceEqDiff, Nat.reduceLT, ↓all_qV, Int.reduceToNat, Int.reduceLT, Int.reduceLE, Nat.reduceAdd, Nat.reduceLeDiff, Nat.reduceMul, ev_callG, gcallK_b, gcallK_w, callGc_true, callGc_false]
            refine AWp.join3 (T := plan0) (α := Unit) (fun _ => ([(0, .rs 9001 es.length), (1, .pv (.int .i64 a)), (2, .pv (.int .i64 m)), (3, .pv (.int .i64 b)), (4, .pv (.fn 44 [])), (18, .pv (.int .i64 mid)), (24, .pv (.int .i64 e))], [(9001, .row 5 (symR ltQ W a r mid))])) (fun _ => True) (fun h9 H => ?_) (fun h9 => ?_) (fun z hz => ?_)
            · rw [Bool.and_eq_true] at h9
              have k1 := of_decide_eq_true h9.1
              have k2 := of_decide_eq_true h9.2
              exact ⟨⟨⟨by omega, k1, k2, by omega, by omega⟩, hl, hWm, u1, u2⟩, by rw [symR_length g0 g6 (by omega), hWl], H () _ trivial ⟨by simp [fitR, look], by simp [fitH, hget], rfl, rfl, rfl⟩⟩
            · have k1 : a = r ∨ r = mid := by
                by_cases k1 : a < r
                · by_cases k2 : r < mid
                  · rw [decide_eq_true (show (a : Int) < r by omega), decide_eq_true (show (r : Int) < mid by omega)] at h9; cases h9
                  · exact .inr (by omega)
                · exact .inl (by omega)
              have k2 := symR_triv (lt := ltQ) (es := W) (a := a) (m := r) (b := mid) g0 g6 (by omega) k1
              exact ⟨(), trivial, ⟨by simp [fitR, look], by simp [fitH, hget, k2], rfl, rfl, rfl⟩⟩
            · clear hz z
              have hZl : (symR ltQ W a r mid).length = es.length := by rw [symR_length g0 g6 (by omega), hWl]
              have hZm : ∀ x, x ∈ symR ltQ W a r mid → isE x := fun x hx => hWm x (symR_mem g0 g6 (by omega) hx)
              generalize symR ltQ W a r mid = Z at u3 u4 hZl hZm hmain ⊢
              simp (config := {maxSteps := 1000000}) only [ΨM, ΨS2, ΨS1, psiPut_eq, roP_eq, symP_eq, Int.toNat_natCast, List.take_succ_cons, List.take_nil, callTGK, ev_callTG, ev_callT, callTK, k_cmpS, cmpS2, opOf_agg, on_pp_eq, Bool.or_self, Bool.or_false, Bool.false_or, Bool.true_or, Nat.reduceBEq, Tryz.underlying3, sz3, by3, ze3, Tryz.underlying4, sz4, by4, ze4, Tryz.underlying9, sz9, by9, ze9, Tryz.underlying23, sz23, by23, ze23, Tryz.underlying37, sz37, by37, ze37, fa37_0, fa37_1, fa37_2, fa37_3, fa37_4, Tryz.underlying66, sz66, by66, ze66, Tryz.underlying87, sz87, by87, ze87, planM, plan0, hZl, FinPut_n, FinPut_r, go_sem, ↓reduceIte, reduceCtorEq, Nat.reduceEqDiff, Nat.reduceLT, ↓all_qV, Int.reduceToNat, Int.reduceLT, Int.reduceLE, Nat.reduceAdd, Nat.reduceLeDiff, Nat.reduceMul, ev_callG, gcallK_b, gcallK_w, callGc_true, callGc_false]
              refine ⟨fun h9 => ?_, fun h9 => ?_⟩
              · rw [Bool.and_eq_true] at h9
                have k1 := of_decide_eq_true h9.1
                have k2 := of_decide_eq_true h9.2
                exact ⟨⟨⟨by omega, k1, k2, by omega, by omega⟩, hl, hZm, u3, u4⟩, by rw [symR_length (by omega) (by omega) (by omega), hZl], by rw [hmain]⟩
              · have k1 : mid = e ∨ e = b := by
                  by_cases k1 : mid < e
                  · by_cases k2 : e < b
                    · rw [decide_eq_true (show (mid : Int) < e by omega), decide_eq_true (show (e : Int) < b by omega)] at h9; cases h9
                    · exact .inr (by omega)
                  · exact .inl (by omega)
                rw [← hmain, symR_triv (by omega) (by omega) (by omega) k1]
end Go.AM
