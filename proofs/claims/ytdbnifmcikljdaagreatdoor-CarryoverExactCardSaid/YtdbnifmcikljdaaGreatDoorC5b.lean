/-
  A part of a proof: see the last text of this claim for what is proved.
-/
import Derived.Test.YtdbnifmcikljdaaGreatDoorC5a
import Derived.Test.YtdbnifmcikljdaaGreatDoorZMa
namespace Go.AM
open Go Go.Proofs Go.IntWalk
set_option maxRecDepth 100000
set_option maxHeartbeats 1000000
set_option linter.unusedSimpArgs false
set_option linter.unusedVariables false
def ltP (e d : PV) : Bool := decide (cmpO (opOf e) (opOf d) < 0)
def insP : List PV → List PV → Prop × List PV
  | es, [.int .i64 a, .int .i64 b, .fn f []] => (a = 0 ∧ b = es.length ∧ f = 28 ∧ es.length ≤ 1000000 ∧ (∀ e, e ∈ es → isOp e), isort ltP es)
  | es, _ => (False, es)
theorem insP_eq {es : List PV} {a b : Int} {f : FuncId} : insP es [.int .i64 a, .int .i64 b, .fn f []] = (a = 0 ∧ b = es.length ∧ f = 28 ∧ es.length ≤ 1000000 ∧ (∀ e, e ∈ es → isOp e), isort ltP es) := rfl
theorem insP_inv {es args : List PV} (h : (insP es args).1) : args = [.int .i64 0, .int .i64 es.length, .fn 28 []] ∧ es.length ≤ 1000000 ∧ (∀ e, e ∈ es → isOp e) := by
  unfold insP at h
  split at h
  · obtain ⟨rfl, rfl, rfl, h1, h2⟩ := h; exact ⟨rfl, h1, h2⟩
  · exact h.elim
theorem neg1 : ((-1 : Int)).toNat = 0 := rfl
theorem getD_snoc2 {q t : List PV} {x y : PV} : (q.reverse ++ y :: x :: t).getD (q.length + 1) default = x := by
  simp [List.getD_eq_getElem?_getD, List.getElem?_append]
theorem getD_snoc1 {q t : List PV} {y : PV} : (q.reverse ++ y :: t).getD q.length default = y := by
  simp [List.getD_eq_getElem?_getD, List.getElem?_append]
theorem getD_set_ne {l : List PV} {i j : Nat} {v : PV} (h : i ≠ j) : (l.set i v).getD j default = l.getD j default := by
  simp [List.getD_eq_getElem?_getD, List.getElem?_set, h]
theorem swap_row {q t : List PV} {x y : PV} : ((q.reverse ++ y :: x :: t).set (q.length + 1) y).set q.length x = q.reverse ++ x :: y :: t := by
  rw [List.set_append, if_neg (by simp), List.set_append, if_neg (by simp)]
  simp
theorem k_cmpT {args : List PV} : U4 28 args = compareS args := rfl
theorem w_insS : ESound GG 61 (psiPut 5 insP) := by
  refine ESound.of_put (C := cxQ Tryz.prog U4 noΘ noΨ [] [9001] 53) (T := plan0) Tryz.func61 rfl rfl rfl rfl rfl (Fit.all (G := GG) hU4 hnoΘ hnoΨ mixed) (fun es args h hw => ?_)
  obtain ⟨rfl, hl, hop⟩ := insP_inv h
  refine ⟨by simp [cxQ], ?_⟩
  have w1 : IntKind.i64.wrap (0 + 1) = 1 := by decide
  simp only [w1, insP_eq, Tryz.f61, argL, Tryz.underlying3, sz3, by3, ze3, Tryz.underlying4, sz4, by4, ze4, Tryz.underlying9, sz9, by9, ze9, Tryz.underlying23, sz23, by23, ze23, Tryz.underlying37, sz37, by37, ze37, fa37_0, fa37_1, fa37_2, fa37_3, fa37_4, Tryz.underlying66, sz66, by66, ze66, plan0, go_sem, ↓reduceIte, reduceCtorEq, Nat.reduceEqDiff, Nat.reduceLT, ↓all_qV, Int.reduceToNat, Int.reduceLT, Int.reduceLE, Nat.reduceAdd, Nat.reduceLeDiff, Nat.reduceMul, ev_callG, gcallK_b, gcallK_w, callGc_true, callGc_false]
  refine AWp.loop (T := plan0) (α := Nat) (fun i => ([(0, .rs 9001 es.length), (1, .pv (.int .i64 0)), (2, .pv (.int .i64 es.length)), (3, .pv (.fn 28 [])), (8, .pv (.int .i64 i))], [(9001, .row 5 ((rsort ltP (es.take i)).reverse ++ es.drop i))]))
    (fun i => 1 ≤ i ∧ (i ≤ es.length ∨ i = 1)) (fun i => es.length - i)
    ⟨1, ⟨Nat.le_refl _, .inr rfl⟩, ⟨by simp [fitR, look], ?_, rfl, rfl, rfl⟩⟩ ?_
  · cases es with
    | nil => simp [fitH, hget, rsort]
    | cons e r => simp [fitH, hget, rsort, rins]
  rintro i ⟨h1, h2⟩
  have hi1 : IntKind.i64.wrap ((i : Int) + 1) = ((i + 1 : Nat) : Int) := by rw [i64_in _ (by omega)]; omega
  by_cases hlt : i < es.length
  · have c0 : decide ((i : Int) < (es.length : Int)) = true := by simp; omega
    have hx := hop _ (getD_mem hlt)
    have hd : es.drop i = es.getD i default :: es.drop (i + 1) := by rw [List.drop_eq_getElem_cons hlt]; simp [List.getD_eq_getElem?_getD, hlt]
    have ht := take_succ_getD hlt
    obtain ⟨x, hxe⟩ : ∃ x, es.getD i default = x := ⟨_, rfl⟩
    rw [hxe] at hx hd ht
    have hrp : (rsort ltP (es.take i)).length = i := by rw [rsort_length, List.length_take]; omega
    have hrm : ∀ e, e ∈ rsort ltP (es.take i) → isOp e := fun e he => hop e (List.mem_of_mem_take ((rsort_perm ltP _).mem_iff.1 he))
    have hst : rsort ltP (es.take (i + 1)) = rins ltP x (rsort ltP (es.take i)) := by rw [ht, rsort_snoc]
    rw [hd]
    generalize rsort ltP (es.take i) = rp at hrp hrm hst ⊢
    have hdl : (es.drop (i + 1)).length = es.length - (i + 1) := by simp
    simp only [c0, Tryz.underlying3, sz3, by3, ze3, Tryz.underlying4, sz4, by4, ze4, Tryz.underlying9, sz9, by9, ze9, Tryz.underlying23, sz23, by23, ze23, Tryz.underlying37, sz37, by37, ze37, fa37_0, fa37_1, fa37_2, fa37_3, fa37_4, Tryz.underlying66, sz66, by66, ze66, plan0, go_sem, ↓reduceIte, reduceCtorEq, Nat.reduceEqDiff, Nat.reduceLT, ↓all_qV, Int.reduceToNat, Int.reduceLT, Int.reduceLE, Nat.reduceAdd, Nat.reduceLeDiff, Nat.reduceMul, ev_callG, gcallK_b, gcallK_w, callGc_true, callGc_false]
    refine AWp.loop (T := plan0) (α := List PV × List PV) (fun s => ([(0, .rs 9001 es.length), (1, .pv (.int .i64 0)), (2, .pv (.int .i64 es.length)), (3, .pv (.fn 28 [])), (8, .pv (.int .i64 i)), (9, .pv (.int .i64 s.1.length))], [(9001, .row 5 (s.1.reverse ++ x :: (s.2 ++ es.drop (i + 1))))]))
      (fun s => s.1.length + s.2.length = i ∧ rins ltP x rp = s.2.reverse ++ rins ltP x s.1 ∧ ∀ e, e ∈ s.1 → isOp e) (fun s => s.1.length)
      ⟨(rp, []), ⟨by simpa using hrp, by simp, hrm⟩, ⟨by simp [fitR, look, hrp], by simp [fitH, hget], rfl, rfl, rfl⟩⟩ ?_
    rintro ⟨q, m⟩ ⟨g1, g2, g3⟩
    simp only at g1 g2 g3
    obtain ⟨⟨o, c, k, yr, a⟩, rfl, hk⟩ := hx
    cases q with
    | nil =>
      have e0 : ((([] : List PV).reverse ++ opV ⟨o, c, k, yr, a⟩ :: (m ++ es.drop (i + 1)))).getD 0 default = opV ⟨o, c, k, yr, a⟩ := by simp
      have hR0 : ([] : List PV).reverse ++ opV ⟨o, c, k, yr, a⟩ :: (m ++ es.drop (i + 1)) = (rsort ltP (es.take (i + 1))).reverse ++ es.drop (i + 1) := by
        rw [hst, g2]; simp [rins]
      have w2 : IntKind.i64.wrap (0 - 1) = -1 := by decide
      generalize ([] : List PV).reverse ++ opV ⟨o, c, k, yr, a⟩ :: (m ++ es.drop (i + 1)) = R at e0 hR0 ⊢
      simp only [opV] at e0
      simp only [decide_false, e0, w2, neg1, hi1, List.take_succ_cons, List.take_nil, callTGK, ev_callTG, true_and, k_cmpT, compareS, on_pp_eq, Tryz.underlying3, sz3, by3, ze3, Tryz.underlying4, sz4, by4, ze4, Tryz.underlying9, sz9, by9, ze9, Tryz.underlying23, sz23, by23, ze23, Tryz.underlying37, sz37, by37, ze37, fa37_0, fa37_1, fa37_2, fa37_3, fa37_4, Tryz.underlying66, sz66, by66, ze66, plan0, go_sem, ↓reduceIte, reduceCtorEq, Nat.reduceEqDiff, Nat.reduceLT, ↓all_qV, Int.reduceToNat, Int.reduceLT, Int.reduceLE, Nat.reduceAdd, Nat.reduceLeDiff, Nat.reduceMul, ev_callG, gcallK_b, gcallK_w, callGc_true, callGc_false]
      exact ⟨by kernel_rfl, i + 1, ⟨by omega, by omega⟩, by omega, ⟨by simp [fitR, look], ⟨congrArg (fun r => some (ABlk.row 5 r)) hR0, trivial⟩, rfl, rfl, rfl⟩⟩
    | cons y q =>
      have c1 : decide ((0 : Int) < ((q.length + 1 : Nat) : Int)) = true := by simp
      simp only [List.length_cons] at g1
      have hj1 : IntKind.i64.wrap (((q.length + 1 : Nat) : Int) - 1) = (q.length : Int) := by rw [i64_in _ (by omega)]; omega
      have hy := g3 y List.mem_cons_self
      obtain ⟨⟨o', c', k', yr', a'⟩, rfl, hk'⟩ := hy
      have hro : (opV ⟨o', c', k', yr', a'⟩ :: q).reverse ++ opV ⟨o, c, k, yr, a⟩ :: (m ++ es.drop (i + 1)) = q.reverse ++ opV ⟨o', c', k', yr', a'⟩ :: opV ⟨o, c, k, yr, a⟩ :: (m ++ es.drop (i + 1)) := by simp
      have e1 := getD_snoc2 (q := q) (x := opV ⟨o, c, k, yr, a⟩) (y := opV ⟨o', c', k', yr', a'⟩) (t := m ++ es.drop (i + 1))
      have e2 := getD_snoc1 (q := q) (y := opV ⟨o', c', k', yr', a'⟩) (t := opV ⟨o, c, k, yr, a⟩ :: (m ++ es.drop (i + 1)))
      have e3 := swap_row (q := q) (x := opV ⟨o, c, k, yr, a⟩) (y := opV ⟨o', c', k', yr', a'⟩) (t := m ++ es.drop (i + 1))
      have hRl : (q.reverse ++ opV ⟨o', c', k', yr', a'⟩ :: opV ⟨o, c, k, yr, a⟩ :: (m ++ es.drop (i + 1))).length = es.length := by
        simp only [List.length_append, List.length_reverse, List.length_cons, hdl] at g1 ⊢; omega
      have hend : ltP (opV ⟨o, c, k, yr, a⟩) (opV ⟨o', c', k', yr', a'⟩) = false → (opV ⟨o', c', k', yr', a'⟩ :: q).reverse ++ opV ⟨o, c, k, yr, a⟩ :: (m ++ es.drop (i + 1)) = (rsort ltP (es.take (i + 1))).reverse ++ es.drop (i + 1) := by
        intro h9
        rw [hst, g2]; simp [rins, h9]
      have hgo : ltP (opV ⟨o, c, k, yr, a⟩) (opV ⟨o', c', k', yr', a'⟩) = true → rins ltP (opV ⟨o, c, k, yr, a⟩) rp = (opV ⟨o', c', k', yr', a'⟩ :: m).reverse ++ rins ltP (opV ⟨o, c, k, yr, a⟩) q := by
        intro h9
        rw [g2]; simp [rins, h9]
      rw [hro] at hend ⊢
      have hlt2 : ltP (opV ⟨o, c, k, yr, a⟩) (opV ⟨o', c', k', yr', a'⟩) = decide (cmpO ⟨o, c, k, yr, a⟩ ⟨o', c', k', yr', a'⟩ < 0) := rfl
      rw [hlt2] at hend hgo
      generalize q.reverse ++ opV ⟨o', c', k', yr', a'⟩ :: opV ⟨o, c, k, yr, a⟩ :: (m ++ es.drop (i + 1)) = R at e1 e2 e3 hRl hend ⊢
      simp only [opV] at e1 e2
      have e4 : ∀ v, (R.set (q.length + 1) v).getD q.length default = R.getD q.length default := fun v => getD_set_ne (by omega)
      simp only [c1, hj1, hi1, e1, e2, e4, opOf_agg, List.take_succ_cons, List.take_nil, boxP, putP, PV.nth, callTGK, ev_callTG, true_and, k_cmpT, compareS, on_pp_eq, Tryz.underlying3, sz3, by3, ze3, Tryz.underlying4, sz4, by4, ze4, Tryz.underlying9, sz9, by9, ze9, Tryz.underlying23, sz23, by23, ze23, Tryz.underlying37, sz37, by37, ze37, fa37_0, fa37_1, fa37_2, fa37_3, fa37_4, Tryz.underlying66, sz66, by66, ze66, plan0, go_sem, ↓reduceIte, reduceCtorEq, Nat.reduceEqDiff, Nat.reduceLT, ↓all_qV, Int.reduceToNat, Int.reduceLT, Int.reduceLE, Nat.reduceAdd, Nat.reduceLeDiff, Nat.reduceMul, ev_callG, gcallK_b, gcallK_w, callGc_true, callGc_false]
      have i1 : isOp (.agg [.int .i64 o, .int .i64 c, .str k, .int .i64 yr, .int .i64 a]) := ⟨⟨o, c, k, yr, a⟩, rfl, hk⟩
      have i2 : isOp (.agg [.int .i64 o', .int .i64 c', .str k', .int .i64 yr', .int .i64 a']) := ⟨⟨o', c', k', yr', a'⟩, rfl, hk'⟩
      refine ⟨by kernel_rfl, ⟨by omega, by omega⟩, by omega, ⟨by omega, by omega⟩, by omega, ⟨i1, i2⟩, fun h9 => ⟨by kernel_rfl, ⟨by omega, by omega⟩, by omega, ⟨by omega, by omega⟩, by omega, ⟨by omega, by omega⟩, by omega, ⟨by omega, by omega⟩, by rw [List.length_set]; omega, (q, opV ⟨o', c', k', yr', a'⟩ :: m), ⟨by simp only [List.length_cons]; omega, hgo h9, fun e he => g3 e (List.mem_cons_of_mem _ he)⟩, by simp only; omega, ⟨by simp [fitR, look], ⟨congrArg (fun r => some (ABlk.row 5 r)) e3, trivial⟩, rfl, rfl, rfl⟩⟩,
        fun h9 => ⟨i + 1, ⟨by omega, by omega⟩, by omega, ⟨by simp [fitR, look], ⟨congrArg (fun r => some (ABlk.row 5 r)) (hend h9), trivial⟩, rfl, rfl, rfl⟩⟩⟩
  · have c0 : decide ((i : Int) < (es.length : Int)) = false := by simp; omega
    simp only [c0, Tryz.underlying3, sz3, by3, ze3, Tryz.underlying4, sz4, by4, ze4, Tryz.underlying9, sz9, by9, ze9, Tryz.underlying23, sz23, by23, ze23, Tryz.underlying37, sz37, by37, ze37, fa37_0, fa37_1, fa37_2, fa37_3, fa37_4, Tryz.underlying66, sz66, by66, ze66, plan0, FinPut_n, FinPut_r, go_sem, ↓reduceIte, reduceCtorEq, Nat.reduceEqDiff, Nat.reduceLT, ↓all_qV, Int.reduceToNat, Int.reduceLT, Int.reduceLE, Nat.reduceAdd, Nat.reduceLeDiff, Nat.reduceMul, ev_callG, gcallK_b, gcallK_w, callGc_true, callGc_false]
    have : es.take i = es := List.take_of_length_le (by omega)
    have h3 : es.drop i = [] := List.drop_eq_nil_of_le (by omega)
    rw [this, h3]
    simp [isort]
noncomputable def Ψs1 (g : FuncId) : Option ESpec := putΨ noΨ 61 (psiPut 5 insP) g
theorem hΨs1 : ETab GG Ψs1 := hnoΨ.put w_insS psiPut_mono
def pdqP : List PV → List PV → Prop × List PV
  | es, [.int .i64 a, .int .i64 b, .int .i64 _, .fn f []] => (a = 0 ∧ b = es.length ∧ f = 28 ∧ es.length ≤ 12 ∧ (∀ e, e ∈ es → isOp e), isort ltP es)
  | es, _ => (False, es)
theorem pdqP_eq {es : List PV} {a b c : Int} {f : FuncId} : pdqP es [.int .i64 a, .int .i64 b, .int .i64 c, .fn f []] = (a = 0 ∧ b = es.length ∧ f = 28 ∧ es.length ≤ 12 ∧ (∀ e, e ∈ es → isOp e), isort ltP es) := rfl
theorem pdqP_inv {es args : List PV} (h : (pdqP es args).1) : ∃ c : Int, args = [.int .i64 0, .int .i64 es.length, .int .i64 c, .fn 28 []] ∧ es.length ≤ 12 ∧ (∀ e, e ∈ es → isOp e) := by
  unfold pdqP at h
  split at h
  · obtain ⟨rfl, rfl, rfl, h1, h2⟩ := h; exact ⟨_, rfl, h1, h2⟩
  · exact h.elim
theorem w_pdqS : ESound GG 50 (psiPut 5 pdqP) := by
  refine ESound.of_put (C := cxQ Tryz.prog U4 noΘ Ψs1 [] [9001] 148) (T := plan0) Tryz.func50 rfl rfl rfl rfl rfl (Fit.all (G := GG) hU4 hnoΘ hΨs1 mixed) (fun es args h hw => ?_)
  obtain ⟨cc, rfl, hl, hop⟩ := pdqP_inv h
  refine ⟨by simp [cxQ], ?_⟩
  simp only [pdqP_eq, Tryz.f50, argL, Tryz.underlying1, sz1, by1, ze1, Tryz.underlying3, sz3, by3, ze3, Tryz.underlying4, sz4, by4, ze4, Tryz.underlying9, sz9, by9, ze9, Tryz.underlying23, sz23, by23, ze23, Tryz.underlying37, sz37, by37, ze37, fa37_0, fa37_1, fa37_2, fa37_3, fa37_4, Tryz.underlying66, sz66, by66, ze66, Tryz.underlying94, sz94, by94, ze94, Tryz.underlying95, sz95, by95, ze95, Tryz.underlying99, sz99, by99, ze99, plan0, go_sem, ↓reduceIte, reduceCtorEq, Nat.reduceEqDiff, Nat.reduceLT, ↓all_qV, Int.reduceToNat, Int.reduceLT, Int.reduceLE, Nat.reduceAdd, Nat.reduceLeDiff, Nat.reduceMul, ev_callG, gcallK_b, gcallK_w, callGc_true, callGc_false]
  refine AWp.loop (T := plan0) (α := Unit) (fun _ => ([(0, .rs 9001 es.length), (1, .pv (.int .i64 0)), (2, .pv (.int .i64 es.length)), (4, .pv (.fn 28 []))], [(9001, .row 5 es)]))
    (fun _ => True) (fun _ => 0) ⟨(), trivial, ⟨by simp [fitR, look], by simp [fitH, hget], rfl, rfl, rfl⟩⟩ ?_
  rintro _ _
  have c0 : decide (IntKind.i64.wrap ((es.length : Int) - 0) ≤ 12) = true := by rw [i64_in _ (by omega)]; simp; omega
  simp only [c0, Ψs1, psiPut_eq, insP_eq, FinPut_n, FinPut_r, Tryz.underlying1, sz1, by1, ze1, Tryz.underlying3, sz3, by3, ze3, Tryz.underlying4, sz4, by4, ze4, Tryz.underlying9, sz9, by9, ze9, Tryz.underlying23, sz23, by23, ze23, Tryz.underlying37, sz37, by37, ze37, fa37_0, fa37_1, fa37_2, fa37_3, fa37_4, Tryz.underlying66, sz66, by66, ze66, Tryz.underlying94, sz94, by94, ze94, Tryz.underlying95, sz95, by95, ze95, Tryz.underlying99, sz99, by99, ze99, plan0, go_sem, ↓reduceIte, reduceCtorEq, Nat.reduceEqDiff, Nat.reduceLT, ↓all_qV, Int.reduceToNat, Int.reduceLT, Int.reduceLE, Nat.reduceAdd, Nat.reduceLeDiff, Nat.reduceMul, ev_callG, gcallK_b, gcallK_w, callGc_true, callGc_false]
  exact ⟨⟨by omega, hop⟩, isort_length _ _⟩
noncomputable def Ψs2 (g : FuncId) : Option ESpec := putΨ Ψs1 50 (psiPut 5 pdqP) g
theorem hΨs2 : ETab GG Ψs2 := hΨs1.put w_pdqS psiPut_mono
def sortP : List PV → List PV → Prop × List PV
  | es, [.fn f []] => (f = 28 ∧ es.length ≤ 12 ∧ (∀ e, e ∈ es → isOp e), isort ltP es)
  | es, _ => (False, es)
theorem sortP_eq {es : List PV} {f : FuncId} : sortP es [.fn f []] = (f = 28 ∧ es.length ≤ 12 ∧ (∀ e, e ∈ es → isOp e), isort ltP es) := rfl
theorem sortP_inv {es args : List PV} (h : (sortP es args).1) : args = [.fn 28 []] ∧ es.length ≤ 12 ∧ (∀ e, e ∈ es → isOp e) := by
  unfold sortP at h
  split at h
  · obtain ⟨rfl, h1, h2⟩ := h; exact ⟨rfl, h1, h2⟩
  · exact h.elim
theorem k_sortS_51 {args : List PV} : U4 51 args = bitsS args := rfl
theorem w_sortS : ESound GG 27 (psiPut 5 sortP) := by
  refine ESound.of_put (C := cxQ Tryz.prog U4 noΘ Ψs2 [] [9001] 14) (T := plan0) Tryz.func27 rfl rfl rfl rfl rfl (Fit.all (G := GG) hU4 hnoΘ hΨs2 mixed) (fun es args h hw => ?_)
  obtain ⟨rfl, hl, hop⟩ := sortP_inv h
  refine ⟨by simp [cxQ], ?_⟩
  have w1 : IntKind.u64.wrap (es.length : Int) = es.length := by simp [IntKind.wrap, IntKind.bits, IntKind.signed]; omega
  simp only [w1, k_sortS_51, bitsS, on_w_eq, Ψs2, Ψs1, psiPut_eq, pdqP_eq, sortP_eq, FinPut_n, FinPut_r, Tryz.f27, argL, Tryz.underlying3, sz3, by3, ze3, Tryz.underlying9, sz9, by9, ze9, Tryz.underlying23, sz23, by23, ze23, Tryz.underlying37, sz37, by37, ze37, fa37_0, fa37_1, fa37_2, fa37_3, fa37_4, Tryz.underlying66, sz66, by66, ze66, Tryz.underlying87, sz87, by87, ze87, plan0, go_sem, ↓reduceIte, reduceCtorEq, Nat.reduceEqDiff, Nat.reduceLT, ↓all_qV, Int.reduceToNat, Int.reduceLT, Int.reduceLE, Nat.reduceAdd, Nat.reduceLeDiff, Nat.reduceMul, ev_callG, gcallK_b, gcallK_w, callGc_true, callGc_false]
  exact ⟨⟨by omega, by omega⟩, ⟨hl, hop⟩, isort_length _ _⟩
noncomputable def Ψs3 (g : FuncId) : Option ESpec := putΨ Ψs2 27 (psiPut 5 sortP) g
theorem hΨs3 : ETab GG Ψs3 := hΨs2.put w_sortS psiPut_mono
def planC : Plan := { keep := fun _ => none, cut := fun _ => false, stop := fun i => i == 1 }
noncomputable def cloneQ : PSpec := on_l (fun es => (∀ e, e ∈ es → e.width = 5 ∧ e.cells.all PV.one = true) ∧ es.length ≤ 1000000) (fun es => .sl es)
theorem w_cloneS : ESound GG 26 (psiRow 5 cloneQ) := by
  refine ESound.of_row (C := cxQ Tryz.prog U4 noΘ noΨ [5] [] 8) (T := planC) (t := 2) (k := 5) (by decide) Tryz.func26 rfl rfl rfl rfl (Fit.all (G := GG) hU4 hnoΘ hnoΨ mixed) (fun args h => ?_)
  unfold cloneQ at h
  obtain ⟨es, rfl, he, hl⟩ := on_l_inv h
  refine ⟨by simp [cxQ], ?_⟩
  simp only [cloneQ, on_l_eq, Tryz.f26, argL, Tryz.underlying3, sz3, by3, ze3, Tryz.underlying4, sz4, by4, ze4, Tryz.underlying9, sz9, by9, ze9, Tryz.underlying23, sz23, by23, ze23, Tryz.underlying37, sz37, by37, ze37, fa37_0, fa37_1, fa37_2, fa37_3, fa37_4, planC, FinRow, go_sem, ↓reduceIte, reduceCtorEq, Nat.reduceEqDiff, Nat.reduceLT, ↓all_qV, Int.reduceToNat, Int.reduceLT, Int.reduceLE, Nat.reduceAdd, Nat.reduceLeDiff, Nat.reduceMul, ev_callG, gcallK_b, gcallK_w, callGc_true, callGc_false]
  refine AWp.nilq (e := 37) rfl Tryz.underlying23 (by decide) (by decide) (fun b hb => ?_)
  refine wpc_sound (T := plan0) _ _ _ ?_
  simp only [upd_look, ev_rowlit0, Nat.reduceBEq, Tryz.underlying3, sz3, by3, ze3, Tryz.underlying4, sz4, by4, ze4, Tryz.underlying9, sz9, by9, ze9, Tryz.underlying23, sz23, by23, ze23, Tryz.underlying37, sz37, by37, ze37, fa37_0, fa37_1, fa37_2, fa37_3, fa37_4, FinRow, rowIs, plan0, planC, go_sem, ↓reduceIte, reduceCtorEq, Nat.reduceEqDiff, Nat.reduceLT, ↓all_qV, Int.reduceToNat, Int.reduceLT, Int.reduceLE, Nat.reduceAdd, Nat.reduceLeDiff, Nat.reduceMul, ev_callG, gcallK_b, gcallK_w, callGc_true, callGc_false]
  exact ⟨fun h9 => by rw [hb h9], fun _ => ⟨rfl, fun e he' => (he e he').1, by omega, by simp only [maxLen]; omega, Nat.le_refl _, by rw [List.take_length]⟩⟩
noncomputable def Ψs4 (g : FuncId) : Option ESpec := putΨ Ψs3 26 (psiRow 5 cloneQ) g
theorem hΨs4 : ETab GG Ψs4 := hΨs3.put w_cloneS psiRow_mono
end Go.AM
