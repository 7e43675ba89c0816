/-
  A part of a proof: see the last text of this claim for what is proved.
-/
import Derived.Test.YtamiheckgglgaaaDoorB4a
import Derived.Test.YtamiheckgglgaaaDoorZMa
/-! bids.Sort: the stable sort of short lists -/
namespace Go.AM
open Go Go.Proofs Go.IntWalk
set_option maxRecDepth 100000
set_option maxHeartbeats 1000000
set_option linter.unusedSimpArgs false
set_option linter.unusedVariables false
theorem neg1 : ((-1 : Int)).toNat = 0 := rfl
theorem getD_snoc2 {q t : List PV} {x y : PV} : (q.reverse ++ y :: x :: t).getD (q.length + 1) default = x := by
  simp [List.getD_eq_getElem?_getD, List.getElem?_append]
theorem getD_snoc1 {q t : List PV} {y : PV} : (q.reverse ++ y :: t).getD q.length default = y := by
  simp [List.getD_eq_getElem?_getD, List.getElem?_append]
theorem getD_set_ne {l : List PV} {i j : Nat} {v : PV} (h : i ≠ j) : (l.set i v).getD j default = l.getD j default := by
  simp [List.getD_eq_getElem?_getD, List.getElem?_set, h]
theorem swap_row {q t : List PV} {x y : PV} : ((q.reverse ++ y :: x :: t).set (q.length + 1) y).set q.length x = q.reverse ++ x :: y :: t := by
  rw [List.set_append, if_neg (by simp), List.set_append, if_neg (by simp)]
  simp
def ltQ (e d : PV) : Bool := decide (cmpB (bidOf e) (bidOf d) < 0)
def ins2P : List PV → List PV → Prop × List PV
  | es, [.int .i64 a, .int .i64 b, .fn f []] => (a = 0 ∧ b = es.length ∧ f = 24 ∧ es.length ≤ 1000000 ∧ (∀ e, e ∈ es → isBid e), isort ltQ es)
  | es, _ => (False, es)
theorem ins2P_eq {es : List PV} {a b : Int} {f : FuncId} : ins2P es [.int .i64 a, .int .i64 b, .fn f []] = (a = 0 ∧ b = es.length ∧ f = 24 ∧ es.length ≤ 1000000 ∧ (∀ e, e ∈ es → isBid e), isort ltQ es) := rfl
theorem ins2P_inv {es args : List PV} (h : (ins2P es args).1) : args = [.int .i64 0, .int .i64 es.length, .fn 24 []] ∧ es.length ≤ 1000000 ∧ (∀ e, e ∈ es → isBid e) := by
  unfold ins2P at h
  split at h
  · obtain ⟨rfl, rfl, rfl, h1, h2⟩ := h; exact ⟨rfl, h1, h2⟩
  · exact h.elim

theorem k_cmp {args : List PV} : B5 24 args = compareS args := rfl
theorem w_ins2S : ESound GG 53 (psiPut 5 ins2P) := by
  refine ESound.of_put (C := cxQ Tryd.prog B5 noΘ noΨ [] [9001] 53) (T := plan0) Tryd.func53 rfl rfl rfl rfl rfl (Fit.all (G := GG) hB5 hnoΘ hnoΨ mixed) (fun es args h hw => ?_)
  obtain ⟨rfl, hl, hop⟩ := ins2P_inv h
  refine ⟨by simp [cxQ], ?_⟩
  have w1 : IntKind.i64.wrap (0 + 1) = 1 := by decide
  simp only [w1, ins2P_eq, Tryd.f53, argL, Tryd.underlying3, sz3, by3, ze3, Tryd.underlying4, sz4, by4, ze4, Tryd.underlying25, sz25, by25, ze25, Tryd.underlying28, sz28, by28, ze28, fa28_0, fa28_1, fa28_2, fa28_3, fa28_4, Tryd.underlying49, sz49, by49, ze49, plan0, go_sem, ↓reduceIte, reduceCtorEq, Nat.reduceEqDiff, Nat.reduceLT, ↓all_qV, Int.reduceToNat, Int.reduceLT, Int.reduceLE, Nat.reduceAdd, Nat.reduceLeDiff, Nat.reduceMul, ev_callG, gcallK_b, gcallK_w, callGc_true, callGc_false]
  refine AWp.loop (T := plan0) (α := Nat) (fun i => ([(0, .rs 9001 es.length), (1, .pv (.int .i64 0)), (2, .pv (.int .i64 es.length)), (3, .pv (.fn 24 [])), (8, .pv (.int .i64 i))], [(9001, .row 5 ((rsort ltQ (es.take i)).reverse ++ es.drop i))]))
    (fun i => 1 ≤ i ∧ (i ≤ es.length ∨ i = 1)) (fun i => es.length - i)
    ⟨1, ⟨Nat.le_refl _, .inr rfl⟩, ⟨by simp [fitR, look], ?_, rfl, rfl, rfl⟩⟩ ?_
  · cases es with
    | nil => simp [fitH, hget, rsort]
    | cons e r => simp [fitH, hget, rsort, rins]
  rintro i ⟨h1, h2⟩
  have hi1 : IntKind.i64.wrap ((i : Int) + 1) = ((i + 1 : Nat) : Int) := by rw [i64_in _ (by omega)]; omega
  by_cases hlt : i < es.length
  · have c0 : decide ((i : Int) < (es.length : Int)) = true := by simp; omega
    have hx := hop _ (getD_mem hlt)
    have hd : es.drop i = es.getD i default :: es.drop (i + 1) := by rw [List.drop_eq_getElem_cons hlt]; simp [List.getD_eq_getElem?_getD, hlt]
    have ht := take_succ_getD hlt
    obtain ⟨x, hxe⟩ : ∃ x, es.getD i default = x := ⟨_, rfl⟩
    rw [hxe] at hx hd ht
    have hrp : (rsort ltQ (es.take i)).length = i := by rw [rsort_length, List.length_take]; omega
    have hrm : ∀ e, e ∈ rsort ltQ (es.take i) → isBid e := fun e he => hop e (List.mem_of_mem_take ((rsort_perm ltQ _).mem_iff.1 he))
    have hst : rsort ltQ (es.take (i + 1)) = rins ltQ x (rsort ltQ (es.take i)) := by rw [ht, rsort_snoc]
    rw [hd]
    generalize rsort ltQ (es.take i) = rp at hrp hrm hst ⊢
    have hdl : (es.drop (i + 1)).length = es.length - (i + 1) := by simp
    simp only [c0, Tryd.underlying3, sz3, by3, ze3, Tryd.underlying4, sz4, by4, ze4, Tryd.underlying25, sz25, by25, ze25, Tryd.underlying28, sz28, by28, ze28, fa28_0, fa28_1, fa28_2, fa28_3, fa28_4, Tryd.underlying49, sz49, by49, ze49, plan0, go_sem, ↓reduceIte, reduceCtorEq, Nat.reduceEqDiff, Nat.reduceLT, ↓all_qV, Int.reduceToNat, Int.reduceLT, Int.reduceLE, Nat.reduceAdd, Nat.reduceLeDiff, Nat.reduceMul, ev_callG, gcallK_b, gcallK_w, callGc_true, callGc_false]
    refine AWp.loop (T := plan0) (α := List PV × List PV) (fun s => ([(0, .rs 9001 es.length), (1, .pv (.int .i64 0)), (2, .pv (.int .i64 es.length)), (3, .pv (.fn 24 [])), (8, .pv (.int .i64 i)), (9, .pv (.int .i64 s.1.length))], [(9001, .row 5 (s.1.reverse ++ x :: (s.2 ++ es.drop (i + 1))))]))
      (fun s => s.1.length + s.2.length = i ∧ rins ltQ x rp = s.2.reverse ++ rins ltQ x s.1 ∧ ∀ e, e ∈ s.1 → isBid e) (fun s => s.1.length)
      ⟨(rp, []), ⟨by simpa using hrp, by simp, hrm⟩, ⟨by simp [fitR, look, hrp], by simp [fitH, hget], rfl, rfl, rfl⟩⟩ ?_
    rintro ⟨q, m⟩ ⟨g1, g2, g3⟩
    simp only at g1 g2 g3
    obtain ⟨⟨o, c, k, yr, a⟩, rfl⟩ := hx
    cases q with
    | nil =>
      have e0 : ((([] : List PV).reverse ++ bidV ⟨o, c, k, yr, a⟩ :: (m ++ es.drop (i + 1)))).getD 0 default = bidV ⟨o, c, k, yr, a⟩ := by simp
      have hR0 : ([] : List PV).reverse ++ bidV ⟨o, c, k, yr, a⟩ :: (m ++ es.drop (i + 1)) = (rsort ltQ (es.take (i + 1))).reverse ++ es.drop (i + 1) := by
        rw [hst, g2]; simp [rins]
      have w2 : IntKind.i64.wrap (0 - 1) = -1 := by decide
      generalize ([] : List PV).reverse ++ bidV ⟨o, c, k, yr, a⟩ :: (m ++ es.drop (i + 1)) = R at e0 hR0 ⊢
      simp only [bidV] at e0
      simp only [decide_false, e0, w2, neg1, hi1, List.take_succ_cons, List.take_nil, callTGK, ev_callTG, true_and, k_cmp, compareS, on_pp_eq, Tryd.underlying3, sz3, by3, ze3, Tryd.underlying4, sz4, by4, ze4, Tryd.underlying25, sz25, by25, ze25, Tryd.underlying28, sz28, by28, ze28, fa28_0, fa28_1, fa28_2, fa28_3, fa28_4, Tryd.underlying49, sz49, by49, ze49, plan0, go_sem, ↓reduceIte, reduceCtorEq, Nat.reduceEqDiff, Nat.reduceLT, ↓all_qV, Int.reduceToNat, Int.reduceLT, Int.reduceLE, Nat.reduceAdd, Nat.reduceLeDiff, Nat.reduceMul, ev_callG, gcallK_b, gcallK_w, callGc_true, callGc_false]
      exact ⟨by kernel_rfl, i + 1, ⟨by omega, by omega⟩, by omega, ⟨by simp [fitR, look], ⟨congrArg (fun r => some (ABlk.row 5 r)) hR0, trivial⟩, rfl, rfl, rfl⟩⟩
    | cons y q =>
      have c1 : decide ((0 : Int) < ((q.length + 1 : Nat) : Int)) = true := by simp
      simp only [List.length_cons] at g1
      have hj1 : IntKind.i64.wrap (((q.length + 1 : Nat) : Int) - 1) = (q.length : Int) := by rw [i64_in _ (by omega)]; omega
      have hy := g3 y List.mem_cons_self
      obtain ⟨⟨o', c', k', yr', a'⟩, rfl⟩ := hy
      have hro : (bidV ⟨o', c', k', yr', a'⟩ :: q).reverse ++ bidV ⟨o, c, k, yr, a⟩ :: (m ++ es.drop (i + 1)) = q.reverse ++ bidV ⟨o', c', k', yr', a'⟩ :: bidV ⟨o, c, k, yr, a⟩ :: (m ++ es.drop (i + 1)) := by simp
      have e1 := getD_snoc2 (q := q) (x := bidV ⟨o, c, k, yr, a⟩) (y := bidV ⟨o', c', k', yr', a'⟩) (t := m ++ es.drop (i + 1))
      have e2 := getD_snoc1 (q := q) (y := bidV ⟨o', c', k', yr', a'⟩) (t := bidV ⟨o, c, k, yr, a⟩ :: (m ++ es.drop (i + 1)))
      have e3 := swap_row (q := q) (x := bidV ⟨o, c, k, yr, a⟩) (y := bidV ⟨o', c', k', yr', a'⟩) (t := m ++ es.drop (i + 1))
      have hRl : (q.reverse ++ bidV ⟨o', c', k', yr', a'⟩ :: bidV ⟨o, c, k, yr, a⟩ :: (m ++ es.drop (i + 1))).length = es.length := by
        simp only [List.length_append, List.length_reverse, List.length_cons, hdl] at g1 ⊢; omega
      have hend : ltQ (bidV ⟨o, c, k, yr, a⟩) (bidV ⟨o', c', k', yr', a'⟩) = false → (bidV ⟨o', c', k', yr', a'⟩ :: q).reverse ++ bidV ⟨o, c, k, yr, a⟩ :: (m ++ es.drop (i + 1)) = (rsort ltQ (es.take (i + 1))).reverse ++ es.drop (i + 1) := by
        intro h9
        rw [hst, g2]; simp [rins, h9]
      have hgo : ltQ (bidV ⟨o, c, k, yr, a⟩) (bidV ⟨o', c', k', yr', a'⟩) = true → rins ltQ (bidV ⟨o, c, k, yr, a⟩) rp = (bidV ⟨o', c', k', yr', a'⟩ :: m).reverse ++ rins ltQ (bidV ⟨o, c, k, yr, a⟩) q := by
        intro h9
        rw [g2]; simp [rins, h9]
      rw [hro] at hend ⊢
      have hlt2 : ltQ (bidV ⟨o, c, k, yr, a⟩) (bidV ⟨o', c', k', yr', a'⟩) = decide (cmpB ⟨o, c, k, yr, a⟩ ⟨o', c', k', yr', a'⟩ < 0) := rfl
      rw [hlt2] at hend hgo
      generalize q.reverse ++ bidV ⟨o', c', k', yr', a'⟩ :: bidV ⟨o, c, k, yr, a⟩ :: (m ++ es.drop (i + 1)) = R at e1 e2 e3 hRl hend ⊢
      simp only [bidV] at e1 e2
      have e4 : ∀ v, (R.set (q.length + 1) v).getD q.length default = R.getD q.length default := fun v => getD_set_ne (by omega)
      simp only [c1, hj1, hi1, e1, e2, e4, bidOf_agg, List.take_succ_cons, List.take_nil, boxP, putP, PV.nth, callTGK, ev_callTG, true_and, k_cmp, compareS, on_pp_eq, Tryd.underlying3, sz3, by3, ze3, Tryd.underlying4, sz4, by4, ze4, Tryd.underlying25, sz25, by25, ze25, Tryd.underlying28, sz28, by28, ze28, fa28_0, fa28_1, fa28_2, fa28_3, fa28_4, Tryd.underlying49, sz49, by49, ze49, plan0, go_sem, ↓reduceIte, reduceCtorEq, Nat.reduceEqDiff, Nat.reduceLT, ↓all_qV, Int.reduceToNat, Int.reduceLT, Int.reduceLE, Nat.reduceAdd, Nat.reduceLeDiff, Nat.reduceMul, ev_callG, gcallK_b, gcallK_w, callGc_true, callGc_false]
      have i1 : isBid (.agg [.int .i64 o, .int .i64 c, .int .i64 k, .int .i64 yr, .bool a]) := ⟨⟨o, c, k, yr, a⟩, rfl⟩
      have i2 : isBid (.agg [.int .i64 o', .int .i64 c', .int .i64 k', .int .i64 yr', .bool a']) := ⟨⟨o', c', k', yr', a'⟩, rfl⟩
      refine ⟨by kernel_rfl, ⟨by omega, by omega⟩, by omega, ⟨by omega, by omega⟩, by omega, ⟨i1, i2⟩, fun h9 => ⟨by kernel_rfl, ⟨by omega, by omega⟩, by omega, ⟨by omega, by omega⟩, by omega, ⟨by omega, by omega⟩, by omega, ⟨by omega, by omega⟩, by rw [List.length_set]; omega, (q, bidV ⟨o', c', k', yr', a'⟩ :: m), ⟨by simp only [List.length_cons]; omega, hgo h9, fun e he => g3 e (List.mem_cons_of_mem _ he)⟩, by simp only; omega, ⟨by simp [fitR, look], ⟨congrArg (fun r => some (ABlk.row 5 r)) e3, trivial⟩, rfl, rfl, rfl⟩⟩,
        fun h9 => ⟨i + 1, ⟨by omega, by omega⟩, by omega, ⟨by simp [fitR, look], ⟨congrArg (fun r => some (ABlk.row 5 r)) (hend h9), trivial⟩, rfl, rfl, rfl⟩⟩⟩
  · have c0 : decide ((i : Int) < (es.length : Int)) = false := by simp; omega
    simp only [c0, Tryd.underlying3, sz3, by3, ze3, Tryd.underlying4, sz4, by4, ze4, Tryd.underlying25, sz25, by25, ze25, Tryd.underlying28, sz28, by28, ze28, fa28_0, fa28_1, fa28_2, fa28_3, fa28_4, Tryd.underlying49, sz49, by49, ze49, plan0, FinPut_n, FinPut_r, go_sem, ↓reduceIte, reduceCtorEq, Nat.reduceEqDiff, Nat.reduceLT, ↓all_qV, Int.reduceToNat, Int.reduceLT, Int.reduceLE, Nat.reduceAdd, Nat.reduceLeDiff, Nat.reduceMul, ev_callG, gcallK_b, gcallK_w, callGc_true, callGc_false]
    have : es.take i = es := List.take_of_length_le (by omega)
    have h3 : es.drop i = [] := List.drop_eq_nil_of_le (by omega)
    rw [this, h3]
    simp [isort]
noncomputable def Ψt1 (g : FuncId) : Option ESpec := putΨ noΨ 53 (psiPut 5 ins2P) g
theorem hΨt1 : ETab GG Ψt1 := hnoΨ.put w_ins2S psiPut_mono
def stabP : List PV → List PV → Prop × List PV
  | es, [.int .i64 b, .fn f []] => (b = es.length ∧ f = 24 ∧ es.length ≤ 12 ∧ (∀ e, e ∈ es → isBid e), isort ltQ es)
  | es, _ => (False, es)
theorem stabP_eq {es : List PV} {b : Int} {f : FuncId} : stabP es [.int .i64 b, .fn f []] = (b = es.length ∧ f = 24 ∧ es.length ≤ 12 ∧ (∀ e, e ∈ es → isBid e), isort ltQ es) := rfl
theorem stabP_inv {es args : List PV} (h : (stabP es args).1) : args = [.int .i64 es.length, .fn 24 []] ∧ es.length ≤ 12 ∧ (∀ e, e ∈ es → isBid e) := by
  unfold stabP at h
  split at h
  · obtain ⟨rfl, rfl, h1, h2⟩ := h; exact ⟨rfl, h1, h2⟩
  · exact h.elim
theorem w_stabS : ESound GG 36 (psiPut 5 stabP) := by
  refine ESound.of_put (C := cxQ Tryd.prog B5 noΘ Ψt1 [] [9001] 63) (T := plan0) Tryd.func36 rfl rfl rfl rfl rfl (Fit.all (G := GG) hB5 hnoΘ hΨt1 mixed) (fun es args h hw => ?_)
  obtain ⟨rfl, hl, hop⟩ := stabP_inv h
  refine ⟨by simp [cxQ], ?_⟩
  simp only [stabP_eq, Tryd.f36, argL, Tryd.underlying3, sz3, by3, ze3, Tryd.underlying4, sz4, by4, ze4, Tryd.underlying25, sz25, by25, ze25, Tryd.underlying28, sz28, by28, ze28, fa28_0, fa28_1, fa28_2, fa28_3, fa28_4, Tryd.underlying49, sz49, by49, ze49, plan0, go_sem, ↓reduceIte, reduceCtorEq, Nat.reduceEqDiff, Nat.reduceLT, ↓all_qV, Int.reduceToNat, Int.reduceLT, Int.reduceLE, Nat.reduceAdd, Nat.reduceLeDiff, Nat.reduceMul, ev_callG, gcallK_b, gcallK_w, callGc_true, callGc_false]
  refine AWp.loop (T := plan0) (α := Unit) (fun _ => ([(0, .rs 9001 es.length), (1, .pv (.int .i64 es.length)), (2, .pv (.fn 24 [])), (6, .pv (.int .i64 20)), (7, .pv (.int .i64 0)), (8, .pv (.int .i64 20))], [(9001, .row 5 es)]))
    (fun _ => True) (fun _ => 0) ⟨(), trivial, ⟨by simp [fitR, look], by simp [fitH, hget], rfl, rfl, rfl⟩⟩ ?_
  rintro _ _
  have c0 : decide ((20 : Int) ≤ (es.length : Int)) = false := by simp; omega
  simp only [c0, Ψt1, psiPut_eq, ins2P_eq, FinPut_n, FinPut_r, Tryd.underlying3, sz3, by3, ze3, Tryd.underlying4, sz4, by4, ze4, Tryd.underlying25, sz25, by25, ze25, Tryd.underlying28, sz28, by28, ze28, fa28_0, fa28_1, fa28_2, fa28_3, fa28_4, Tryd.underlying49, sz49, by49, ze49, plan0, go_sem, ↓reduceIte, reduceCtorEq, Nat.reduceEqDiff, Nat.reduceLT, ↓all_qV, Int.reduceToNat, Int.reduceLT, Int.reduceLE, Nat.reduceAdd, Nat.reduceLeDiff, Nat.reduceMul, ev_callG, gcallK_b, gcallK_w, callGc_true, callGc_false]
  refine ⟨⟨by omega, hop⟩, isort_length _ _, ?_⟩
  have hlen := isort_length ltQ es
  refine AWp.loop (T := plan0) (α := Unit) (fun _ => ([(0, .rs 9001 es.length), (1, .pv (.int .i64 es.length)), (2, .pv (.fn 24 [])), (6, .pv (.int .i64 20))], [(9001, .row 5 (isort ltQ es))]))
    (fun _ => True) (fun _ => 0) ⟨(), trivial, ⟨by simp [fitR, look], by simp [fitH, hget], rfl, rfl, rfl⟩⟩ ?_
  rintro _ _
  have c1 : decide ((20 : Int) < (es.length : Int)) = false := by simp; omega
  simp only [c1, Ψt1, psiPut_eq, ins2P_eq, FinPut_n, FinPut_r, Tryd.underlying3, sz3, by3, ze3, Tryd.underlying4, sz4, by4, ze4, Tryd.underlying25, sz25, by25, ze25, Tryd.underlying28, sz28, by28, ze28, fa28_0, fa28_1, fa28_2, fa28_3, fa28_4, Tryd.underlying49, sz49, by49, ze49, plan0, go_sem, ↓reduceIte, reduceCtorEq, Nat.reduceEqDiff, Nat.reduceLT, ↓all_qV, Int.reduceToNat, Int.reduceLT, Int.reduceLE, Nat.reduceAdd, Nat.reduceLeDiff, Nat.reduceMul, ev_callG, gcallK_b, gcallK_w, callGc_true, callGc_false]
noncomputable def Ψt2 (g : FuncId) : Option ESpec := putΨ Ψt1 36 (psiPut 5 stabP) g
theorem hΨt2 : ETab GG Ψt2 := hΨt1.put w_stabS psiPut_mono
def sort2P : List PV → List PV → Prop × List PV
  | es, [.fn f []] => (f = 24 ∧ es.length ≤ 12 ∧ (∀ e, e ∈ es → isBid e), isort ltQ es)
  | es, _ => (False, es)
theorem sort2P_eq {es : List PV} {f : FuncId} : sort2P es [.fn f []] = (f = 24 ∧ es.length ≤ 12 ∧ (∀ e, e ∈ es → isBid e), isort ltQ es) := rfl
theorem sort2P_inv {es args : List PV} (h : (sort2P es args).1) : args = [.fn 24 []] ∧ es.length ≤ 12 ∧ (∀ e, e ∈ es → isBid e) := by
  unfold sort2P at h
  split at h
  · obtain ⟨rfl, h1, h2⟩ := h; exact ⟨rfl, h1, h2⟩
  · exact h.elim
theorem w_sort2S : ESound GG 23 (psiPut 5 sort2P) := by
  refine ESound.of_put (C := cxQ Tryd.prog B5 noΘ Ψt2 [] [9001] 9) (T := plan0) Tryd.func23 rfl rfl rfl rfl rfl (Fit.all (G := GG) hB5 hnoΘ hΨt2 mixed) (fun es args h hw => ?_)
  obtain ⟨rfl, hl, hop⟩ := sort2P_inv h
  refine ⟨by simp [cxQ], ?_⟩
  simp only [Ψt2, Ψt1, psiPut_eq, stabP_eq, sort2P_eq, FinPut_n, FinPut_r, Tryd.f23, argL, Tryd.underlying3, sz3, by3, ze3, Tryd.underlying4, sz4, by4, ze4, Tryd.underlying25, sz25, by25, ze25, Tryd.underlying28, sz28, by28, ze28, fa28_0, fa28_1, fa28_2, fa28_3, fa28_4, Tryd.underlying49, sz49, by49, ze49, plan0, go_sem, ↓reduceIte, reduceCtorEq, Nat.reduceEqDiff, Nat.reduceLT, ↓all_qV, Int.reduceToNat, Int.reduceLT, Int.reduceLE, Nat.reduceAdd, Nat.reduceLeDiff, Nat.reduceMul, ev_callG, gcallK_b, gcallK_w, callGc_true, callGc_false]
  exact ⟨⟨hl, hop⟩, isort_length _ _⟩
noncomputable def Ψt3 (g : FuncId) : Option ESpec := putΨ Ψt2 23 (psiPut 5 sort2P) g
theorem hΨt3 : ETab GG Ψt3 := hΨt2.put w_sort2S psiPut_mono
/-! ### slices.Clone -/
def planC : Plan := { keep := fun _ => none, cut := fun _ => false, stop := fun i => i == 1 }
noncomputable def cloneQ : PSpec := on_l (fun es => (∀ e, e ∈ es → e.width = 5 ∧ e.cells.all PV.one = true) ∧ es.length ≤ 1000000) (fun es => .sl es)
theorem w_cloneS : ESound GG 22 (psiRow 5 cloneQ) := by
  refine ESound.of_row (C := cxQ Tryd.prog B5 noΘ noΨ [5] [] 8) (T := planC) (t := 2) (k := 5) (by decide) Tryd.func22 rfl rfl rfl rfl (Fit.all (G := GG) hB5 hnoΘ hnoΨ mixed) (fun args h => ?_)
  unfold cloneQ at h
  obtain ⟨es, rfl, he, hl⟩ := on_l_inv h
  refine ⟨by simp [cxQ], ?_⟩
  simp only [cloneQ, on_l_eq, Tryd.f22, argL, Tryd.underlying3, sz3, by3, ze3, Tryd.underlying4, sz4, by4, ze4, Tryd.underlying25, sz25, by25, ze25, Tryd.underlying28, sz28, by28, ze28, fa28_0, fa28_1, fa28_2, fa28_3, fa28_4, planC, FinRow, go_sem, ↓reduceIte, reduceCtorEq, Nat.reduceEqDiff, Nat.reduceLT, ↓all_qV, Int.reduceToNat, Int.reduceLT, Int.reduceLE, Nat.reduceAdd, Nat.reduceLeDiff, Nat.reduceMul, ev_callG, gcallK_b, gcallK_w, callGc_true, callGc_false]
  refine AWp.nilq (e := 28) rfl Tryd.underlying25 (by decide) (by decide) (fun b hb => ?_)
  refine wpc_sound (T := plan0) _ _ _ ?_
  simp only [upd_look, ev_rowlit0, Nat.reduceBEq, Tryd.underlying3, sz3, by3, ze3, Tryd.underlying4, sz4, by4, ze4, Tryd.underlying25, sz25, by25, ze25, Tryd.underlying28, sz28, by28, ze28, fa28_0, fa28_1, fa28_2, fa28_3, fa28_4, FinRow, rowIs, plan0, planC, go_sem, ↓reduceIte, reduceCtorEq, Nat.reduceEqDiff, Nat.reduceLT, ↓all_qV, Int.reduceToNat, Int.reduceLT, Int.reduceLE, Nat.reduceAdd, Nat.reduceLeDiff, Nat.reduceMul, ev_callG, gcallK_b, gcallK_w, callGc_true, callGc_false]
  exact ⟨fun h9 => by rw [hb h9], fun _ => ⟨rfl, fun e he' => (he e he').1, by omega, by simp only [maxLen]; omega, Nat.le_refl _, by rw [List.take_length]⟩⟩
noncomputable def Ψt4 (g : FuncId) : Option ESpec := putΨ Ψt3 22 (psiRow 5 cloneQ) g
theorem hΨt4 : ETab GG Ψt4 := hΨt3.put w_cloneS psiRow_mono
end Go.AM
