/-
  A part of a proof: see the last text of this claim for what is proved.
-/
import Derived.Test.YtdbnifmcikljdaaGreatDoorSB
import Derived.Test.YtdbnifmcikljdaaGreatDoorZMa
namespace Go.AM
open Go Go.Proofs Go.IntWalk
set_option maxRecDepth 100000
set_option maxHeartbeats 4000000
set_option linter.unusedSimpArgs false
set_option linter.unusedVariables false
def insR (es : List PV) (a b : Nat) : List PV := seg es 0 a ++ (ssort ltQ (seg es a b) ++ seg es b es.length)
theorem insR_length {es : List PV} {a b : Nat} (h1 : a ≤ b) (h2 : b ≤ es.length) : (insR es a b).length = es.length := by
  unfold insR
  rw [List.length_append, List.length_append, ssort_length, seg_length (by omega), seg_length (by omega), seg_length (by omega)]; omega
def insQ : List PV → List PV → Prop × List PV
  | es, [.int .i64 a, .int .i64 b, .fn f []] => ((0 ≤ a ∧ a ≤ b ∧ b ≤ es.length) ∧ f = 44 ∧ es.length ≤ 1000000 ∧ (∀ e, e ∈ es → isE e), insR es a.toNat b.toNat)
  | es, _ => (False, es)
theorem insQ_eq {es : List PV} {a b : Int} {f : FuncId} : insQ es [.int .i64 a, .int .i64 b, .fn f []] = ((0 ≤ a ∧ a ≤ b ∧ b ≤ es.length) ∧ f = 44 ∧ es.length ≤ 1000000 ∧ (∀ e, e ∈ es → isE e), insR es a.toNat b.toNat) := rfl
theorem insQ_inv {es args : List PV} (h : (insQ es args).1) : ∃ a b : Nat, args = [.int .i64 a, .int .i64 b, .fn 44 []] ∧ (a ≤ b ∧ b ≤ es.length) ∧ es.length ≤ 1000000 ∧ (∀ e, e ∈ es → isE e) := by
  unfold insQ at h
  split at h
  · obtain ⟨⟨h1, h2, h3⟩, rfl, h5, h6⟩ := h
    rename_i a b
    obtain ⟨a, rfl⟩ := Int.eq_ofNat_of_zero_le h1
    obtain ⟨b, rfl⟩ := Int.eq_ofNat_of_zero_le (show 0 ≤ b by omega)
    exact ⟨a, b, rfl, by omega, h5, h6⟩
  · exact h.elim
def rowI (P q m X R : List PV) (x : PV) : List PV := P ++ (q.reverse ++ x :: (m ++ (X ++ R)))
theorem rowI_len {P q m X R : List PV} {x : PV} : (rowI P q m X R x).length = P.length + (q.length + (1 + (m.length + (X.length + R.length)))) := by
  unfold rowI
  simp only [List.length_append, List.length_reverse, List.length_cons]; omega
theorem rowI_x {P q m X R : List PV} {x : PV} : (rowI P q m X R x).getD (P.length + q.length) default = x := by
  unfold rowI
  rw [List.getD_eq_getElem?_getD, List.getElem?_append_right (by omega), List.getElem?_append_right (by rw [List.length_reverse]; omega)]
  rw [List.length_reverse, show P.length + q.length - P.length - q.length = 0 by omega]; rfl
theorem rowI_y {P q m X R : List PV} {x y : PV} : (rowI P (y :: q) m X R x).getD (P.length + q.length) default = y := by
  unfold rowI
  rw [List.reverse_cons, List.append_assoc, List.singleton_append, List.getD_eq_getElem?_getD, List.getElem?_append_right (by omega), List.getElem?_append_right (by rw [List.length_reverse]; omega)]
  rw [List.length_reverse, show P.length + q.length - P.length - q.length = 0 by omega]; rfl
theorem rowI_swap {P q m X R : List PV} {x y : PV} : ((rowI P (y :: q) m X R x).set (P.length + (q.length + 1)) y).set (P.length + q.length) x = rowI P q (y :: m) X R x := by
  unfold rowI
  rw [List.reverse_cons, List.append_assoc, List.singleton_append]
  rw [List.set_append, if_neg (by first | omega | (rw [List.length_reverse]; omega)), List.set_append, if_neg (by first | omega | (rw [List.length_reverse]; omega)), List.set_append, if_neg (by first | omega | (rw [List.length_reverse]; omega)), List.set_append, if_neg (by first | omega | (rw [List.length_reverse]; omega))]
  rw [List.length_reverse, show P.length + (q.length + 1) - P.length - q.length = 1 by omega, show P.length + q.length - P.length - q.length = 0 by omega]; rfl
theorem k_cmpI {args : List PV} : UU 44 args = cmpS2 args := rfl
theorem w_isS : ESound GG 61 (psiPut 5 insQ) := by
  refine ESound.of_put (C := cxQ Tryz.prog UU noΘ noΨ [] [9001] 53) (T := plan0) Tryz.func61 rfl rfl rfl rfl rfl (Fit.all (G := GG) hUU hnoΘ hnoΨ mixed) (fun es args h hw => ?_)
  obtain ⟨a, b, rfl, ⟨hab, hbl⟩, hl, hop⟩ := insQ_inv h
  refine ⟨by simp [cxQ], ?_⟩
  have wa : IntKind.i64.wrap ((a : Int) + 1) = ((a + 1 : Nat) : Int) := by rw [i64_in _ (by omega)]; omega
  have hfin : insR es a b = seg es 0 a ++ ((rsort ltQ (seg es a b)).reverse ++ seg es b es.length) := by
    unfold insR
    rw [← isort_ssort ltQ_weak]; rfl
  have hPl : (seg es 0 a).length = a := by rw [seg_length (by omega)]; omega
  have hXl : (seg es a b).length = b - a := seg_length (by omega)
  have hXm : ∀ e, e ∈ seg es a b → isE e := fun e he => by
    obtain ⟨k, k1, k2, k3⟩ := seg_mem he
    exact hop e (List.mem_of_getElem? k3)
  have hes : es = seg es 0 a ++ (seg es a b ++ seg es b es.length) := by
    rw [← seg_split hab hbl (Nat.le_refl _), ← seg_split (Nat.zero_le _) (by omega) (Nat.le_refl _), seg_all]
  have hRl : (seg es b es.length).length = es.length - b := seg_length (by omega)
  simp only [insQ_eq, wa, hfin, Int.toNat_natCast, Tryz.f61, argL, Tryz.underlying3, sz3, by3, ze3, Tryz.underlying4, sz4, by4, ze4, Tryz.underlying9, sz9, by9, ze9, Tryz.underlying23, sz23, by23, ze23, Tryz.underlying37, sz37, by37, ze37, fa37_0, fa37_1, fa37_2, fa37_3, fa37_4, Tryz.underlying66, sz66, by66, ze66, plan0, go_sem, ↓reduceIte, reduceCtorEq, Nat.reduceEqDiff, Nat.reduceLT, ↓all_qV, Int.reduceToNat, Int.reduceLT, Int.reduceLE, Nat.reduceAdd, Nat.reduceLeDiff, Nat.reduceMul, ev_callG, gcallK_b, gcallK_w, callGc_true, callGc_false]
  generalize hP : seg es 0 a = P at hPl hes ⊢
  generalize hX : seg es a b = X at hXl hXm hes ⊢
  generalize hR : seg es b es.length = R at hRl hes ⊢
  refine AWp.loop (T := plan0) (α := Nat) (fun i => ([(0, .rs 9001 es.length), (1, .pv (.int .i64 a)), (2, .pv (.int .i64 b)), (3, .pv (.fn 44 [])), (8, .pv (.int .i64 (a + i : Nat)))], [(9001, .row 5 (P ++ ((rsort ltQ (X.take i)).reverse ++ (X.drop i ++ R))))]))
    (fun i => 1 ≤ i ∧ (i ≤ X.length ∨ i = 1)) (fun i => X.length - i)
    ⟨1, ⟨Nat.le_refl _, .inr rfl⟩, ⟨by simp [fitR, look], ?_, rfl, rfl, rfl⟩⟩ ?_
  · have : P ++ ((rsort ltQ (X.take 1)).reverse ++ (X.drop 1 ++ R)) = es := by
      rw [hes]
      cases X with
      | nil => simp [rsort]
      | cons e r => simp [rsort, rins]
    exact ⟨congrArg (fun r => some (ABlk.row 5 r)) this.symm, trivial⟩
  rintro i ⟨h1, h2⟩
  have hi1 : IntKind.i64.wrap (((a + i : Nat) : Int) + 1) = ((a + (i + 1) : Nat) : Int) := by rw [i64_in _ (by omega)]; omega
  by_cases hlt : i < X.length
  · have c0 : decide (((a + i : Nat) : Int) < (b : Int)) = true := by simp; omega
    have hx := hXm _ (getD_mem' hlt)
    have hd : X.drop i = X.getD i default :: X.drop (i + 1) := by rw [List.drop_eq_getElem_cons hlt]; simp [List.getD_eq_getElem?_getD, hlt]
    have ht : X.take (i + 1) = X.take i ++ [X.getD i default] := by rw [List.take_add_one]; simp [List.getElem?_eq_getElem hlt, List.getD_eq_getElem?_getD]
    obtain ⟨x, hxe⟩ : ∃ x, X.getD i default = x := ⟨_, rfl⟩
    rw [hxe] at hx hd ht
    have hrp : (rsort ltQ (X.take i)).length = i := by rw [rsort_length, List.length_take]; omega
    have hrm : ∀ e, e ∈ rsort ltQ (X.take i) → isE e := fun e he => hXm e (List.mem_of_mem_take ((rsort_perm ltQ _).mem_iff.1 he))
    have hst : rsort ltQ (X.take (i + 1)) = rins ltQ x (rsort ltQ (X.take i)) := by rw [ht, rsort_snoc]
    rw [hd]
    generalize rsort ltQ (X.take i) = rp at hrp hrm hst ⊢
    have hdl : (X.drop (i + 1)).length = X.length - (i + 1) := by simp
    simp only [c0, Tryz.underlying3, sz3, by3, ze3, Tryz.underlying4, sz4, by4, ze4, Tryz.underlying9, sz9, by9, ze9, Tryz.underlying23, sz23, by23, ze23, Tryz.underlying37, sz37, by37, ze37, fa37_0, fa37_1, fa37_2, fa37_3, fa37_4, Tryz.underlying66, sz66, by66, ze66, plan0, go_sem, ↓reduceIte, reduceCtorEq, Nat.reduceEqDiff, Nat.reduceLT, ↓all_qV, Int.reduceToNat, Int.reduceLT, Int.reduceLE, Nat.reduceAdd, Nat.reduceLeDiff, Nat.reduceMul, ev_callG, gcallK_b, gcallK_w, callGc_true, callGc_false]
    refine AWp.loop (T := plan0) (α := List PV × List PV) (fun s => ([(0, .rs 9001 es.length), (1, .pv (.int .i64 a)), (2, .pv (.int .i64 b)), (3, .pv (.fn 44 [])), (8, .pv (.int .i64 (a + i : Nat))), (9, .pv (.int .i64 (a + s.1.length : Nat)))], [(9001, .row 5 (rowI P s.1 s.2 (X.drop (i + 1)) R x))]))
      (fun s => s.1.length + s.2.length = i ∧ rins ltQ x rp = s.2.reverse ++ rins ltQ x s.1 ∧ (∀ e, e ∈ s.1 → isE e) ∧ (∀ e, e ∈ s.2 → isE e)) (fun s => s.1.length)
      ⟨(rp, []), ⟨by simpa using hrp, by simp, hrm, fun e he => by cases he⟩, ⟨by simp [fitR, look, hrp], by simp [fitH, hget, rowI], rfl, rfl, rfl⟩⟩ ?_
    rintro ⟨q, m⟩ ⟨g1, g2, g3, g4⟩
    simp only at g1 g2 g3 g4
    have hRm : ∀ e, e ∈ rowI P q m (X.drop (i + 1)) R x → isE e := fun e he => by
      unfold rowI at he
      simp only [List.mem_append, List.mem_reverse, List.mem_cons] at he
      rcases he with he | he | he | he | he | he
      · exact hop e (by rw [hes]; exact List.mem_append_left _ he)
      · exact g3 e he
      · exact he ▸ hx
      · exact g4 e he
      · exact hXm e (List.mem_of_mem_drop he)
      · exact hop e (by rw [hes]; exact List.mem_append_right _ (List.mem_append_right _ he))
    have hRl2 : (rowI P q m (X.drop (i + 1)) R x).length = es.length := by rw [rowI_len, hdl]; omega
    cases q with
    | nil =>
      have e0 := rowI_x (P := P) (q := []) (m := m) (X := X.drop (i + 1)) (R := R) (x := x)
      have hR0 : rowI P [] m (X.drop (i + 1)) R x = P ++ ((rsort ltQ (X.take (i + 1))).reverse ++ (X.drop (i + 1) ++ R)) := by
        rw [hst, g2]; simp [rins, rowI]
      have c1 : decide ((a : Int) < (a : Int)) = false := by simp
      generalize rowI P [] m (X.drop (i + 1)) R x = W at e0 hR0 hRm hRl2 ⊢
      simp only [List.length_nil, Nat.add_zero, c1, decide_false, Bool.false_and, Bool.false_eq_true, false_implies, hi1, List.take_succ_cons, List.take_nil, callTGK, ev_callTG, k_cmpI, cmpS2, opOf_agg, on_pp_eq, Tryz.underlying3, sz3, by3, ze3, Tryz.underlying4, sz4, by4, ze4, Tryz.underlying9, sz9, by9, ze9, Tryz.underlying23, sz23, by23, ze23, Tryz.underlying37, sz37, by37, ze37, fa37_0, fa37_1, fa37_2, fa37_3, fa37_4, Tryz.underlying66, sz66, by66, ze66, plan0, go_sem, ↓reduceIte, reduceCtorEq, Nat.reduceEqDiff, Nat.reduceLT, ↓all_qV, Int.reduceToNat, Int.reduceLT, Int.reduceLE, Nat.reduceAdd, Nat.reduceLeDiff, Nat.reduceMul, ev_callG, gcallK_b, gcallK_w, callGc_true, callGc_false]
      exact ⟨by kernel_rfl, i + 1, ⟨by omega, by omega⟩, by omega, ⟨by simp [fitR, look], ⟨congrArg (fun r => some (ABlk.row 5 r)) hR0, trivial⟩, rfl, rfl, rfl⟩⟩
    | cons y q =>
      simp only [List.length_cons] at g1
      have c1 : decide ((a : Int) < ((a + (q.length + 1) : Nat) : Int)) = true := by simp; omega
      have hj1 : IntKind.i64.wrap (((a + (q.length + 1) : Nat) : Int) - 1) = ((a + q.length : Nat) : Int) := by rw [i64_in _ (by omega)]; omega
      have e1 := rowI_x (P := P) (q := y :: q) (m := m) (X := X.drop (i + 1)) (R := R) (x := x)
      have e2 := rowI_y (P := P) (q := q) (m := m) (X := X.drop (i + 1)) (R := R) (x := x) (y := y)
      have e3 := rowI_swap (P := P) (q := q) (m := m) (X := X.drop (i + 1)) (R := R) (x := x) (y := y)
      have hend : ltQ x y = false → rowI P (y :: q) m (X.drop (i + 1)) R x = P ++ ((rsort ltQ (X.take (i + 1))).reverse ++ (X.drop (i + 1) ++ R)) := by
        intro h9
        rw [hst, g2]; simp [rins, rowI, h9]
      have hgo : ltQ x y = true → rins ltQ x rp = (y :: m).reverse ++ rins ltQ x q := by
        intro h9
        rw [g2]; simp [rins, h9]
      have hy := g3 y List.mem_cons_self
      rw [hPl] at e1 e2 e3
      simp only [List.length_cons] at e1
      generalize rowI P (y :: q) m (X.drop (i + 1)) R x = W at e1 e2 e3 hend hRm hRl2 ⊢
      have i1 := hx
      have i2 := hy
      obtain ⟨⟨u1, u2, u3, u4, u5⟩, rfl, hu1, hu2⟩ := hx
      obtain ⟨⟨v1, v2, v3, v4, v5⟩, rfl, hv1, hv2⟩ := hy
      simp only [opV] at e1 e2 e3 i1 i2
      have e4 : ∀ v, (W.set (a + (q.length + 1)) v).getD (a + q.length) default = W.getD (a + q.length) default := fun v => getD_set_ne' (by omega)
      simp only [List.length_cons, c1, hj1, hi1, e1, e2, e4, Int.toNat_natCast, List.take_succ_cons, List.take_nil, boxP, putP, PV.nth, callTGK, ev_callTG, k_cmpI, cmpS2, opOf_agg, on_pp_eq, Tryz.underlying3, sz3, by3, ze3, Tryz.underlying4, sz4, by4, ze4, Tryz.underlying9, sz9, by9, ze9, Tryz.underlying23, sz23, by23, ze23, Tryz.underlying37, sz37, by37, ze37, fa37_0, fa37_1, fa37_2, fa37_3, fa37_4, Tryz.underlying66, sz66, by66, ze66, plan0, go_sem, ↓reduceIte, reduceCtorEq, Nat.reduceEqDiff, Nat.reduceLT, ↓all_qV, Int.reduceToNat, Int.reduceLT, Int.reduceLE, Nat.reduceAdd, Nat.reduceLeDiff, Nat.reduceMul, ev_callG, gcallK_b, gcallK_w, callGc_true, callGc_false]
      refine ⟨by kernel_rfl, ⟨by omega, by omega⟩, by omega, ⟨by omega, by omega⟩, by omega, ⟨i1, i2⟩, fun h9 => ⟨by kernel_rfl, ⟨by omega, by omega⟩, by omega, ⟨by omega, by omega⟩, by omega, ⟨by omega, by omega⟩, by omega, ⟨by omega, by omega⟩, by rw [List.length_set]; omega, (q, _ :: m), ⟨by simp only [List.length_cons]; omega, hgo h9, fun e he => g3 e (List.mem_cons_of_mem _ he), fun e he => (List.mem_cons.1 he).elim (fun h => h ▸ i2) (g4 e)⟩, by simp only; omega, ⟨by simp [fitR, look], ⟨congrArg (fun r => some (ABlk.row 5 r)) e3, trivial⟩, rfl, rfl, rfl⟩⟩,
        fun h9 => ⟨i + 1, ⟨by omega, by omega⟩, by omega, ⟨by simp [fitR, look], ⟨congrArg (fun r => some (ABlk.row 5 r)) (hend h9), trivial⟩, rfl, rfl, rfl⟩⟩⟩
  · have c0 : decide (((a + i : Nat) : Int) < (b : Int)) = false := by simp; omega
    simp only [c0, Tryz.underlying3, sz3, by3, ze3, Tryz.underlying4, sz4, by4, ze4, Tryz.underlying9, sz9, by9, ze9, Tryz.underlying23, sz23, by23, ze23, Tryz.underlying37, sz37, by37, ze37, fa37_0, fa37_1, fa37_2, fa37_3, fa37_4, Tryz.underlying66, sz66, by66, ze66, plan0, FinPut_n, FinPut_r, go_sem, ↓reduceIte, reduceCtorEq, Nat.reduceEqDiff, Nat.reduceLT, ↓all_qV, Int.reduceToNat, Int.reduceLT, Int.reduceLE, Nat.reduceAdd, Nat.reduceLeDiff, Nat.reduceMul, ev_callG, gcallK_b, gcallK_w, callGc_true, callGc_false]
    have h4 : X.take i = X := List.take_of_length_le (by omega)
    have h5 : X.drop i = [] := List.drop_eq_nil_of_le (by omega)
    rw [h4, h5]; rfl
end Go.AM
namespace Go.AM
open Go Go.Proofs Go.IntWalk
set_option maxRecDepth 100000
set_option maxHeartbeats 4000000
set_option linter.unusedSimpArgs false
set_option linter.unusedVariables false
theorem w_sym0 : ESound GG 76 (psiPut 5 (symP 0)) := by
  refine ESound.of_put (C := cxQ Tryz.prog UU noΘ ΨS2 [] [9001] 220) (T := plan0) Tryz.func76 rfl rfl rfl rfl rfl (Fit.all (G := GG) hUU hnoΘ hΨS2 mixed) (fun es args h hw => ?_)
  obtain ⟨a, m, b, rfl, ⟨ham, hmb, hbl, hN⟩, _⟩ := symP_inv h
  omega
theorem hΨM : ∀ N, ETab GG (ΨM N)
  | 0 => hΨS2.put w_sym0 psiPut_mono
  | N + 1 => hΨS2.put (w_symS N (hΨM N)) psiPut_mono
noncomputable def ΨT (g : FuncId) : Option ESpec := putΨ (ΨM 1000000) 61 (psiPut 5 insQ) g
theorem hΨT : ETab GG ΨT := (hΨM 1000000).put w_isS psiPut_mono
def stP : List PV → List PV → Prop × List PV
  | es, [.int .i64 n, .fn f []] => (n = es.length ∧ f = 44 ∧ es.length ≤ 100000 ∧ (∀ e, e ∈ es → isE e), ssort ltQ es)
  | es, _ => (False, es)
theorem stP_eq {es : List PV} {n : Int} {f : FuncId} : stP es [.int .i64 n, .fn f []] = (n = es.length ∧ f = 44 ∧ es.length ≤ 100000 ∧ (∀ e, e ∈ es → isE e), ssort ltQ es) := rfl
theorem stP_inv {es args : List PV} (h : (stP es args).1) : args = [.int .i64 es.length, .fn 44 []] ∧ es.length ≤ 100000 ∧ (∀ e, e ∈ es → isE e) := by
  unfold stP at h
  split at h
  · obtain ⟨rfl, rfl, h1, h2⟩ := h; exact ⟨rfl, h1, h2⟩
  · exact h.elim
theorem insR_app {P S : List PV} {a k : Nat} (h : P.length = a) : insR (P ++ S) a (a + k) = P ++ (ssort ltQ (S.take k) ++ S.drop k) := by
  unfold insR
  have e1 := seg_mid (P := P) (S := S) (i := 0) (j := k) h
  rw [Nat.add_zero] at e1
  rw [seg_pre h, e1, seg_end h]
  unfold seg; rw [List.drop_zero]
theorem w_stS : ESound GG 58 (psiPut 5 stP) := by
  refine ESound.of_put (C := cxQ Tryz.prog UU noΘ ΨT [] [9001] 63) (T := plan0) Tryz.func58 rfl rfl rfl rfl rfl (Fit.all (G := GG) hUU hnoΘ hΨT mixed) (fun es args h hw => ?_)
  obtain ⟨rfl, hl, hop⟩ := stP_inv h
  refine ⟨by simp [cxQ], ?_⟩
  simp only [stP_eq, Tryz.f58, argL, Tryz.underlying3, sz3, by3, ze3, Tryz.underlying4, sz4, by4, ze4, Tryz.underlying9, sz9, by9, ze9, Tryz.underlying23, sz23, by23, ze23, Tryz.underlying37, sz37, by37, ze37, fa37_0, fa37_1, fa37_2, fa37_3, fa37_4, Tryz.underlying66, sz66, by66, ze66, plan0, go_sem, ↓reduceIte, reduceCtorEq, Nat.reduceEqDiff, Nat.reduceLT, ↓all_qV, Int.reduceToNat, Int.reduceLT, Int.reduceLE, Nat.reduceAdd, Nat.reduceLeDiff, Nat.reduceMul, ev_callG, gcallK_b, gcallK_w, callGc_true, callGc_false]
  refine AWp.loop (T := plan0) (α := List PV × Nat) (fun z => ([(0, .rs 9001 es.length), (1, .pv (.int .i64 es.length)), (2, .pv (.fn 44 [])), (6, .pv (.int .i64 20)), (7, .pv (.int .i64 z.2)), (8, .pv (.int .i64 (z.2 + 20 : Nat)))], [(9001, .row 5 (z.1 ++ es.drop z.2))]))
    (fun z => z.1.length = z.2 ∧ z.2 ≤ es.length ∧ z.1 ++ chs ltQ 20 (es.drop z.2) = chs ltQ 20 es ∧ ∀ e, e ∈ z.1 → isE e) (fun z => es.length - z.2)
    ⟨([], 0), ⟨rfl, Nat.zero_le _, by simp, fun e he => by cases he⟩, ⟨by simp [fitR, look], by simp [fitH, hget], rfl, rfl, rfl⟩⟩ ?_
  rintro ⟨pre, a⟩ ⟨g1, g2, g3, g4⟩
  simp only at g1 g2 g3 g4
  have hmem : ∀ e, e ∈ pre ++ es.drop a → isE e := fun e he => by
    rcases List.mem_append.1 he with he | he
    · exact g4 e he
    · exact hop e (List.mem_of_mem_drop he)
  have hrl : (pre ++ es.drop a).length = es.length := by rw [List.length_append, List.length_drop, g1]; omega
  by_cases hlt : a + 20 ≤ es.length
  · have c0 : decide (((a + 20 : Nat) : Int) ≤ (es.length : Int)) = true := by simp; omega
    have w1 : IntKind.i64.wrap (((a + 20 : Nat) : Int) + 20) = ((a + 20 + 20 : Nat) : Int) := by rw [i64_in _ (by omega)]; omega
    have hst := insR_app (S := es.drop a) (k := 20) g1
    rw [List.drop_drop] at hst
    have hlen := insR_length (es := pre ++ es.drop a) (a := a) (b := a + 20) (by omega) (by omega)
    simp only [c0, w1, ΨT, ΨM, ΨS2, ΨS1, psiPut_eq, insQ_eq, symP_eq, hrl, Int.toNat_natCast, Tryz.underlying3, sz3, by3, ze3, Tryz.underlying4, sz4, by4, ze4, Tryz.underlying9, sz9, by9, ze9, Tryz.underlying23, sz23, by23, ze23, Tryz.underlying37, sz37, by37, ze37, fa37_0, fa37_1, fa37_2, fa37_3, fa37_4, Tryz.underlying66, sz66, by66, ze66, plan0, go_sem, ↓reduceIte, reduceCtorEq, Nat.reduceEqDiff, Nat.reduceLT, ↓all_qV, Int.reduceToNat, Int.reduceLT, Int.reduceLE, Nat.reduceAdd, Nat.reduceLeDiff, Nat.reduceMul, ev_callG, gcallK_b, gcallK_w, callGc_true, callGc_false]
    have hnew : ∀ e, e ∈ pre ++ ssort ltQ ((es.drop a).take 20) → isE e := fun e he => by
      rcases List.mem_append.1 he with he | he
      · exact g4 e he
      · exact hop e (List.mem_of_mem_drop (List.mem_of_mem_take ((ssort_perm _).mem_iff.1 he)))
    refine ⟨⟨⟨by omega, by omega, by omega⟩, by omega, hmem⟩, by rw [hlen, hrl], (pre ++ ssort ltQ ((es.drop a).take 20), a + 20), ⟨?_, by simp only; omega, ?_, hnew⟩, by simp only; omega, ⟨by simp [fitR, look], ?_, rfl, rfl, rfl⟩⟩
    · simp only [List.length_append, ssort_length, List.length_take, List.length_drop]; omega
    · simp only
      rw [← g3, chs_take (by omega) (es.drop a), List.drop_drop, List.append_assoc]
    · rw [hst]; exact ⟨congrArg (fun r => some (ABlk.row 5 r)) (List.append_assoc ..).symm, trivial⟩
  · have c0 : decide (((a + 20 : Nat) : Int) ≤ (es.length : Int)) = false := by simp; omega
    have hst := insR_app (S := es.drop a) (k := es.length - a) g1
    have hd0 : (es.drop a).drop (es.length - a) = [] := by rw [List.drop_drop]; exact List.drop_eq_nil_of_le (by omega)
    rw [List.take_of_length_le (show (es.drop a).length ≤ es.length - a by rw [List.length_drop]; omega), hd0, List.append_nil, show a + (es.length - a) = es.length by omega, ← chs_small (lt := ltQ) (bs := 20) (L := es.drop a) (by rw [List.length_drop]; omega), g3] at hst
    have hlen := insR_length (es := pre ++ es.drop a) (a := a) (b := es.length) (by omega) (by omega)
    simp only [c0, ΨT, ΨM, ΨS2, ΨS1, psiPut_eq, insQ_eq, symP_eq, hrl, Int.toNat_natCast, Tryz.underlying3, sz3, by3, ze3, Tryz.underlying4, sz4, by4, ze4, Tryz.underlying9, sz9, by9, ze9, Tryz.underlying23, sz23, by23, ze23, Tryz.underlying37, sz37, by37, ze37, fa37_0, fa37_1, fa37_2, fa37_3, fa37_4, Tryz.underlying66, sz66, by66, ze66, plan0, go_sem, ↓reduceIte, reduceCtorEq, Nat.reduceEqDiff, Nat.reduceLT, ↓all_qV, Int.reduceToNat, Int.reduceLT, Int.reduceLE, Nat.reduceAdd, Nat.reduceLeDiff, Nat.reduceMul, ev_callG, gcallK_b, gcallK_w, callGc_true, callGc_false]
    refine ⟨⟨⟨by omega, by omega⟩, by omega, hmem⟩, by rw [hlen, hrl], ?_⟩
    rw [hst]
    clear hst hd0 hlen hmem hrl g1 g2 g3 g4 hlt c0
    refine AWp.loop (T := plan0) (α := Nat) (fun bs => ([(0, .rs 9001 es.length), (1, .pv (.int .i64 es.length)), (2, .pv (.fn 44 [])), (6, .pv (.int .i64 bs))], [(9001, .row 5 (chs ltQ bs es))]))
      (fun bs => 1 ≤ bs ∧ bs ≤ 200020) (fun bs => es.length - bs)
      ⟨20, ⟨by omega, by omega⟩, ⟨by simp [fitR, look], by simp [fitH, hget], rfl, rfl, rfl⟩⟩ ?_
    intro bs ⟨b1, b2⟩
    have hcl : (chs ltQ bs es).length = es.length := chs_length b1 _ _ (Nat.le_refl _)
    by_cases hbs : bs < es.length
    · have c0 : decide ((bs : Int) < (es.length : Int)) = true := by simp; omega
      have w1 : IntKind.i64.wrap (2 * (bs : Int)) = ((bs + bs : Nat) : Int) := by rw [i64_in _ (by omega)]; omega
      have w2 : IntKind.i64.wrap ((bs : Int) * 2) = ((bs + bs : Nat) : Int) := by rw [i64_in _ (by omega)]; omega
      simp only [c0, w1, ΨT, ΨM, ΨS2, ΨS1, psiPut_eq, insQ_eq, symP_eq, Int.toNat_natCast, Tryz.underlying3, sz3, by3, ze3, Tryz.underlying4, sz4, by4, ze4, Tryz.underlying9, sz9, by9, ze9, Tryz.underlying23, sz23, by23, ze23, Tryz.underlying37, sz37, by37, ze37, fa37_0, fa37_1, fa37_2, fa37_3, fa37_4, Tryz.underlying66, sz66, by66, ze66, plan0, go_sem, ↓reduceIte, reduceCtorEq, Nat.reduceEqDiff, Nat.reduceLT, ↓all_qV, Int.reduceToNat, Int.reduceLT, Int.reduceLE, Nat.reduceAdd, Nat.reduceLeDiff, Nat.reduceMul, ev_callG, gcallK_b, gcallK_w, callGc_true, callGc_false]
      refine AWp.loop (T := plan0) (α := List PV × Nat) (fun z => ([(0, .rs 9001 es.length), (1, .pv (.int .i64 es.length)), (2, .pv (.fn 44 [])), (6, .pv (.int .i64 bs)), (7, .pv (.int .i64 z.2)), (8, .pv (.int .i64 (z.2 + (bs + bs) : Nat)))], [(9001, .row 5 (z.1 ++ chs ltQ bs (es.drop z.2)))]))
        (fun z => z.1.length = z.2 ∧ z.2 ≤ es.length ∧ z.1 ++ chs ltQ (bs + bs) (es.drop z.2) = chs ltQ (bs + bs) es ∧ ∀ e, e ∈ z.1 → isE e) (fun z => es.length - z.2)
        ⟨([], 0), ⟨rfl, Nat.zero_le _, by simp, fun e he => by cases he⟩, ⟨by simp [fitR, look], by simp [fitH, hget], rfl, rfl, rfl⟩⟩ ?_
      rintro ⟨pre, a⟩ ⟨g1, g2, g3, g4⟩
      simp only at g1 g2 g3 g4
      have hSm : ∀ e, e ∈ es.drop a → isE e := fun e he => hop e (List.mem_of_mem_drop he)
      have hSl : (es.drop a).length = es.length - a := List.length_drop
      have hdd : es.drop (a + (bs + bs)) = (es.drop a).drop (bs + bs) := by rw [List.drop_drop]
      generalize hS : es.drop a = S at g3 hSm hSl hdd ⊢
      have hmem : ∀ e, e ∈ pre ++ chs ltQ bs S → isE e := fun e he => by
        rcases List.mem_append.1 he with he | he
        · exact g4 e he
        · exact hSm e (chs_mem b1 he)
      have hrl : (pre ++ chs ltQ bs S).length = es.length := by rw [List.length_append, chs_length b1 _ _ (Nat.le_refl _)]; omega
      have wm : IntKind.i64.wrap ((a : Int) + bs) = ((a + bs : Nat) : Int) := by rw [i64_in _ (by omega)]; omega
      have h2 := chs_two (lt := ltQ) b1 S
      have hAl : bs ≤ S.length → (ssort ltQ (S.take bs)).length = bs := fun h => by rw [ssort_length, List.length_take]; omega
      have htk : S.take bs ++ (S.drop bs).take bs = S.take (bs + bs) := by rw [List.take_add]
      by_cases hlt : a + (bs + bs) ≤ es.length
      · have c1 : decide (((a + (bs + bs) : Nat) : Int) ≤ (es.length : Int)) = true := by simp; omega
        have w3 : IntKind.i64.wrap (((a + (bs + bs) : Nat) : Int) + ((bs + bs : Nat) : Int)) = ((a + (bs + bs) + (bs + bs) : Nat) : Int) := by rw [i64_in _ (by omega)]; omega
        have hBl : (ssort ltQ ((S.drop bs).take bs)).length = bs := by rw [ssort_length, List.length_take, List.length_drop]; omega
        have hA2 := hAl (by omega)
        have f1 := seg_A (P := pre) (A := ssort ltQ (S.take bs)) (B := ssort ltQ ((S.drop bs).take bs) ++ chs ltQ bs (S.drop (bs + bs))) g1 hA2
        have f2 := seg_B (P := pre) (A := ssort ltQ (S.take bs)) (B := ssort ltQ ((S.drop bs).take bs)) (C := chs ltQ bs (S.drop (bs + bs))) g1 hA2 hBl
        have f3 := sym_app (lt := ltQ) (P := pre) (A := ssort ltQ (S.take bs)) (B := ssort ltQ ((S.drop bs).take bs)) (C := chs ltQ bs (S.drop (bs + bs))) g1 hA2 hBl
        rw [mrg_ssort ltQ_weak, htk, ← h2] at f3
        rw [← h2] at f1 f2
        have s1 := ssort_srt ltQ_weak (S.take bs)
        have s2 := ssort_srt ltQ_weak ((S.drop bs).take bs)
        rw [← f1] at s1
        rw [← f2] at s2
        have hsl := symR_length (lt := ltQ) (es := pre ++ chs ltQ bs S) (a := a) (m := a + bs) (b := a + (bs + bs)) (by omega) (by omega) (by omega)
        simp only [c1, w1, w3, wm, hrl, ΨT, ΨM, ΨS2, ΨS1, psiPut_eq, insQ_eq, symP_eq, Int.toNat_natCast, Tryz.underlying3, sz3, by3, ze3, Tryz.underlying4, sz4, by4, ze4, Tryz.underlying9, sz9, by9, ze9, Tryz.underlying23, sz23, by23, ze23, Tryz.underlying37, sz37, by37, ze37, fa37_0, fa37_1, fa37_2, fa37_3, fa37_4, Tryz.underlying66, sz66, by66, ze66, plan0, go_sem, ↓reduceIte, reduceCtorEq, Nat.reduceEqDiff, Nat.reduceLT, ↓all_qV, Int.reduceToNat, Int.reduceLT, Int.reduceLE, Nat.reduceAdd, Nat.reduceLeDiff, Nat.reduceMul, ev_callG, gcallK_b, gcallK_w, callGc_true, callGc_false]
        have hnew : ∀ e, e ∈ pre ++ ssort ltQ (S.take (bs + bs)) → isE e := fun e he => by
          rcases List.mem_append.1 he with he | he
          · exact g4 e he
          · exact hSm e (List.mem_of_mem_take ((ssort_perm _).mem_iff.1 he))
        refine ⟨⟨⟨by omega, by omega, by omega, by omega, by omega⟩, by omega, hmem, s1, s2⟩, by rw [hsl, hrl], (pre ++ ssort ltQ (S.take (bs + bs)), a + (bs + bs)), ⟨?_, by simp only; omega, ?_, hnew⟩, by simp only; omega, ⟨by simp [fitR, look], ?_, rfl, rfl, rfl⟩⟩
        · simp only [List.length_append, ssort_length, List.length_take]; omega
        · simp only
          rw [hdd, ← g3, chs_take (show 0 < bs + bs by omega) S, List.append_assoc]
        · simp only
          rw [hdd, f3]; exact ⟨congrArg (fun r => some (ABlk.row 5 r)) (List.append_assoc ..).symm, trivial⟩
      · have c1 : decide (((a + (bs + bs) : Nat) : Int) ≤ (es.length : Int)) = false := by simp; omega
        have hfin : pre ++ ssort ltQ S = chs ltQ (bs + bs) es := by rw [← g3, chs_small (by omega)]
        by_cases hm : a + bs < es.length
        · have c2 : decide (((a + bs : Nat) : Int) < (es.length : Int)) = true := by simp; omega
          have hBl : (ssort ltQ ((S.drop bs).take bs)).length = es.length - a - bs := by rw [ssort_length, List.length_take, List.length_drop]; omega
          have hA2 := hAl (by omega)
          have e9 : S.drop (bs + bs) = [] := List.drop_eq_nil_of_le (by omega)
          have e8 : chs ltQ bs ([] : List PV) = [] := by rw [chs_small (Nat.zero_le _)]; rfl
          rw [e9, e8] at h2
          have f1 := seg_A (P := pre) (A := ssort ltQ (S.take bs)) (B := ssort ltQ ((S.drop bs).take bs) ++ []) g1 hA2
          have f2 := seg_B (P := pre) (A := ssort ltQ (S.take bs)) (B := ssort ltQ ((S.drop bs).take bs)) (C := []) g1 hA2 hBl
          have f3 := sym_app (lt := ltQ) (P := pre) (A := ssort ltQ (S.take bs)) (B := ssort ltQ ((S.drop bs).take bs)) (C := []) g1 hA2 hBl
          rw [mrg_ssort ltQ_weak, htk, ← h2, List.take_of_length_le (show S.length ≤ bs + bs by omega), List.append_nil, hfin] at f3
          rw [← h2] at f1 f2
          rw [show a + (bs + (es.length - a - bs)) = es.length by omega] at f2 f3
          have s1 := ssort_srt ltQ_weak (S.take bs)
          have s2 := ssort_srt ltQ_weak ((S.drop bs).take bs)
          rw [← f1] at s1
          rw [← f2] at s2
          have hsl := symR_length (lt := ltQ) (es := pre ++ chs ltQ bs S) (a := a) (m := a + bs) (b := es.length) (by omega) (by omega) (by omega)
          simp only [c1, c2, w1, w2, wm, hrl, f3, ΨT, ΨM, ΨS2, ΨS1, psiPut_eq, insQ_eq, symP_eq, Int.toNat_natCast, Tryz.underlying3, sz3, by3, ze3, Tryz.underlying4, sz4, by4, ze4, Tryz.underlying9, sz9, by9, ze9, Tryz.underlying23, sz23, by23, ze23, Tryz.underlying37, sz37, by37, ze37, fa37_0, fa37_1, fa37_2, fa37_3, fa37_4, Tryz.underlying66, sz66, by66, ze66, plan0, go_sem, ↓reduceIte, reduceCtorEq, Nat.reduceEqDiff, Nat.reduceLT, ↓all_qV, Int.reduceToNat, Int.reduceLT, Int.reduceLE, Nat.reduceAdd, Nat.reduceLeDiff, Nat.reduceMul, ev_callG, gcallK_b, gcallK_w, callGc_true, callGc_false]
          exact ⟨⟨⟨by omega, by omega, by omega, by omega⟩, by omega, hmem, s1, s2⟩, by rw [chs_length (by omega) _ _ (Nat.le_refl _)], bs + bs, ⟨by omega, by omega⟩, by omega, ⟨by simp [fitR, look], by simp [fitH, hget], rfl, rfl, rfl⟩⟩
        · have c2 : decide (((a + bs : Nat) : Int) < (es.length : Int)) = false := by simp; omega
          have hfin2 : pre ++ chs ltQ bs S = chs ltQ (bs + bs) es := by rw [← hfin, chs_small (by omega)]
          simp only [c1, c2, w1, w2, wm, hfin2, ΨT, ΨM, ΨS2, ΨS1, psiPut_eq, insQ_eq, symP_eq, Int.toNat_natCast, Tryz.underlying3, sz3, by3, ze3, Tryz.underlying4, sz4, by4, ze4, Tryz.underlying9, sz9, by9, ze9, Tryz.underlying23, sz23, by23, ze23, Tryz.underlying37, sz37, by37, ze37, fa37_0, fa37_1, fa37_2, fa37_3, fa37_4, Tryz.underlying66, sz66, by66, ze66, plan0, go_sem, ↓reduceIte, reduceCtorEq, Nat.reduceEqDiff, Nat.reduceLT, ↓all_qV, Int.reduceToNat, Int.reduceLT, Int.reduceLE, Nat.reduceAdd, Nat.reduceLeDiff, Nat.reduceMul, ev_callG, gcallK_b, gcallK_w, callGc_true, callGc_false]
          exact ⟨bs + bs, ⟨by omega, by omega⟩, by omega, ⟨by simp [fitR, look], by simp [fitH, hget], rfl, rfl, rfl⟩⟩
    · have c0 : decide ((bs : Int) < (es.length : Int)) = false := by simp; omega
      have hfin := chs_small (lt := ltQ) (bs := bs) (L := es) (by omega)
      simp only [c0, hfin, ΨT, ΨM, ΨS2, ΨS1, psiPut_eq, insQ_eq, symP_eq, FinPut_n, FinPut_r, Int.toNat_natCast, Tryz.underlying3, sz3, by3, ze3, Tryz.underlying4, sz4, by4, ze4, Tryz.underlying9, sz9, by9, ze9, Tryz.underlying23, sz23, by23, ze23, Tryz.underlying37, sz37, by37, ze37, fa37_0, fa37_1, fa37_2, fa37_3, fa37_4, Tryz.underlying66, sz66, by66, ze66, plan0, go_sem, ↓reduceIte, reduceCtorEq, Nat.reduceEqDiff, Nat.reduceLT, ↓all_qV, Int.reduceToNat, Int.reduceLT, Int.reduceLE, Nat.reduceAdd, Nat.reduceLeDiff, Nat.reduceMul, ev_callG, gcallK_b, gcallK_w, callGc_true, callGc_false]
noncomputable def ΨU (g : FuncId) : Option ESpec := putΨ ΨT 58 (psiPut 5 stP) g
theorem hΨU : ETab GG ΨU := hΨT.put w_stS psiPut_mono
def srtP : List PV → List PV → Prop × List PV
  | es, [.fn f []] => (f = 44 ∧ es.length ≤ 100000 ∧ (∀ e, e ∈ es → isE e), ssort ltQ es)
  | es, _ => (False, es)
theorem srtP_eq {es : List PV} {f : FuncId} : srtP es [.fn f []] = (f = 44 ∧ es.length ≤ 100000 ∧ (∀ e, e ∈ es → isE e), ssort ltQ es) := rfl
theorem srtP_inv {es args : List PV} (h : (srtP es args).1) : args = [.fn 44 []] ∧ es.length ≤ 100000 ∧ (∀ e, e ∈ es → isE e) := by
  unfold srtP at h
  split at h
  · obtain ⟨rfl, h1, h2⟩ := h; exact ⟨rfl, h1, h2⟩
  · exact h.elim
theorem w_srtS : ESound GG 43 (psiPut 5 srtP) := by
  refine ESound.of_put (C := cxQ Tryz.prog UU noΘ ΨU [] [9001] 9) (T := plan0) Tryz.func43 rfl rfl rfl rfl rfl (Fit.all (G := GG) hUU hnoΘ hΨU mixed) (fun es args h hw => ?_)
  obtain ⟨rfl, hl, hop⟩ := srtP_inv h
  refine ⟨by simp [cxQ], ?_⟩
  simp only [ΨU, ΨT, ΨM, ΨS2, ΨS1, psiPut_eq, stP_eq, srtP_eq, FinPut_n, FinPut_r, Tryz.f43, argL, Tryz.underlying3, sz3, by3, ze3, Tryz.underlying9, sz9, by9, ze9, Tryz.underlying23, sz23, by23, ze23, Tryz.underlying37, sz37, by37, ze37, fa37_0, fa37_1, fa37_2, fa37_3, fa37_4, Tryz.underlying66, sz66, by66, ze66, plan0, go_sem, ↓reduceIte, reduceCtorEq, Nat.reduceEqDiff, Nat.reduceLT, ↓all_qV, Int.reduceToNat, Int.reduceLT, Int.reduceLE, Nat.reduceAdd, Nat.reduceLeDiff, Nat.reduceMul, ev_callG, gcallK_b, gcallK_w, callGc_true, callGc_false]
  exact ⟨⟨hl, hop⟩, ssort_length ..⟩
noncomputable def ΨV (g : FuncId) : Option ESpec := putΨ ΨU 43 (psiPut 5 srtP) g
theorem hΨV : ETab GG ΨV := hΨU.put w_srtS psiPut_mono
end Go.AM
