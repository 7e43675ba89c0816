/-
  A part of a proof: see the last text of this claim for what is proved.
-/
import Derived.Test.YtamiheckgglgaaaGreatDoorSB
import Derived.Test.YtamiheckgglgaaaGreatDoorZMa
namespace Go.AM
open Go Go.Proofs Go.IntWalk
set_option maxRecDepth 100000
set_option maxHeartbeats 1000000
set_option linter.unusedSimpArgs false
set_option linter.unusedVariables false
theorem neg1 : ((-1 : Int)).toNat = 0 := rfl
theorem getD_snoc2 {q t : List PV} {x y : PV} : (q.reverse ++ y :: x :: t).getD (q.length + 1) default = x := by
  simp [List.getD_eq_getElem?_getD, List.getElem?_append]
theorem getD_snoc1 {q t : List PV} {y : PV} : (q.reverse ++ y :: t).getD q.length default = y := by
  simp [List.getD_eq_getElem?_getD, List.getElem?_append]
theorem getD_set_ne {l : List PV} {i j : Nat} {v : PV} (h : i ≠ j) : (l.set i v).getD j default = l.getD j default := by
  simp [List.getD_eq_getElem?_getD, List.getElem?_set, h]
theorem swap_row {q t : List PV} {x y : PV} : ((q.reverse ++ y :: x :: t).set (q.length + 1) y).set q.length x = q.reverse ++ x :: y :: t := by
  rw [List.set_append, if_neg (by simp), List.set_append, if_neg (by simp)]
  simp
theorem k_cmp {args : List PV} : B5 37 args = compareS args := rfl
def sort2P : List PV → List PV → Prop × List PV
  | es, [.fn f []] => (f = 37 ∧ es.length ≤ 100000 ∧ (∀ e, e ∈ es → isBid e), isort ltQ es)
  | es, _ => (False, es)
theorem sort2P_eq {es : List PV} {f : FuncId} : sort2P es [.fn f []] = (f = 37 ∧ es.length ≤ 100000 ∧ (∀ e, e ∈ es → isBid e), isort ltQ es) := rfl
theorem sort2P_srt : sort2P = srtP := by
  funext es args
  unfold sort2P srtP
  split
  · rw [isort_ssort ltQ_weak]
  · next h =>
    split
    · exact (h _ rfl).elim
    · rfl
theorem w_sort2S : ESound GG 36 (psiPut 5 sort2P) := by rw [sort2P_srt]; exact w_srtS
noncomputable def Ψt3 (g : FuncId) : Option ESpec := putΨ noΨ 36 (psiPut 5 sort2P) g
theorem hΨt3 : ETab GG Ψt3 := hnoΨ.put w_sort2S psiPut_mono
/-! ### slices.Clone -/
def planC : Plan := { keep := fun _ => none, cut := fun _ => false, stop := fun i => i == 1 }
noncomputable def cloneQ : PSpec := on_l (fun es => (∀ e, e ∈ es → e.width = 5 ∧ e.cells.all PV.one = true) ∧ es.length ≤ 1000000) (fun es => .sl es)
theorem w_cloneS : ESound GG 35 (psiRow 5 cloneQ) := by
  refine ESound.of_row (C := cxQ Tryz.prog B5 noΘ noΨ [5] [] 8) (T := planC) (t := 2) (k := 5) (by decide) Tryz.func35 rfl rfl rfl rfl (Fit.all (G := GG) hB5 hnoΘ hnoΨ mixed) (fun args h => ?_)
  unfold cloneQ at h
  obtain ⟨es, rfl, he, hl⟩ := on_l_inv h
  refine ⟨by simp [cxQ], ?_⟩
  simp only [cloneQ, on_l_eq, Tryz.f35, argL, Tryz.underlying3, sz3, by3, ze3, Tryz.underlying4, sz4, by4, ze4, Tryz.underlying23, sz23, by23, ze23, Tryz.underlying29, sz29, by29, ze29, fa29_0, fa29_1, fa29_2, fa29_3, fa29_4, planC, FinRow, go_sem, ↓reduceIte, reduceCtorEq, Nat.reduceEqDiff, Nat.reduceLT, ↓all_qV, Int.reduceToNat, Int.reduceLT, Int.reduceLE, Nat.reduceAdd, Nat.reduceLeDiff, Nat.reduceMul, ev_callG, gcallK_b, gcallK_w, callGc_true, callGc_false]
  refine AWp.nilq (e := 29) rfl Tryz.underlying23 (by decide) (by decide) (fun b hb => ?_)
  refine wpc_sound (T := plan0) _ _ _ ?_
  simp only [upd_look, ev_rowlit0, Nat.reduceBEq, Tryz.underlying3, sz3, by3, ze3, Tryz.underlying4, sz4, by4, ze4, Tryz.underlying23, sz23, by23, ze23, Tryz.underlying29, sz29, by29, ze29, fa29_0, fa29_1, fa29_2, fa29_3, fa29_4, FinRow, rowIs, plan0, planC, go_sem, ↓reduceIte, reduceCtorEq, Nat.reduceEqDiff, Nat.reduceLT, ↓all_qV, Int.reduceToNat, Int.reduceLT, Int.reduceLE, Nat.reduceAdd, Nat.reduceLeDiff, Nat.reduceMul, ev_callG, gcallK_b, gcallK_w, callGc_true, callGc_false]
  exact ⟨fun h9 => by rw [hb h9], fun _ => ⟨rfl, fun e he' => (he e he').1, by omega, by simp only [maxLen]; omega, Nat.le_refl _, by rw [List.take_length]⟩⟩
noncomputable def Ψt4 (g : FuncId) : Option ESpec := putΨ Ψt3 35 (psiRow 5 cloneQ) g
theorem hΨt4 : ETab GG Ψt4 := hΨt3.put w_cloneS psiRow_mono
end Go.AM
namespace Go.AM
open Go Go.Proofs Go.IntWalk
set_option maxRecDepth 100000
set_option maxHeartbeats 1000000
set_option linter.unusedSimpArgs false
set_option linter.unusedVariables false
def on_pb (p : PV → Bool → Prop) (f : PV → Bool → PV) : PSpec
  | [a0, .bool a1] => (p a0 a1, f a0 a1)
  | _ => (False, default)
theorem on_pb_eq {p : PV → Bool → Prop} {f : PV → Bool → PV} {a0 : PV} {a1 : Bool} : on_pb p f [a0, .bool a1] = (p a0 a1, f a0 a1) := rfl
theorem on_pb_inv {p : PV → Bool → Prop} {f : PV → Bool → PV} {args : List PV} (h : (on_pb p f args).1) : ∃ a0 : PV, ∃ a1 : Bool, args = [a0, .bool a1] ∧ p a0 a1 := by
  unfold on_pb at h
  split at h
  · exact ⟨_, _, rfl, h⟩
  · exact h.elim
def on_lb (p : List PV → Bool → Prop) (f : List PV → Bool → PV) : PSpec
  | [.sl a0, .bool a1] => (p a0 a1, f a0 a1)
  | _ => (False, default)
theorem on_lb_eq {p : List PV → Bool → Prop} {f : List PV → Bool → PV} {a0 : List PV} {a1 : Bool} : on_lb p f [.sl a0, .bool a1] = (p a0 a1, f a0 a1) := rfl
theorem on_lb_inv {p : List PV → Bool → Prop} {f : List PV → Bool → PV} {args : List PV} (h : (on_lb p f args).1) : ∃ a0 : List PV, ∃ a1 : Bool, args = [.sl a0, .bool a1] ∧ p a0 a1 := by
  unfold on_lb at h
  split at h
  · exact ⟨_, _, rfl, h⟩
  · exact h.elim
theorem mem_getD' {α : Type} [Inhabited α] {l : List α} {i : Nat} (h : i < l.length) : l.getD i default ∈ l := by
  rw [List.getD_eq_getElem?_getD, List.getElem?_eq_getElem h]; exact List.getElem_mem _
theorem drop_cons' {α : Type} [Inhabited α] {l : List α} {i : Nat} (h : i < l.length) : l.drop i = l.getD i default :: l.drop (i + 1) := by
  rw [List.drop_eq_getElem_cons h]; simp [List.getD_eq_getElem?_getD, h]
theorem take_succ' {α : Type} [Inhabited α] {l : List α} {i : Nat} (h : i < l.length) : l.take (i + 1) = l.take i ++ [l.getD i default] := by
  rw [List.take_add_one, List.getD_eq_getElem?_getD, List.getElem?_eq_getElem h]; rfl
theorem bidV_one {l : List Bid} : ∀ e, e ∈ l.map bidV → e.width = 5 ∧ e.cells.all PV.one = true := by
  intro e he; obtain ⟨x, _, rfl⟩ := List.mem_map.1 he; exact ⟨rfl, rfl⟩
theorem isBid_map {l : List Bid} : ∀ e, e ∈ l.map bidV → isBid e := by
  intro e he; obtain ⟨x, _, rfl⟩ := List.mem_map.1 he; exact ⟨x, rfl⟩
def ltB (x y : Bid) : Bool := decide (cmpB x y < 0)
def srtL (l : List Bid) : List Bid := isort ltB l
theorem sortQ_map (l : List Bid) : isort ltQ (l.map bidV) = (srtL l).map bidV := isort_map bidV (fun a b => rfl) l
theorem srtL_length (l : List Bid) : (srtL l).length = l.length := isort_length _ _
noncomputable def sortS : PSpec := on_l (fun es => (∃ l : List Bid, es = l.map bidV) ∧ es.length ≤ 100000) (fun es => .sl ((srtL (es.map bidOf)).map bidV))
theorem w_sortS : ESound GG 13 (psiRow 5 sortS) := by
  refine ESound.of_row (C := cxQ Tryz.prog B5 noΘ Ψt4 [] [] 9) (T := plan0) (t := 2) (k := 5) (by decide) Tryz.func13 rfl rfl rfl rfl (Fit.all (G := GG) hB5 hnoΘ hΨt4 mixed) (fun args h => ?_)
  unfold sortS at h
  obtain ⟨es, rfl, ⟨l, rfl⟩, hl⟩ := on_l_inv h
  refine ⟨by simp [cxQ], ?_⟩
  simp only [List.length_map] at hl
  simp only [sortS, map_bidOf, Ψt4, Ψt3, psiRow_eq, psiPut_eq, all_sl, cloneQ, on_l_eq, sort2P_eq, sortQ_map, List.length_map, FinRow, rowIs, Tryz.f13, argL, Tryz.underlying3, sz3, by3, ze3, Tryz.underlying4, sz4, by4, ze4, Tryz.underlying23, sz23, by23, ze23, Tryz.underlying29, sz29, by29, ze29, fa29_0, fa29_1, fa29_2, fa29_3, fa29_4, Tryz.underlying66, sz66, by66, ze66, plan0, go_sem, ↓reduceIte, reduceCtorEq, Nat.reduceEqDiff, Nat.reduceLT, ↓all_qV, Int.reduceToNat, Int.reduceLT, Int.reduceLE, Nat.reduceAdd, Nat.reduceLeDiff, Nat.reduceMul, ev_callG, gcallK_b, gcallK_w, callGc_true, callGc_false, List.forall_mem_cons, List.not_mem_nil, PV.one, AV.one]
  exact ⟨⟨bidV_one, by omega⟩, ⟨hl, isBid_map⟩, srtL_length l, by rw [srtL_length]; exact Nat.le_refl _, by rw [List.take_of_length_le (by rw [List.length_map, srtL_length]; exact Nat.le_refl _)]⟩
noncomputable def Ψt5 (g : FuncId) : Option ESpec := putΨ Ψt4 13 (psiRow 5 sortS) g
theorem hΨt5 : ETab GG Ψt5 := hΨt4.put w_sortS psiRow_mono
/-! ### ContainsFunc -/
def ixG : Nat → List Bid → Int
  | _, [] => -1
  | i, x :: r => bif !vB x then (i : Int) else ixG (i + 1) r
theorem ixG_any : ∀ (i : Nat) (l : List Bid), decide (0 ≤ ixG i l) = l.any fun x => !vB x
  | _, [] => rfl
  | i, x :: r => by
    unfold ixG
    rw [List.any_cons]
    cases h : vB x with
    | true => simpa [h] using ixG_any (i + 1) r
    | false => simp
noncomputable def ixS : PSpec := on_lp (fun es f => f = .fn 34 [] ∧ (∃ l : List Bid, es = l.map bidV) ∧ es.length ≤ 1000000) (fun es _ => .int .i64 (ixG 0 (es.map bidOf)))
theorem k_chk1 {args : List PV} : B5 34 args = chk1S args := rfl
theorem w_ixS : PSound GG 49 ixS := by
  refine PSound.of_wpc (C := cxP Tryz.prog B5 [] 19) (T := plan0) Tryz.func49 rfl rfl rfl (Fit.pure (G := GG) hB5 mixed) (fun args h => ?_)
  unfold ixS at h
  obtain ⟨es, f, rfl, hp⟩ := on_lp_inv h
  refine ⟨by simp [cxP], ?_⟩
  simp only [ixS, on_lp_eq, Tryz.f49, argL, plan0]
  obtain ⟨rfl, ⟨l, rfl⟩, hl⟩ := hp
  simp only [List.length_map] at hl
  simp only [map_bidOf, List.length_map, Tryz.underlying3, sz3, by3, ze3, Tryz.underlying4, sz4, by4, ze4, Tryz.underlying23, sz23, by23, ze23, Tryz.underlying29, sz29, by29, ze29, fa29_0, fa29_1, fa29_2, fa29_3, fa29_4, Tryz.underlying40, sz40, by40, ze40, go_sem, ↓reduceIte, reduceCtorEq, Nat.reduceEqDiff, Nat.reduceLT, ↓all_qV, Int.reduceToNat, Int.reduceLT, Int.reduceLE, Nat.reduceAdd, Nat.reduceLeDiff, Nat.reduceMul]
  refine AWp.loop (T := plan0) (α := Nat) (fun i => ([(0, .pv (.sl (l.map bidV))), (1, .pv (.fn 34 [])), (7, .pv (.int .i64 l.length)), (8, .pv (.int .i64 i))], [])) (fun i => i ≤ l.length ∧ ixG 0 l = ixG i (l.drop i)) (fun i => l.length - i)
    ⟨0, ⟨Nat.zero_le _, rfl⟩, ⟨by simp [fitR, look], trivial, rfl, rfl, rfl⟩⟩ ?_
  rintro i ⟨h1, h2⟩
  have hi1 : IntKind.i64.wrap ((i : Int) + 1) = ((i + 1 : Nat) : Int) := by rw [i64_in _ (by omega)]; omega
  by_cases hlt : i < l.length
  · have c0 : decide ((i : Int) < (l.length : Int)) = true := by simp; omega
    have e1 := getD_bid hlt
    rw [drop_cons' hlt, ixG] at h2
    generalize l.getD i default = x at e1 h2
    obtain ⟨b, n, p, a, f⟩ := x
    simp only [bidV] at e1
    simp only [c0, e1, hi1, k_chk1, chk1S, on_p_eq, bidOf_agg, ev_callT, callTK, List.length_map, List.take_succ_cons, List.take_nil, Tryz.underlying3, sz3, by3, ze3, Tryz.underlying4, sz4, by4, ze4, Tryz.underlying23, sz23, by23, ze23, Tryz.underlying29, sz29, by29, ze29, fa29_0, fa29_1, fa29_2, fa29_3, fa29_4, Tryz.underlying40, sz40, by40, ze40, plan0, go_sem, ↓reduceIte, reduceCtorEq, Nat.reduceEqDiff, Nat.reduceLT, ↓all_qV, Int.reduceToNat, Int.reduceLT, Int.reduceLE, Nat.reduceAdd, Nat.reduceLeDiff, Nat.reduceMul]
    and_intros
    all_goals try first | (show checkD _ _ _ = true; kernel_rfl) | omega | (intros; omega) | rfl | trivial | assumption | exact isBid_agg
    · intro h9
      have h9 : vB ⟨b, n, p, a, f⟩ = false := by simpa using h9
      rw [h2, h9]; rfl
    · intro h9
      have h9 : vB ⟨b, n, p, a, f⟩ = true := by simpa using h9
      refine ⟨i + 1, ⟨by omega, by rw [h2, h9]; rfl⟩, by omega, ⟨by simp [fitR, look], trivial, rfl, rfl, rfl⟩⟩
  · have c0 : decide ((i : Int) < (l.length : Int)) = false := by simp; omega
    rw [List.drop_eq_nil_of_le (by omega)] at h2
    simp only [c0, List.length_map, Tryz.underlying3, sz3, by3, ze3, Tryz.underlying4, sz4, by4, ze4, Tryz.underlying23, sz23, by23, ze23, Tryz.underlying29, sz29, by29, ze29, fa29_0, fa29_1, fa29_2, fa29_3, fa29_4, Tryz.underlying40, sz40, by40, ze40, plan0, go_sem, ↓reduceIte, reduceCtorEq, Nat.reduceEqDiff, Nat.reduceLT, ↓all_qV, Int.reduceToNat, Int.reduceLT, Int.reduceLE, Nat.reduceAdd, Nat.reduceLeDiff, Nat.reduceMul]
    rw [h2]; rfl
noncomputable def B6 (g : FuncId) : PSpec := (putΦ B5 49 ixS) g
theorem hB6 : TabSound GG B6 := (hB5.put w_ixS)
noncomputable def ctS : PSpec := on_lp (fun es f => f = .fn 34 [] ∧ (∃ l : List Bid, es = l.map bidV) ∧ es.length ≤ 1000000) (fun es _ => .bool ((es.map bidOf).any fun x => !vB x))
theorem k_ctS_49 {args : List PV} : B6 49 args = ixS args := rfl
theorem w_ctS : PSound GG 33 ctS := by
  refine PSound.of_wpc (C := cxP Tryz.prog B6 [] 9) (T := plan0) Tryz.func33 rfl rfl rfl (Fit.pure (G := GG) hB6 mixed) (fun args h => ?_)
  unfold ctS at h
  obtain ⟨es, f, rfl, hp⟩ := on_lp_inv h
  refine ⟨by simp [cxP], ?_⟩
  simp only [ctS, on_lp_eq, Tryz.f33, argL, plan0]
  obtain ⟨rfl, ⟨l, rfl⟩, hl⟩ := hp
  simp only [map_bidOf, k_ctS_49, ixS, on_lp_eq, Tryz.underlying3, sz3, by3, ze3, Tryz.underlying4, sz4, by4, ze4, Tryz.underlying23, sz23, by23, ze23, Tryz.underlying29, sz29, by29, ze29, fa29_0, fa29_1, fa29_2, fa29_3, fa29_4, Tryz.underlying40, sz40, by40, ze40, go_sem, ↓reduceIte, reduceCtorEq, Nat.reduceEqDiff, Nat.reduceLT, ↓all_qV, Int.reduceToNat, Int.reduceLT, Int.reduceLE, Nat.reduceAdd, Nat.reduceLeDiff, Nat.reduceMul]
  exact ⟨⟨⟨l, rfl⟩, hl⟩, by rw [← ixG_any 0 l]⟩
noncomputable def B7 (g : FuncId) : PSpec := (putΦ B6 33 ctS) g
theorem hB7 : TabSound GG B7 := (hB6.put w_ctS)
/-! ### Check -/
def nameV (x : Bid) : PV := .agg [.int .i64 x.b, .int .i64 x.n]
def seenV (l : List Bid) : List (PV × PV) := l.map fun x => (nameV x, .bool true)
/-- A name that stands already. -/
def namB (x : Bid) (l : List Bid) : Bool := l.any fun y => y.b == x.b && y.n == x.n
theorem key_eq (x y : Bid) : keyEqB (nameV x) (nameV y) = (y.b == x.b && y.n == x.n) := by
  have h1 : ∀ a b : Int, (a == b) = (b == a) := fun a b => by rw [Bool.eq_iff_iff, beq_iff_eq, beq_iff_eq]; exact eq_comm
  simp only [nameV, keyEqB, keyEqL, keyEq1, Bool.and_true]
  rw [h1 x.b, h1 x.n]
theorem seen_get (x : Bid) : ∀ l : List Bid, mval (.bool false) (nameV x) (seenV l) = .bool (namB x l)
  | [] => rfl
  | y :: r => by
    have ih := seen_get x r
    unfold mval seenV namB at ih ⊢
    simp only [List.map_cons, List.any_cons, mget]
    rw [key_eq]
    by_cases h : (y.b == x.b && y.n == x.n) = true
    · rw [if_pos h, h]; rfl
    · rw [if_neg h]
      have : (y.b == x.b && y.n == x.n) = false := by simpa using h
      rw [this, Bool.false_or]; exact ih
theorem seen_put (x : Bid) : ∀ {l : List Bid}, namB x l = false → mput (nameV x) (.bool true) (seenV l) = seenV (l ++ [x])
  | [], _ => rfl
  | y :: r, h => by
    unfold namB at h
    rw [List.any_cons, Bool.or_eq_false_iff] at h
    have e : keyEqB (nameV x) (nameV y) = false := by rw [key_eq]; exact h.1
    have ih := seen_put x (l := r) h.2
    unfold seenV at ih ⊢
    simp only [List.map_cons, List.cons_append, mput, e, Bool.false_eq_true, if_false]
    rw [ih]
theorem seen_keys {P : Program} {t : TypeId} (h : ∀ a b : Int, keyOkB P t (.agg [.int .i64 a, .int .i64 b]) = true) (l : List Bid) : ∀ p, p ∈ seenV l → keyOkB P t p.1 = true := by
  intro p hp
  obtain ⟨x, _, rfl⟩ := List.mem_map.1 hp
  exact h _ _
/-- No name stands twice. -/
def okNs : List Bid → List Bid → Bool
  | _, [] => true
  | seen, x :: r => !namB x seen && okNs (seen ++ [x]) r
def chkF (l : List Bid) : Int := bif decide (60 < (l.length : Int)) then 3 else bif l.any (fun x => !vB x) then 74 else bif okNs [] l then 0 else 7
noncomputable def checkS : PSpec := on_l (fun es => (∃ l : List Bid, es = l.map bidV) ∧ es.length ≤ 1000000) (fun es => .int .i64 (chkF (es.map bidOf)))
theorem keyN {a b : Int} : keyOkB Tryz.prog 64 (.agg [.int .i64 a, .int .i64 b]) = true := by
  kernel_rfl
theorem k_checkS_33 {args : List PV} : B7 33 args = ctS args := rfl
theorem k_checkS_34 {args : List PV} : B7 34 args = chk1S args := rfl
theorem w_checkS : PSound GG 10 checkS := by
  refine PSound.of_wpc (C := cxP Tryz.prog B7 [] 32) (T := plan0) Tryz.func10 rfl rfl rfl (Fit.pure (G := GG) hB7 mixed) (fun args h => ?_)
  unfold checkS at h
  obtain ⟨es, rfl, hp⟩ := on_l_inv h
  refine ⟨by simp [cxP], ?_⟩
  simp only [checkS, on_l_eq, Tryz.f10, argL, plan0]
  obtain ⟨⟨l, rfl⟩, hl⟩ := hp
  simp only [List.length_map] at hl
  simp only [map_bidOf, List.length_map, k_checkS_33, ctS, on_lp_eq, k_checkS_34, chk1S, on_p_eq, Tryz.underlying1, sz1, by1, ze1, Tryz.underlying3, sz3, by3, ze3, Tryz.underlying4, sz4, by4, ze4, Tryz.underlying23, sz23, by23, ze23, Tryz.underlying29, sz29, by29, ze29, fa29_0, fa29_1, fa29_2, fa29_3, fa29_4, Tryz.underlying32, sz32, by32, ze32, Tryz.underlying40, sz40, by40, ze40, Tryz.underlying63, sz63, by63, ze63, Tryz.underlying64, sz64, by64, ze64, go_sem, ↓reduceIte, reduceCtorEq, Nat.reduceEqDiff, Nat.reduceLT, ↓all_qV, Int.reduceToNat, Int.reduceLT, Int.reduceLE, Nat.reduceAdd, Nat.reduceLeDiff, Nat.reduceMul]
  refine ⟨fun h1 => by unfold chkF; rw [h1]; rfl, fun h1 => ⟨⟨⟨l, rfl⟩, hl⟩, fun h2 => by unfold chkF; rw [h1, h2]; rfl, fun h2 => ?_⟩⟩
  have hres : chkF l = bif okNs [] l then 0 else 7 := by unfold chkF; rw [h1, h2]; rfl
  rw [hres]
  refine AWp.loop (T := plan0) (α := Nat) (fun i => ([(3, .mp 14), (15, .pv (.sl (l.map bidV))), (16, .pv (.int .i64 l.length)), (17, .pv (.int .i64 i))], [(14, .map (seenV (l.take i)))]))
    (fun i => i ≤ l.length ∧ okNs [] l = okNs (l.take i) (l.drop i)) (fun i => l.length - i)
    ⟨0, ⟨Nat.zero_le _, by simp⟩, ⟨by simp [fitR, look], by simp [fitH, hget, seenV], rfl, rfl, rfl⟩⟩ ?_
  rintro i ⟨g1, g2⟩
  have hi1 : IntKind.i64.wrap ((i : Int) + 1) = ((i + 1 : Nat) : Int) := by rw [i64_in _ (by omega)]; omega
  by_cases hlt : i < l.length
  · have c0 : decide ((i : Int) < (l.length : Int)) = true := by simp; omega
    have e1 := getD_bid hlt
    rw [drop_cons' hlt, okNs] at g2
    have htk := take_succ' hlt
    generalize l.getD i default = x at e1 g2 htk
    obtain ⟨b, n, p, a, f⟩ := x
    have sg := seen_get ⟨b, n, p, a, f⟩ (l.take i)
    have sp := seen_put ⟨b, n, p, a, f⟩ (l := l.take i)
    have sk := seen_keys (P := Tryz.prog) (t := 64) (fun a b => keyN) (l.take i)
    simp only [bidV, nameV] at e1 sg sp g2
    simp only [c0, e1, hi1, sg, bidOf_agg, keyN, List.length_map, List.take_succ_cons, List.take_nil, k_checkS_33, ctS, on_lp_eq, k_checkS_34, chk1S, on_p_eq, Tryz.underlying1, sz1, by1, ze1, Tryz.underlying3, sz3, by3, ze3, Tryz.underlying4, sz4, by4, ze4, Tryz.underlying23, sz23, by23, ze23, Tryz.underlying29, sz29, by29, ze29, fa29_0, fa29_1, fa29_2, fa29_3, fa29_4, Tryz.underlying32, sz32, by32, ze32, Tryz.underlying40, sz40, by40, ze40, Tryz.underlying63, sz63, by63, ze63, Tryz.underlying64, sz64, by64, ze64, plan0, go_sem, ↓reduceIte, reduceCtorEq, Nat.reduceEqDiff, Nat.reduceLT, ↓all_qV, Int.reduceToNat, Int.reduceLT, Int.reduceLE, Nat.reduceAdd, Nat.reduceLeDiff, Nat.reduceMul, ev_callG, gcallK_b, gcallK_w, callGc_true, callGc_false, List.forall_mem_cons, List.not_mem_nil, PV.one, AV.one]
    and_intros
    all_goals try first | (show checkD _ _ _ = true; kernel_rfl) | omega | (intros; omega) | rfl | trivial | assumption
    · intro h9
      rw [g2, h9]; rfl
    · intro h9
      refine ⟨sk, i + 1, ⟨by omega, ?_⟩, by omega, ⟨by simp [fitR, look], ?_, rfl, rfl, rfl⟩⟩
      · rw [g2, h9, htk]; rfl
      · rw [htk, ← sp h9]; simp [fitH, hget]
  · have c0 : decide ((i : Int) < (l.length : Int)) = false := by simp; omega
    rw [List.drop_eq_nil_of_le (by omega)] at g2
    simp only [c0, List.length_map, Tryz.underlying1, sz1, by1, ze1, Tryz.underlying3, sz3, by3, ze3, Tryz.underlying4, sz4, by4, ze4, Tryz.underlying23, sz23, by23, ze23, Tryz.underlying29, sz29, by29, ze29, fa29_0, fa29_1, fa29_2, fa29_3, fa29_4, Tryz.underlying32, sz32, by32, ze32, Tryz.underlying40, sz40, by40, ze40, Tryz.underlying63, sz63, by63, ze63, Tryz.underlying64, sz64, by64, ze64, plan0, go_sem, ↓reduceIte, reduceCtorEq, Nat.reduceEqDiff, Nat.reduceLT, ↓all_qV, Int.reduceToNat, Int.reduceLT, Int.reduceLE, Nat.reduceAdd, Nat.reduceLeDiff, Nat.reduceMul]
    rw [g2]; rfl
noncomputable def B8 (g : FuncId) : PSpec := (putΦ B7 10 checkS) g
theorem hB8 : TabSound GG B8 := (hB7.put w_checkS)
/-! ### Total -/
def totF (f : Bool) : List Bid → Int
  | [] => 0
  | x :: r => (bif vB x && x.f == f then x.a else 0) + totF f r
theorem totF_app (f : Bool) : ∀ p q : List Bid, totF f (p ++ q) = totF f p + totF f q
  | [], q => by simp [totF]
  | x :: p, q => by simp only [List.cons_append, totF, totF_app f p q]; omega
theorem vB_a {x : Bid} (h : vB x = true) : 1000 ≤ x.a ∧ x.a ≤ 1000000000 := by
  simp only [vB, lotB, amg, Bool.and_eq_true, decide_eq_true_eq] at h
  exact h.1.2.1
theorem totF_le (f : Bool) : ∀ l : List Bid, 0 ≤ totF f l ∧ totF f l ≤ l.length * 1000000000
  | [] => by simp [totF]
  | x :: r => by
    have ih := totF_le f r
    simp only [totF, List.length_cons, Int.natCast_add, Int.add_mul]
    cases h : vB x && x.f == f with
    | false => simp only [cond_false]; omega
    | true =>
      simp only [Bool.and_eq_true] at h
      have := vB_a h.1
      simp only [cond_true]; omega
noncomputable def totalS : PSpec := on_lb (fun es f => (∃ l : List Bid, es = l.map bidV) ∧ es.length ≤ 1000000) (fun es f => .int .i64 (totF f (es.map bidOf)))
theorem k_totalS_19 {args : List PV} : B8 19 args = validS args := rfl
theorem w_totalS : PSound GG 15 totalS := by
  refine PSound.of_wpc (C := cxP Tryz.prog B8 [] 28) (T := plan0) Tryz.func15 rfl rfl rfl (Fit.pure (G := GG) hB8 mixed) (fun args h => ?_)
  unfold totalS at h
  obtain ⟨es, fr, rfl, hp⟩ := on_lb_inv h
  refine ⟨by simp [cxP], ?_⟩
  simp only [totalS, on_lb_eq, Tryz.f15, argL, plan0]
  obtain ⟨⟨l, rfl⟩, hl⟩ := hp
  simp only [List.length_map] at hl
  simp only [map_bidOf, List.length_map, k_totalS_19, validS, on_p_eq, Tryz.underlying3, sz3, by3, ze3, Tryz.underlying4, sz4, by4, ze4, Tryz.underlying23, sz23, by23, ze23, Tryz.underlying29, sz29, by29, ze29, fa29_0, fa29_1, fa29_2, fa29_3, fa29_4, go_sem, ↓reduceIte, reduceCtorEq, Nat.reduceEqDiff, Nat.reduceLT, ↓all_qV, Int.reduceToNat, Int.reduceLT, Int.reduceLE, Nat.reduceAdd, Nat.reduceLeDiff, Nat.reduceMul]
  refine AWp.loop (T := plan0) (α := Nat) (fun i => ([(1, .pv (.bool fr)), (5, .pv (.int .i64 (totF fr (l.take i)))), (8, .pv (.sl (l.map bidV))), (9, .pv (.int .i64 l.length)), (10, .pv (.int .i64 i))], [])) (fun i => i ≤ l.length) (fun i => l.length - i)
    ⟨0, Nat.zero_le _, ⟨by simp [fitR, look, totF], trivial, rfl, rfl, rfl⟩⟩ ?_
  intro i h1
  have hi1 : IntKind.i64.wrap ((i : Int) + 1) = ((i + 1 : Nat) : Int) := by rw [i64_in _ (by omega)]; omega
  by_cases hlt : i < l.length
  · have c0 : decide ((i : Int) < (l.length : Int)) = true := by simp; omega
    have e1 := getD_bid hlt
    have htk := take_succ' hlt
    have hb := totF_le fr (l.take i)
    rw [List.length_take] at hb
    generalize l.getD i default = x at e1 htk
    obtain ⟨b, n, p, a, f⟩ := x
    simp only [bidV] at e1
    have hst : totF fr (l.take (i + 1)) = totF fr (l.take i) + (bif vB ⟨b, n, p, a, f⟩ && f == fr then a else 0) := by rw [htk, totF_app]; simp [totF]
    generalize totF fr (l.take i) = T at hb hst ⊢
    simp only [c0, e1, hi1, bidOf_agg, List.length_map, List.take_succ_cons, List.take_nil, k_totalS_19, validS, on_p_eq, Tryz.underlying3, sz3, by3, ze3, Tryz.underlying4, sz4, by4, ze4, Tryz.underlying23, sz23, by23, ze23, Tryz.underlying29, sz29, by29, ze29, fa29_0, fa29_1, fa29_2, fa29_3, fa29_4, plan0, go_sem, ↓reduceIte, reduceCtorEq, Nat.reduceEqDiff, Nat.reduceLT, ↓all_qV, Int.reduceToNat, Int.reduceLT, Int.reduceLE, Nat.reduceAdd, Nat.reduceLeDiff, Nat.reduceMul, ev_callG, gcallK_b, gcallK_w, callGc_true, callGc_false, List.forall_mem_cons, List.not_mem_nil, PV.one, AV.one]
    and_intros
    all_goals try first | (show checkD _ _ _ = true; kernel_rfl) | omega | (intros; omega) | rfl | trivial | assumption | exact isBid_agg
    · exact fun _ => rfl
    · intro h9
      have hv := vB_a (x := ⟨b, n, p, a, f⟩) (by simp only [Bool.and_eq_true] at h9; exact h9.1)
      simp only at hv
      have hw : IntKind.i64.wrap (T + a) = T + a := i64_in _ (by omega)
      rw [hw]
      refine ⟨i + 1, by omega, by omega, ⟨?_, trivial, rfl, rfl, rfl⟩⟩
      rw [hst, h9]
      simp [fitR, look]
    · intro h9
      refine ⟨i + 1, by omega, by omega, ⟨?_, trivial, rfl, rfl, rfl⟩⟩
      rw [hst, h9]
      simp [fitR, look]
  · have c0 : decide ((i : Int) < (l.length : Int)) = false := by simp; omega
    rw [List.take_of_length_le (by omega)]
    simp only [c0, List.length_map, Tryz.underlying3, sz3, by3, ze3, Tryz.underlying4, sz4, by4, ze4, Tryz.underlying23, sz23, by23, ze23, Tryz.underlying29, sz29, by29, ze29, fa29_0, fa29_1, fa29_2, fa29_3, fa29_4, plan0, go_sem, ↓reduceIte, reduceCtorEq, Nat.reduceEqDiff, Nat.reduceLT, ↓all_qV, Int.reduceToNat, Int.reduceLT, Int.reduceLE, Nat.reduceAdd, Nat.reduceLeDiff, Nat.reduceMul]
theorem w_itoaQ : PSound GG 46 itoaQ := w_itoaS
noncomputable def B9 (g : FuncId) : PSpec := (putΦ (putΦ (putΦ B8 15 totalS) 47 joinQ) 46 itoaQ) g
theorem hB9 : TabSound GG B9 := (((hB8.put w_totalS).put w_joinQ).put w_itoaQ)
end Go.AM
