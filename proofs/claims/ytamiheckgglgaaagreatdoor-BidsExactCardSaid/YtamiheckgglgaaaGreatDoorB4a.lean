/-
  A part of a proof: see the last text of this claim for what is proved.
-/
import Derived.Test.YtamiheckgglgaaaGreatDoorL2
import Derived.Test.YtamiheckgglgaaaGreatDoorGH
import Derived.Test.YtamiheckgglgaaaGreatDoorZMa
/-! bids: valid bids, their order -/
namespace Go.AM
open Go Go.Proofs Go.IntWalk
set_option maxRecDepth 100000
set_option maxHeartbeats 1000000
set_option linter.unusedSimpArgs false
set_option linter.unusedVariables false
def on_pp (p : PV → PV → Prop) (f : PV → PV → PV) : PSpec
  | [a0, a1] => (p a0 a1, f a0 a1)
  | _ => (False, default)
theorem on_pp_eq {p : PV → PV → Prop} {f : PV → PV → PV} {a0 : PV} {a1 : PV} : on_pp p f [a0, a1] = (p a0 a1, f a0 a1) := rfl
theorem on_pp_inv {p : PV → PV → Prop} {f : PV → PV → PV} {args : List PV} (h : (on_pp p f args).1) : ∃ a0 : PV, ∃ a1 : PV, args = [a0, a1] ∧ p a0 a1 := by
  unfold on_pp at h
  split at h
  · exact ⟨_, _, rfl, h⟩
  · exact h.elim
def nOf : PV → Int
  | .int _ n => n
  | _ => 0
theorem getD_intV {l : List Int} {i : Nat} (h : i < l.length) : (l.map intV).getD i default = .int .i64 (l.getD i 0) := by
  simp [List.getD_eq_getElem?_getD, h, intV]
theorem getD_mem {l : List PV} {i : Nat} (h : i < l.length) : l.getD i default ∈ l := by
  rw [List.getD_eq_getElem?_getD, List.getElem?_eq_getElem h]; exact List.getElem_mem _
theorem take_succ_getD {l : List PV} {i : Nat} (h : i < l.length) : l.take (i + 1) = l.take i ++ [l.getD i default] := by
  rw [List.take_add_one, List.getD_eq_getElem?_getD, List.getElem?_eq_getElem h]; rfl
theorem intBeq (a b : Int) : (a == b) = decide (a = b) := by by_cases h : a = b <;> simp [h]
def amg (a b c : Int) : Bool := decide (b ≤ a) && decide (a ≤ c)
noncomputable def amongS : PSpec := on_iii (fun _ _ _ => True) (fun a b c => .bool (amg a b c))
theorem w_amongS : PSound GG 38 amongS := by
  refine PSound.of_wpc (C := cxP Tryz.prog Φ0 [] 15) (T := plan0) Tryz.func38 rfl rfl rfl (Fit.pure (G := GG) hΦ0 mixed) (fun args h => ?_)
  unfold amongS at h
  obtain ⟨a, b, c, rfl, hp⟩ := on_iii_inv h
  refine ⟨by simp [cxP], ?_⟩
  simp only [amongS, on_iii_eq, Tryz.f38, argL, plan0]
  simp only [go_sem, ↓reduceIte, reduceCtorEq, Nat.reduceEqDiff, Nat.reduceLT, ↓all_qV, Int.reduceToNat, Int.reduceLT, Int.reduceLE, Nat.reduceAdd, Nat.reduceLeDiff, Nat.reduceMul]
  rfl
def cmpI (a b : Int) : Int := bif decide (a < b) then -1 else bif decide (b < a) then 1 else 0
noncomputable def nanIS : PSpec := on_i (fun _ => True) (fun _ => .bool false)
theorem w_nanIS : PSound GG 67 nanIS := by
  refine PSound.of_wpc (C := cxP Tryz.prog Φ0 [] 6) (T := plan0) Tryz.func67 rfl rfl rfl (Fit.pure (G := GG) hΦ0 mixed) (fun args h => ?_)
  unfold nanIS at h
  obtain ⟨n, rfl, hp⟩ := on_i_inv h
  refine ⟨by simp [cxP], ?_⟩
  simp only [nanIS, on_i_eq, Tryz.f67, argL, plan0]
  simp only [Tryz.underlying3, sz3, by3, ze3, Tryz.underlying4, sz4, by4, ze4, go_sem, ↓reduceIte, reduceCtorEq, Nat.reduceEqDiff, Nat.reduceLT, ↓all_qV, Int.reduceToNat, Int.reduceLT, Int.reduceLE, Nat.reduceAdd, Nat.reduceLeDiff, Nat.reduceMul]
  simp
noncomputable def B0 (g : FuncId) : PSpec := (putΦ Φ0 67 nanIS) g
theorem hB0 : TabSound GG B0 := (hΦ0.put w_nanIS)
noncomputable def cmpIS : PSpec := on_ii (fun _ _ => True) (fun a b => .int .i64 (cmpI a b))
theorem k_cmpIS_67 {args : List PV} : B0 67 args = nanIS args := rfl
theorem w_cmpIS : PSound GG 52 cmpIS := by
  refine PSound.of_wpc (C := cxP Tryz.prog B0 [] 20) (T := plan0) Tryz.func52 rfl rfl rfl (Fit.pure (G := GG) hB0 mixed) (fun args h => ?_)
  unfold cmpIS at h
  obtain ⟨a, b, rfl, hp⟩ := on_ii_inv h
  refine ⟨by simp [cxP], ?_⟩
  simp only [cmpIS, on_ii_eq, Tryz.f52, argL, plan0]
  simp only [k_cmpIS_67, nanIS, on_i_eq, Tryz.underlying3, sz3, by3, ze3, Tryz.underlying4, sz4, by4, ze4, go_sem, ↓reduceIte, reduceCtorEq, Nat.reduceEqDiff, Nat.reduceLT, ↓all_qV, Int.reduceToNat, Int.reduceLT, Int.reduceLE, Nat.reduceAdd, Nat.reduceLeDiff, Nat.reduceMul]
  refine ⟨fun h1 => ?_, fun h1 => ⟨fun h2 => ?_, fun h2 => ?_⟩⟩ <;> unfold cmpI
  · rw [h1]; rfl
  · rw [h1, h2]; rfl
  · rw [h1, h2]; rfl
def orF : List Int → Int
  | [] => 0
  | x :: r => bif x != 0 then x else orF r
noncomputable def orS : PSpec := on_l (fun es => ∃ l : List Int, es = l.map intV ∧ l.length ≤ 1000000000000) (fun es => .int .i64 (orF (es.map nOf)))
theorem w_orS : PSound GG 51 orS := by
  refine PSound.of_wpc (C := cxP Tryz.prog Φ0 [] 18) (T := plan0) Tryz.func51 rfl rfl rfl (Fit.pure (G := GG) hΦ0 mixed) (fun args h => ?_)
  unfold orS at h
  obtain ⟨es, rfl, hp⟩ := on_l_inv h
  refine ⟨by simp [cxP], ?_⟩
  simp only [orS, on_l_eq, Tryz.f51, argL, plan0]
  obtain ⟨l, rfl, hl⟩ := hp
  have hn : ∀ l : List Int, (l.map intV).map nOf = l := fun l => by simp [List.map_map, Function.comp_def, nOf, intV]
  simp only [hn, List.length_map, Tryz.underlying3, sz3, by3, ze3, Tryz.underlying4, sz4, by4, ze4, Tryz.underlying22, sz22, by22, ze22, go_sem, ↓reduceIte, reduceCtorEq, Nat.reduceEqDiff, Nat.reduceLT, ↓all_qV, Int.reduceToNat, Int.reduceLT, Int.reduceLE, Nat.reduceAdd, Nat.reduceLeDiff, Nat.reduceMul]
  refine AWp.loop (T := plan0) (α := Nat) (fun i => ([(3, .pv (.int .i64 0)), (6, .pv (.sl (l.map intV))), (7, .pv (.int .i64 l.length)), (8, .pv (.int .i64 i))], [])) (fun i => i ≤ l.length ∧ orF (l.drop i) = orF l) (fun i => l.length - i)
    ⟨0, ⟨Nat.zero_le _, rfl⟩, ⟨by simp [fitR, look], trivial, rfl, rfl, rfl⟩⟩ ?_
  rintro i ⟨h1, h2⟩
  have hi1 : IntKind.i64.wrap ((i : Int) + 1) = ((i + 1 : Nat) : Int) := by rw [i64_in _ (by omega)]; omega
  by_cases hlt : i < l.length
  · have c0 : decide ((i : Int) < (l.length : Int)) = true := by simp; omega
    have k1 := getD_intV hlt
    rw [List.drop_eq_getElem_cons hlt, orF] at h2
    have e2 : l.getD i 0 = l[i] := by simp [List.getD_eq_getElem?_getD, hlt]
    rw [e2] at k1
    simp only [c0, k1, hi1, List.length_map, Tryz.underlying3, sz3, by3, ze3, Tryz.underlying4, sz4, by4, ze4, Tryz.underlying22, sz22, by22, ze22, plan0, go_sem, ↓reduceIte, reduceCtorEq, Nat.reduceEqDiff, Nat.reduceLT, ↓all_qV, Int.reduceToNat, Int.reduceLT, Int.reduceLE, Nat.reduceAdd, Nat.reduceLeDiff, Nat.reduceMul]
    refine ⟨⟨by omega, by omega⟩, fun h3 => ?_, fun h3 => ⟨i + 1, ⟨by omega, ?_⟩, by omega, ⟨by simp [fitR, look], trivial, rfl, rfl, rfl⟩⟩⟩
    · rw [h3] at h2; rw [← h2]; rfl
    · rw [h3] at h2; exact h2
  · have c0 : decide ((i : Int) < (l.length : Int)) = false := by simp; omega
    rw [List.drop_eq_nil_of_le (by omega)] at h2
    simp only [c0, List.length_map, Tryz.underlying3, sz3, by3, ze3, Tryz.underlying4, sz4, by4, ze4, Tryz.underlying22, sz22, by22, ze22, plan0, go_sem, ↓reduceIte, reduceCtorEq, Nat.reduceEqDiff, Nat.reduceLT, ↓all_qV, Int.reduceToNat, Int.reduceLT, Int.reduceLE, Nat.reduceAdd, Nat.reduceLeDiff, Nat.reduceMul]
    rw [← h2]; rfl
noncomputable def B1 (g : FuncId) : PSpec := (putΦ (putΦ (putΦ B0 38 amongS) 52 cmpIS) 51 orS) g
theorem hB1 : TabSound GG B1 := (((hB0.put w_amongS).put w_cmpIS).put w_orS)
def lotB (n : Int) : Bool := amg n 1000 1000000000 && decide (n.tmod 1000 = 0)
noncomputable def lotsS : PSpec := on_i (fun _ => True) (fun n => .bool (lotB n))
theorem k_lotsS_38 {args : List PV} : B1 38 args = amongS args := rfl
theorem w_lotsS : PSound GG 39 lotsS := by
  refine PSound.of_wpc (C := cxP Tryz.prog B1 [] 10) (T := plan0) Tryz.func39 rfl rfl rfl (Fit.pure (G := GG) hB1 mixed) (fun args h => ?_)
  unfold lotsS at h
  obtain ⟨n, rfl, hp⟩ := on_i_inv h
  refine ⟨by simp [cxP], ?_⟩
  simp only [lotsS, on_i_eq, Tryz.f39, argL, plan0]
  simp only [k_lotsS_38, amongS, on_iii_eq, Tryz.underlying3, sz3, by3, ze3, Tryz.underlying4, sz4, by4, ze4, go_sem, ↓reduceIte, reduceCtorEq, Nat.reduceEqDiff, Nat.reduceLT, ↓all_qV, Int.reduceToNat, Int.reduceLT, Int.reduceLE, Nat.reduceAdd, Nat.reduceLeDiff, Nat.reduceMul]
  refine ⟨fun _ => by decide, ?_⟩
  unfold lotB
  rw [intBeq]
noncomputable def B2 (g : FuncId) : PSpec := (putΦ B1 39 lotsS) g
theorem hB2 : TabSound GG B2 := (hB1.put w_lotsS)
/-- A bid: bidder, number, price, amount, free. -/
structure Bid where
  b : Int
  n : Int
  p : Int
  a : Int
  f : Bool
  deriving DecidableEq, Inhabited
def bidV (x : Bid) : PV := .agg [.int .i64 x.b, .int .i64 x.n, .int .i64 x.p, .int .i64 x.a, .bool x.f]
def bidOf : PV → Bid
  | .agg [.int _ b, .int _ n, .int _ p, .int _ a, .bool f] => ⟨b, n, p, a, f⟩
  | _ => default
theorem bidOf_bidV (x : Bid) : bidOf (bidV x) = x := rfl
theorem bidOf_agg {b n p a : Int} {f : Bool} : bidOf (.agg [.int .i64 b, .int .i64 n, .int .i64 p, .int .i64 a, .bool f]) = ⟨b, n, p, a, f⟩ := rfl
theorem map_bidOf (l : List Bid) : (l.map bidV).map bidOf = l := by simp [List.map_map, Function.comp_def, bidOf_bidV]
theorem getD_bid {l : List Bid} {i : Nat} (h : i < l.length) : (l.map bidV).getD i default = bidV (l.getD i default) := by
  simp [List.getD_eq_getElem?_getD, h]
theorem okBid {H : AHeap} {b n p a : Int} {f : Bool} : ∀ c, c ∈ [AV.pv (.int .i64 b), .pv (.int .i64 n), .pv (.int .i64 p), .pv (.int .i64 a), .pv (.bool f)] → c.one = true ∧ frzOk H 3 c := by
  intro c hc
  simp only [List.mem_cons, List.not_mem_nil, or_false] at hc
  rcases hc with rfl | rfl | rfl | rfl | rfl <;> exact ⟨rfl, trivial⟩
def isBid (e : PV) : Prop := ∃ x : Bid, e = bidV x
theorem isBid_agg {b n p a : Int} {f : Bool} : isBid (.agg [.int .i64 b, .int .i64 n, .int .i64 p, .int .i64 a, .bool f]) := ⟨⟨b, n, p, a, f⟩, rfl⟩
def vB (x : Bid) : Bool := amg x.b 1 40 && amg x.n 1 40 && lotB x.a && (bif x.f then decide (x.p = 0) else amg x.p 1 200000)
noncomputable def validS : PSpec := on_p isBid (fun e => .bool (vB (bidOf e)))
theorem k_validS_38 {args : List PV} : B2 38 args = amongS args := rfl
theorem k_validS_39 {args : List PV} : B2 39 args = lotsS args := rfl
theorem w_validS : PSound GG 19 validS := by
  refine PSound.of_wpc (C := cxP Tryz.prog B2 [] 28) (T := plan0) Tryz.func19 rfl rfl rfl (Fit.pure (G := GG) hB2 mixed) (fun args h => ?_)
  unfold validS at h
  obtain ⟨e, rfl, hp⟩ := on_p_inv h
  refine ⟨by simp [cxP], ?_⟩
  simp only [validS, on_p_eq, Tryz.f19, argL, plan0]
  obtain ⟨⟨b, n, p, a, f⟩, rfl⟩ := hp
  cases f <;> simp only [bidV, bidOf_agg, vB, k_validS_38, amongS, on_iii_eq, k_validS_39, lotsS, on_i_eq, Tryz.underlying1, sz1, by1, ze1, Tryz.underlying2, sz2, by2, ze2, Tryz.underlying3, sz3, by3, ze3, Tryz.underlying4, sz4, by4, ze4, Tryz.underlying29, sz29, by29, ze29, fa29_0, fa29_1, fa29_2, fa29_3, fa29_4, go_sem, ↓reduceIte, reduceCtorEq, Nat.reduceEqDiff, Nat.reduceLT, ↓all_qV, Int.reduceToNat, Int.reduceLT, Int.reduceLE, Nat.reduceAdd, Nat.reduceLeDiff, Nat.reduceMul] <;> simp [intBeq] <;> rfl
noncomputable def B3 (g : FuncId) : PSpec := (putΦ B2 19 validS) g
theorem hB3 : TabSound GG B3 := (hB2.put w_validS)
def cmpB (x y : Bid) : Int := orF [cmpI x.b y.b, cmpI x.n y.n]
noncomputable def compareS : PSpec := on_pp (fun a b => isBid a ∧ isBid b) (fun a b => .int .i64 (cmpB (bidOf a) (bidOf b)))
theorem k_compareS_51 {args : List PV} : B3 51 args = orS args := rfl
theorem k_compareS_52 {args : List PV} : B3 52 args = cmpIS args := rfl
theorem w_compareS : PSound GG 37 compareS := by
  refine PSound.of_wpc (C := cxP Tryz.prog B3 [] 17) (T := plan0) Tryz.func37 rfl rfl rfl (Fit.pure (G := GG) hB3 mixed) (fun args h => ?_)
  unfold compareS at h
  obtain ⟨p, q, rfl, hp⟩ := on_pp_inv h
  refine ⟨by simp [cxP], ?_⟩
  simp only [compareS, on_pp_eq, Tryz.f37, argL, plan0]
  obtain ⟨⟨⟨b, n, p, a, f⟩, rfl⟩, ⟨⟨b', n', p', a', f'⟩, rfl⟩⟩ := hp
  simp only [bidV, bidOf_agg, cmpB, k_compareS_51, orS, on_l_eq, k_compareS_52, cmpIS, on_ii_eq, List.take_succ_cons, List.take_nil, Tryz.underlying1, sz1, by1, ze1, Tryz.underlying2, sz2, by2, ze2, Tryz.underlying3, sz3, by3, ze3, Tryz.underlying4, sz4, by4, ze4, Tryz.underlying22, sz22, by22, ze22, Tryz.underlying29, sz29, by29, ze29, fa29_0, fa29_1, fa29_2, fa29_3, fa29_4, go_sem, ↓reduceIte, reduceCtorEq, Nat.reduceEqDiff, Nat.reduceLT, ↓all_qV, Int.reduceToNat, Int.reduceLT, Int.reduceLE, Nat.reduceAdd, Nat.reduceLeDiff, Nat.reduceMul]
  exact ⟨by kernel_rfl, ⟨[cmpI b b', cmpI n n'], rfl, by simp⟩, rfl⟩
noncomputable def chk1S : PSpec := on_p isBid (fun e => .bool (!vB (bidOf e)))
theorem k_chk1S_19 {args : List PV} : B3 19 args = validS args := rfl
theorem w_chk1S : PSound GG 34 chk1S := by
  refine PSound.of_wpc (C := cxP Tryz.prog B3 [] 6) (T := plan0) Tryz.func34 rfl rfl rfl (Fit.pure (G := GG) hB3 mixed) (fun args h => ?_)
  unfold chk1S at h
  obtain ⟨e, rfl, hp⟩ := on_p_inv h
  refine ⟨by simp [cxP], ?_⟩
  simp only [chk1S, on_p_eq, Tryz.f34, argL, plan0]
  obtain ⟨⟨b, n, p, a, f⟩, rfl⟩ := hp
  simp only [bidV, bidOf_agg, k_chk1S_19, validS, on_p_eq, List.take_succ_cons, List.take_nil, Tryz.underlying3, sz3, by3, ze3, Tryz.underlying4, sz4, by4, ze4, Tryz.underlying29, sz29, by29, ze29, fa29_0, fa29_1, fa29_2, fa29_3, fa29_4, go_sem, ↓reduceIte, reduceCtorEq, Nat.reduceEqDiff, Nat.reduceLT, ↓all_qV, Int.reduceToNat, Int.reduceLT, Int.reduceLE, Nat.reduceAdd, Nat.reduceLeDiff, Nat.reduceMul]
  and_intros <;> first | exact okBid | exact isBid_agg
noncomputable def B4 (g : FuncId) : PSpec := (putΦ (putΦ B3 37 compareS) 34 chk1S) g
theorem hB4 : TabSound GG B4 := ((hB3.put w_compareS).put w_chk1S)
noncomputable def beforeS : PSpec := on_pp (fun a b => isBid a ∧ isBid b) (fun a b => .bool (decide (cmpB (bidOf a) (bidOf b) < 0)))
theorem k_beforeS_37 {args : List PV} : B4 37 args = compareS args := rfl
theorem w_beforeS : PSound GG 21 beforeS := by
  refine PSound.of_wpc (C := cxP Tryz.prog B4 [] 9) (T := plan0) Tryz.func21 rfl rfl rfl (Fit.pure (G := GG) hB4 mixed) (fun args h => ?_)
  unfold beforeS at h
  obtain ⟨p, q, rfl, hp⟩ := on_pp_inv h
  refine ⟨by simp [cxP], ?_⟩
  simp only [beforeS, on_pp_eq, Tryz.f21, argL, plan0]
  obtain ⟨⟨⟨b, n, p, a, f⟩, rfl⟩, ⟨⟨b', n', p', a', f'⟩, rfl⟩⟩ := hp
  simp only [bidV, bidOf_agg, k_beforeS_37, compareS, on_pp_eq, List.take_succ_cons, List.take_nil, Tryz.underlying3, sz3, by3, ze3, Tryz.underlying4, sz4, by4, ze4, Tryz.underlying29, sz29, by29, ze29, fa29_0, fa29_1, fa29_2, fa29_3, fa29_4, go_sem, ↓reduceIte, reduceCtorEq, Nat.reduceEqDiff, Nat.reduceLT, ↓all_qV, Int.reduceToNat, Int.reduceLT, Int.reduceLE, Nat.reduceAdd, Nat.reduceLeDiff, Nat.reduceMul]
  and_intros <;> first | exact okBid | exact isBid_agg | rfl
def befB (x y : Bid) : Bool := decide (x.b < y.b) || decide (x.b = y.b) && decide (x.n < y.n)
noncomputable def rbefS : PSpec := on_pp (fun a b => isBid a ∧ isBid b) (fun a b => .bool (befB (bidOf a) (bidOf b)))
theorem w_rbefS : PSound GG 22 rbefS := by
  refine PSound.of_wpc (C := cxP Tryz.prog B4 [] 24) (T := plan0) Tryz.func22 rfl rfl rfl (Fit.pure (G := GG) hB4 mixed) (fun args h => ?_)
  unfold rbefS at h
  obtain ⟨p, q, rfl, hp⟩ := on_pp_inv h
  refine ⟨by simp [cxP], ?_⟩
  simp only [rbefS, on_pp_eq, Tryz.f22, argL, plan0]
  obtain ⟨⟨⟨b, n, p, a, f⟩, rfl⟩, ⟨⟨b', n', p', a', f'⟩, rfl⟩⟩ := hp
  simp only [bidV, bidOf_agg, befB, true_and, List.take_succ_cons, List.take_nil, Tryz.underlying1, sz1, by1, ze1, Tryz.underlying3, sz3, by3, ze3, Tryz.underlying4, sz4, by4, ze4, Tryz.underlying29, sz29, by29, ze29, fa29_0, fa29_1, fa29_2, fa29_3, fa29_4, go_sem, ↓reduceIte, reduceCtorEq, Nat.reduceEqDiff, Nat.reduceLT, ↓all_qV, Int.reduceToNat, Int.reduceLT, Int.reduceLE, Nat.reduceAdd, Nat.reduceLeDiff, Nat.reduceMul]
  simp [intBeq]
  exact ⟨fun h1 h2 => ⟨h1, h2⟩, rfl⟩
noncomputable def B5 (g : FuncId) : PSpec := (putΦ (putΦ B4 21 beforeS) 22 rbefS) g
theorem hB5 : TabSound GG B5 := ((hB4.put w_beforeS).put w_rbefS)
end Go.AM
