/-
  A part of a proof: see the last text of this claim for what is proved.
-/
import Derived.Test.YtamiheckgglgaaaDoorL2
import Derived.Test.YtamiheckgglgaaaDoorGH
import Derived.Test.YtamiheckgglgaaaDoorZMa
/-! bids: valid bids, their order -/
namespace Go.AM
open Go Go.Proofs Go.IntWalk
set_option maxRecDepth 100000
set_option maxHeartbeats 1000000
set_option linter.unusedSimpArgs false
set_option linter.unusedVariables false
def on_pp (p : PV → PV → Prop) (f : PV → PV → PV) : PSpec
  | [a0, a1] => (p a0 a1, f a0 a1)
  | _ => (False, default)
theorem on_pp_eq {p : PV → PV → Prop} {f : PV → PV → PV} {a0 : PV} {a1 : PV} : on_pp p f [a0, a1] = (p a0 a1, f a0 a1) := rfl
theorem on_pp_inv {p : PV → PV → Prop} {f : PV → PV → PV} {args : List PV} (h : (on_pp p f args).1) : ∃ a0 : PV, ∃ a1 : PV, args = [a0, a1] ∧ p a0 a1 := by
  unfold on_pp at h
  split at h
  · exact ⟨_, _, rfl, h⟩
  · exact h.elim
def nOf : PV → Int
  | .int _ n => n
  | _ => 0
theorem getD_intV {l : List Int} {i : Nat} (h : i < l.length) : (l.map intV).getD i default = .int .i64 (l.getD i 0) := by
  simp [List.getD_eq_getElem?_getD, h, intV]
theorem getD_mem {l : List PV} {i : Nat} (h : i < l.length) : l.getD i default ∈ l := by
  rw [List.getD_eq_getElem?_getD, List.getElem?_eq_getElem h]; exact List.getElem_mem _
theorem take_succ_getD {l : List PV} {i : Nat} (h : i < l.length) : l.take (i + 1) = l.take i ++ [l.getD i default] := by
  rw [List.take_add_one, List.getD_eq_getElem?_getD, List.getElem?_eq_getElem h]; rfl
theorem intBeq (a b : Int) : (a == b) = decide (a = b) := by by_cases h : a = b <;> simp [h]
def amg (a b c : Int) : Bool := decide (b ≤ a) && decide (a ≤ c)
noncomputable def amongS : PSpec := on_iii (fun _ _ _ => True) (fun a b c => .bool (amg a b c))
theorem w_amongS : PSound GG 39 amongS := by
  refine PSound.of_wpc (C := cxP Tryd.prog Φ0 [] 15) (T := plan0) Tryd.func39 rfl rfl rfl (Fit.pure (G := GG) hΦ0 mixed) (fun args h => ?_)
  unfold amongS at h
  obtain ⟨a, b, c, rfl, hp⟩ := on_iii_inv h
  refine ⟨by simp [cxP], ?_⟩
  simp only [amongS, on_iii_eq, Tryd.f39, argL, plan0]
  simp only [go_sem, ↓reduceIte, reduceCtorEq, Nat.reduceEqDiff, Nat.reduceLT, ↓all_qV, Int.reduceToNat, Int.reduceLT, Int.reduceLE, Nat.reduceAdd, Nat.reduceLeDiff, Nat.reduceMul]
  rfl
def cmpI (a b : Int) : Int := bif decide (a < b) then -1 else bif decide (b < a) then 1 else 0
noncomputable def nanIS : PSpec := on_i (fun _ => True) (fun _ => .bool false)
theorem w_nanIS : PSound GG 55 nanIS := by
  refine PSound.of_wpc (C := cxP Tryd.prog Φ0 [] 6) (T := plan0) Tryd.func55 rfl rfl rfl (Fit.pure (G := GG) hΦ0 mixed) (fun args h => ?_)
  unfold nanIS at h
  obtain ⟨n, rfl, hp⟩ := on_i_inv h
  refine ⟨by simp [cxP], ?_⟩
  simp only [nanIS, on_i_eq, Tryd.f55, argL, plan0]
  simp only [Tryd.underlying3, sz3, by3, ze3, Tryd.underlying4, sz4, by4, ze4, go_sem, ↓reduceIte, reduceCtorEq, Nat.reduceEqDiff, Nat.reduceLT, ↓all_qV, Int.reduceToNat, Int.reduceLT, Int.reduceLE, Nat.reduceAdd, Nat.reduceLeDiff, Nat.reduceMul]
  simp
noncomputable def B0 (g : FuncId) : PSpec := (putΦ Φ0 55 nanIS) g
theorem hB0 : TabSound GG B0 := (hΦ0.put w_nanIS)
noncomputable def cmpIS : PSpec := on_ii (fun _ _ => True) (fun a b => .int .i64 (cmpI a b))
theorem k_cmpIS_55 {args : List PV} : B0 55 args = nanIS args := rfl
theorem w_cmpIS : PSound GG 38 cmpIS := by
  refine PSound.of_wpc (C := cxP Tryd.prog B0 [] 20) (T := plan0) Tryd.func38 rfl rfl rfl (Fit.pure (G := GG) hB0 mixed) (fun args h => ?_)
  unfold cmpIS at h
  obtain ⟨a, b, rfl, hp⟩ := on_ii_inv h
  refine ⟨by simp [cxP], ?_⟩
  simp only [cmpIS, on_ii_eq, Tryd.f38, argL, plan0]
  simp only [k_cmpIS_55, nanIS, on_i_eq, Tryd.underlying3, sz3, by3, ze3, Tryd.underlying4, sz4, by4, ze4, go_sem, ↓reduceIte, reduceCtorEq, Nat.reduceEqDiff, Nat.reduceLT, ↓all_qV, Int.reduceToNat, Int.reduceLT, Int.reduceLE, Nat.reduceAdd, Nat.reduceLeDiff, Nat.reduceMul]
  refine ⟨fun h1 => ?_, fun h1 => ⟨fun h2 => ?_, fun h2 => ?_⟩⟩ <;> unfold cmpI
  · rw [h1]; rfl
  · rw [h1, h2]; rfl
  · rw [h1, h2]; rfl
def orF : List Int → Int
  | [] => 0
  | x :: r => bif x != 0 then x else orF r
noncomputable def orS : PSpec := on_l (fun es => ∃ l : List Int, es = l.map intV ∧ l.length ≤ 1000000000000) (fun es => .int .i64 (orF (es.map nOf)))
theorem w_orS : PSound GG 37 orS := by
  refine PSound.of_wpc (C := cxP Tryd.prog Φ0 [] 18) (T := plan0) Tryd.func37 rfl rfl rfl (Fit.pure (G := GG) hΦ0 mixed) (fun args h => ?_)
  unfold orS at h
  obtain ⟨es, rfl, hp⟩ := on_l_inv h
  refine ⟨by simp [cxP], ?_⟩
  simp only [orS, on_l_eq, Tryd.f37, argL, plan0]
  obtain ⟨l, rfl, hl⟩ := hp
  have hn : ∀ l : List Int, (l.map intV).map nOf = l := fun l => by simp [List.map_map, Function.comp_def, nOf, intV]
  simp only [hn, List.length_map, Tryd.underlying3, sz3, by3, ze3, Tryd.underlying4, sz4, by4, ze4, Tryd.underlying22, sz22, by22, ze22, go_sem, ↓reduceIte, reduceCtorEq, Nat.reduceEqDiff, Nat.reduceLT, ↓all_qV, Int.reduceToNat, Int.reduceLT, Int.reduceLE, Nat.reduceAdd, Nat.reduceLeDiff, Nat.reduceMul]
  refine AWp.loop (T := plan0) (α := Nat) (fun i => ([(3, .pv (.int .i64 0)), (6, .pv (.sl (l.map intV))), (7, .pv (.int .i64 l.length)), (8, .pv (.int .i64 i))], [])) (fun i => i ≤ l.length ∧ orF (l.drop i) = orF l) (fun i => l.length - i)
    ⟨0, ⟨Nat.zero_le _, rfl⟩, ⟨by simp [fitR, look], trivial, rfl, rfl, rfl⟩⟩ ?_
  rintro i ⟨h1, h2⟩
  have hi1 : IntKind.i64.wrap ((i : Int) + 1) = ((i + 1 : Nat) : Int) := by rw [i64_in _ (by omega)]; omega
  by_cases hlt : i < l.length
  · have c0 : decide ((i : Int) < (l.length : Int)) = true := by simp; omega
    have k1 := getD_intV hlt
    rw [List.drop_eq_getElem_cons hlt, orF] at h2
    have e2 : l.getD i 0 = l[i] := by simp [List.getD_eq_getElem?_getD, hlt]
    rw [e2] at k1
    simp only [c0, k1, hi1, List.length_map, Tryd.underlying3, sz3, by3, ze3, Tryd.underlying4, sz4, by4, ze4, Tryd.underlying22, sz22, by22, ze22, plan0, go_sem, ↓reduceIte, reduceCtorEq, Nat.reduceEqDiff, Nat.reduceLT, ↓all_qV, Int.reduceToNat, Int.reduceLT, Int.reduceLE, Nat.reduceAdd, Nat.reduceLeDiff, Nat.reduceMul]
    refine ⟨⟨by omega, by omega⟩, fun h3 => ?_, fun h3 => ⟨i + 1, ⟨by omega, ?_⟩, by omega, ⟨by simp [fitR, look], trivial, rfl, rfl, rfl⟩⟩⟩
    · rw [h3] at h2; rw [← h2]; rfl
    · rw [h3] at h2; exact h2
  · have c0 : decide ((i : Int) < (l.length : Int)) = false := by simp; omega
    rw [List.drop_eq_nil_of_le (by omega)] at h2
    simp only [c0, List.length_map, Tryd.underlying3, sz3, by3, ze3, Tryd.underlying4, sz4, by4, ze4, Tryd.underlying22, sz22, by22, ze22, plan0, go_sem, ↓reduceIte, reduceCtorEq, Nat.reduceEqDiff, Nat.reduceLT, ↓all_qV, Int.reduceToNat, Int.reduceLT, Int.reduceLE, Nat.reduceAdd, Nat.reduceLeDiff, Nat.reduceMul]
    rw [← h2]; rfl
noncomputable def B1 (g : FuncId) : PSpec := (putΦ (putΦ (putΦ B0 39 amongS) 38 cmpIS) 37 orS) g
theorem hB1 : TabSound GG B1 := (((hB0.put w_amongS).put w_cmpIS).put w_orS)
def lotB (n : Int) : Bool := amg n 1000 1000000000 && decide (n.tmod 1000 = 0)
noncomputable def lotsS : PSpec := on_i (fun _ => True) (fun n => .bool (lotB n))
theorem k_lotsS_39 {args : List PV} : B1 39 args = amongS args := rfl
theorem w_lotsS : PSound GG 40 lotsS := by
  refine PSound.of_wpc (C := cxP Tryd.prog B1 [] 10) (T := plan0) Tryd.func40 rfl rfl rfl (Fit.pure (G := GG) hB1 mixed) (fun args h => ?_)
  unfold lotsS at h
  obtain ⟨n, rfl, hp⟩ := on_i_inv h
  refine ⟨by simp [cxP], ?_⟩
  simp only [lotsS, on_i_eq, Tryd.f40, argL, plan0]
  simp only [k_lotsS_39, amongS, on_iii_eq, Tryd.underlying3, sz3, by3, ze3, Tryd.underlying4, sz4, by4, ze4, go_sem, ↓reduceIte, reduceCtorEq, Nat.reduceEqDiff, Nat.reduceLT, ↓all_qV, Int.reduceToNat, Int.reduceLT, Int.reduceLE, Nat.reduceAdd, Nat.reduceLeDiff, Nat.reduceMul]
  refine ⟨fun _ => by decide, ?_⟩
  unfold lotB
  rw [intBeq]
noncomputable def B2 (g : FuncId) : PSpec := (putΦ B1 40 lotsS) g
theorem hB2 : TabSound GG B2 := (hB1.put w_lotsS)
/-- A bid: bidder, number, price, amount, free. -/
structure Bid where
  b : Int
  n : Int
  p : Int
  a : Int
  f : Bool
  deriving DecidableEq, Inhabited
def bidV (x : Bid) : PV := .agg [.int .i64 x.b, .int .i64 x.n, .int .i64 x.p, .int .i64 x.a, .bool x.f]
def bidOf : PV → Bid
  | .agg [.int _ b, .int _ n, .int _ p, .int _ a, .bool f] => ⟨b, n, p, a, f⟩
  | _ => default
theorem bidOf_bidV (x : Bid) : bidOf (bidV x) = x := rfl
theorem bidOf_agg {b n p a : Int} {f : Bool} : bidOf (.agg [.int .i64 b, .int .i64 n, .int .i64 p, .int .i64 a, .bool f]) = ⟨b, n, p, a, f⟩ := rfl
theorem map_bidOf (l : List Bid) : (l.map bidV).map bidOf = l := by simp [List.map_map, Function.comp_def, bidOf_bidV]
theorem getD_bid {l : List Bid} {i : Nat} (h : i < l.length) : (l.map bidV).getD i default = bidV (l.getD i default) := by
  simp [List.getD_eq_getElem?_getD, h]
theorem okBid {H : AHeap} {b n p a : Int} {f : Bool} : ∀ c, c ∈ [AV.pv (.int .i64 b), .pv (.int .i64 n), .pv (.int .i64 p), .pv (.int .i64 a), .pv (.bool f)] → c.one = true ∧ frzOk H 3 c := by
  intro c hc
  simp only [List.mem_cons, List.not_mem_nil, or_false] at hc
  rcases hc with rfl | rfl | rfl | rfl | rfl <;> exact ⟨rfl, trivial⟩
def isBid (e : PV) : Prop := ∃ x : Bid, e = bidV x
theorem isBid_agg {b n p a : Int} {f : Bool} : isBid (.agg [.int .i64 b, .int .i64 n, .int .i64 p, .int .i64 a, .bool f]) := ⟨⟨b, n, p, a, f⟩, rfl⟩
def vB (x : Bid) : Bool := amg x.b 1 40 && amg x.n 1 40 && lotB x.a && (bif x.f then decide (x.p = 0) else amg x.p 1 200000)
noncomputable def validS : PSpec := on_p isBid (fun e => .bool (vB (bidOf e)))
theorem k_validS_39 {args : List PV} : B2 39 args = amongS args := rfl
theorem k_validS_40 {args : List PV} : B2 40 args = lotsS args := rfl
theorem w_validS : PSound GG 25 validS := by
  refine PSound.of_wpc (C := cxP Tryd.prog B2 [] 28) (T := plan0) Tryd.func25 rfl rfl rfl (Fit.pure (G := GG) hB2 mixed) (fun args h => ?_)
  unfold validS at h
  obtain ⟨e, rfl, hp⟩ := on_p_inv h
  refine ⟨by simp [cxP], ?_⟩
  simp only [validS, on_p_eq, Tryd.f25, argL, plan0]
  obtain ⟨⟨b, n, p, a, f⟩, rfl⟩ := hp
  cases f <;> simp only [bidV, bidOf_agg, vB, k_validS_39, amongS, on_iii_eq, k_validS_40, lotsS, on_i_eq, Tryd.underlying1, sz1, by1, ze1, Tryd.underlying2, sz2, by2, ze2, Tryd.underlying3, sz3, by3, ze3, Tryd.underlying4, sz4, by4, ze4, Tryd.underlying28, sz28, by28, ze28, fa28_0, fa28_1, fa28_2, fa28_3, fa28_4, go_sem, ↓reduceIte, reduceCtorEq, Nat.reduceEqDiff, Nat.reduceLT, ↓all_qV, Int.reduceToNat, Int.reduceLT, Int.reduceLE, Nat.reduceAdd, Nat.reduceLeDiff, Nat.reduceMul] <;> simp [intBeq] <;> rfl
noncomputable def B3 (g : FuncId) : PSpec := (putΦ B2 25 validS) g
theorem hB3 : TabSound GG B3 := (hB2.put w_validS)
def cmpB (x y : Bid) : Int := orF [cmpI x.b y.b, cmpI x.n y.n]
noncomputable def compareS : PSpec := on_pp (fun a b => isBid a ∧ isBid b) (fun a b => .int .i64 (cmpB (bidOf a) (bidOf b)))
theorem k_compareS_37 {args : List PV} : B3 37 args = orS args := rfl
theorem k_compareS_38 {args : List PV} : B3 38 args = cmpIS args := rfl
theorem w_compareS : PSound GG 24 compareS := by
  refine PSound.of_wpc (C := cxP Tryd.prog B3 [] 17) (T := plan0) Tryd.func24 rfl rfl rfl (Fit.pure (G := GG) hB3 mixed) (fun args h => ?_)
  unfold compareS at h
  obtain ⟨p, q, rfl, hp⟩ := on_pp_inv h
  refine ⟨by simp [cxP], ?_⟩
  simp only [compareS, on_pp_eq, Tryd.f24, argL, plan0]
  obtain ⟨⟨⟨b, n, p, a, f⟩, rfl⟩, ⟨⟨b', n', p', a', f'⟩, rfl⟩⟩ := hp
  simp only [bidV, bidOf_agg, cmpB, k_compareS_37, orS, on_l_eq, k_compareS_38, cmpIS, on_ii_eq, List.take_succ_cons, List.take_nil, Tryd.underlying1, sz1, by1, ze1, Tryd.underlying2, sz2, by2, ze2, Tryd.underlying3, sz3, by3, ze3, Tryd.underlying4, sz4, by4, ze4, Tryd.underlying22, sz22, by22, ze22, Tryd.underlying28, sz28, by28, ze28, fa28_0, fa28_1, fa28_2, fa28_3, fa28_4, go_sem, ↓reduceIte, reduceCtorEq, Nat.reduceEqDiff, Nat.reduceLT, ↓all_qV, Int.reduceToNat, Int.reduceLT, Int.reduceLE, Nat.reduceAdd, Nat.reduceLeDiff, Nat.reduceMul]
  exact ⟨by kernel_rfl, ⟨[cmpI b b', cmpI n n'], rfl, by simp⟩, rfl⟩
noncomputable def chk1S : PSpec := on_p isBid (fun e => .bool (!vB (bidOf e)))
theorem k_chk1S_25 {args : List PV} : B3 25 args = validS args := rfl
theorem w_chk1S : PSound GG 35 chk1S := by
  refine PSound.of_wpc (C := cxP Tryd.prog B3 [] 6) (T := plan0) Tryd.func35 rfl rfl rfl (Fit.pure (G := GG) hB3 mixed) (fun args h => ?_)
  unfold chk1S at h
  obtain ⟨e, rfl, hp⟩ := on_p_inv h
  refine ⟨by simp [cxP], ?_⟩
  simp only [chk1S, on_p_eq, Tryd.f35, argL, plan0]
  obtain ⟨⟨b, n, p, a, f⟩, rfl⟩ := hp
  simp only [bidV, bidOf_agg, k_chk1S_25, validS, on_p_eq, List.take_succ_cons, List.take_nil, Tryd.underlying3, sz3, by3, ze3, Tryd.underlying4, sz4, by4, ze4, Tryd.underlying28, sz28, by28, ze28, fa28_0, fa28_1, fa28_2, fa28_3, fa28_4, go_sem, ↓reduceIte, reduceCtorEq, Nat.reduceEqDiff, Nat.reduceLT, ↓all_qV, Int.reduceToNat, Int.reduceLT, Int.reduceLE, Nat.reduceAdd, Nat.reduceLeDiff, Nat.reduceMul]
  and_intros <;> first | exact okBid | exact isBid_agg
noncomputable def B4 (g : FuncId) : PSpec := (putΦ (putΦ B3 24 compareS) 35 chk1S) g
theorem hB4 : TabSound GG B4 := ((hB3.put w_compareS).put w_chk1S)
noncomputable def beforeS : PSpec := on_pp (fun a b => isBid a ∧ isBid b) (fun a b => .bool (decide (cmpB (bidOf a) (bidOf b) < 0)))
theorem k_beforeS_24 {args : List PV} : B4 24 args = compareS args := rfl
theorem w_beforeS : PSound GG 10 beforeS := by
  refine PSound.of_wpc (C := cxP Tryd.prog B4 [] 9) (T := plan0) Tryd.func10 rfl rfl rfl (Fit.pure (G := GG) hB4 mixed) (fun args h => ?_)
  unfold beforeS at h
  obtain ⟨p, q, rfl, hp⟩ := on_pp_inv h
  refine ⟨by simp [cxP], ?_⟩
  simp only [beforeS, on_pp_eq, Tryd.f10, argL, plan0]
  obtain ⟨⟨⟨b, n, p, a, f⟩, rfl⟩, ⟨⟨b', n', p', a', f'⟩, rfl⟩⟩ := hp
  simp only [bidV, bidOf_agg, k_beforeS_24, compareS, on_pp_eq, List.take_succ_cons, List.take_nil, Tryd.underlying3, sz3, by3, ze3, Tryd.underlying4, sz4, by4, ze4, Tryd.underlying28, sz28, by28, ze28, fa28_0, fa28_1, fa28_2, fa28_3, fa28_4, go_sem, ↓reduceIte, reduceCtorEq, Nat.reduceEqDiff, Nat.reduceLT, ↓all_qV, Int.reduceToNat, Int.reduceLT, Int.reduceLE, Nat.reduceAdd, Nat.reduceLeDiff, Nat.reduceMul]
  and_intros <;> first | exact okBid | exact isBid_agg | rfl
def befB (x y : Bid) : Bool := decide (x.b < y.b) || decide (x.b = y.b) && decide (x.n < y.n)
noncomputable def rbefS : PSpec := on_pp (fun a b => isBid a ∧ isBid b) (fun a b => .bool (befB (bidOf a) (bidOf b)))
theorem w_rbefS : PSound GG 33 rbefS := by
  refine PSound.of_wpc (C := cxP Tryd.prog B4 [] 24) (T := plan0) Tryd.func33 rfl rfl rfl (Fit.pure (G := GG) hB4 mixed) (fun args h => ?_)
  unfold rbefS at h
  obtain ⟨p, q, rfl, hp⟩ := on_pp_inv h
  refine ⟨by simp [cxP], ?_⟩
  simp only [rbefS, on_pp_eq, Tryd.f33, argL, plan0]
  obtain ⟨⟨⟨b, n, p, a, f⟩, rfl⟩, ⟨⟨b', n', p', a', f'⟩, rfl⟩⟩ := hp
  simp only [bidV, bidOf_agg, befB, true_and, List.take_succ_cons, List.take_nil, Tryd.underlying1, sz1, by1, ze1, Tryd.underlying3, sz3, by3, ze3, Tryd.underlying4, sz4, by4, ze4, Tryd.underlying28, sz28, by28, ze28, fa28_0, fa28_1, fa28_2, fa28_3, fa28_4, go_sem, ↓reduceIte, reduceCtorEq, Nat.reduceEqDiff, Nat.reduceLT, ↓all_qV, Int.reduceToNat, Int.reduceLT, Int.reduceLE, Nat.reduceAdd, Nat.reduceLeDiff, Nat.reduceMul]
  simp [intBeq]
  exact ⟨fun h1 h2 => ⟨h1, h2⟩, rfl⟩
noncomputable def B5 (g : FuncId) : PSpec := (putΦ (putΦ B4 10 beforeS) 33 rbefS) g
theorem hB5 : TabSound GG B5 := ((hB4.put w_beforeS).put w_rbefS)
end Go.AM
