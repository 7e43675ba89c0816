/-
  A part of a proof: see the last text of this claim for what is proved.
-/
import Derived.Test.YtamiheckgglgaaaGreatDoorBB
import Derived.Lib.ItoaLen
import Derived.Test.YtamiheckgglgaaaGreatDoorZMa
/-! bids: line, Line, Format -/
namespace Go.AM
open Go Go.Proofs Go.IntWalk
set_option maxRecDepth 100000
set_option maxHeartbeats 1000000
set_option linter.unusedSimpArgs false
set_option linter.unusedVariables false
def freeT : List UInt8 := [102, 114, 101, 101]
def lineL (x : Bid) : List UInt8 := Lib.itoa x.b ++ 32 :: (Lib.itoa x.n ++ 32 :: (Lib.itoa x.a ++ 32 :: bif x.f then freeT else Lib.itoa x.p))
theorem lineL_join (x : Bid) : Lib.join [Lib.itoa x.b, Lib.itoa x.n, Lib.itoa x.a, bif x.f then freeT else Lib.itoa x.p] [32] = lineL x := by
  simp [Lib.join_cons, Lib.joinTail, lineL]
structure Rng (x : Bid) : Prop where
  b : 1 ≤ x.b ∧ x.b ≤ 40
  n : 1 ≤ x.n ∧ x.n ≤ 40
  p : 0 ≤ x.p ∧ x.p ≤ 200000
  a : 1000 ≤ x.a ∧ x.a ≤ 1000000000
theorem vB_rng {x : Bid} (h : vB x = true) : Rng x := by
  simp only [vB, lotB, amg, Bool.and_eq_true, decide_eq_true_eq] at h
  obtain ⟨⟨⟨h1, h2⟩, h3, _⟩, h4⟩ := h
  refine ⟨h1, h2, ?_, h3⟩
  cases hf : x.f with
  | true => rw [hf] at h4; simp only [cond_true, decide_eq_true_eq] at h4; omega
  | false => rw [hf] at h4; simp only [cond_false, Bool.and_eq_true, decide_eq_true_eq] at h4; omega
theorem lineL_len {x : Bid} (h : vB x = true) : (lineL x).length ≤ 87 := by
  have r := vB_rng h
  have l1 := Lib.itoa_length_le x.b (by have := r.b; omega) (by have := r.b; omega)
  have l2 := Lib.itoa_length_le x.n (by have := r.n; omega) (by have := r.n; omega)
  have l3 := Lib.itoa_length_le x.a (by have := r.a; omega) (by have := r.a; omega)
  have l4 := Lib.itoa_length_le x.p (by have := r.p; omega) (by have := r.p; omega)
  unfold lineL
  cases x.f <;> simp only [List.length_append, List.length_cons, cond_true, cond_false, freeT, List.length_nil] <;> omega
noncomputable def lineS : PSpec := on_p (fun e => ∃ x : Bid, e = bidV x ∧ vB x = true) (fun e => .str (lineL (bidOf e)))
theorem k_lineS_46 {args : List PV} : B9 46 args = itoaQ args := rfl
theorem k_lineS_47 {args : List PV} : B9 47 args = joinQ args := rfl
theorem w_lineS : PSound GG 30 lineS := by
  refine PSound.of_wpc (C := cxP Tryz.prog B9 [] 21) (T := plan0) Tryz.func30 rfl rfl rfl (Fit.pure (G := GG) hB9 mixed) (fun args h => ?_)
  unfold lineS at h
  obtain ⟨e, rfl, hp⟩ := on_p_inv h
  refine ⟨by simp [cxP], ?_⟩
  simp only [lineS, on_p_eq, Tryz.f30, argL, plan0]
  obtain ⟨⟨b, n, p, a, f⟩, rfl, hv⟩ := hp
  have r := vB_rng hv
  have r1 := r.b; have r2 := r.n; have r3 := r.p; have r4 := r.a
  have hl := lineL_len hv
  have hj := lineL_join ⟨b, n, p, a, f⟩
  simp only at r1 r2 r3 r4 hj
  have e1 : ∀ q : List UInt8, List.map strOf [PV.str (Lib.itoa b), PV.str (Lib.itoa n), PV.str (Lib.itoa a), PV.str q] = [Lib.itoa b, Lib.itoa n, Lib.itoa a, q] := fun q => rfl
  cases f
  · simp only [cond_false] at hj
    simp only [bidV, bidOf_agg, e1, hj, joinQ_eq, itoaQ, on_i_eq, k_lineS_46, itoaQ, k_lineS_47, joinQ, List.take_succ_cons, List.take_nil, Tryz.underlying1, sz1, by1, ze1, Tryz.underlying2, sz2, by2, ze2, Tryz.underlying3, sz3, by3, ze3, Tryz.underlying4, sz4, by4, ze4, Tryz.underlying9, sz9, by9, ze9, Tryz.underlying29, sz29, by29, ze29, fa29_0, fa29_1, fa29_2, fa29_3, fa29_4, Tryz.underlying69, sz69, by69, ze69, go_sem, ↓reduceIte, reduceCtorEq, Nat.reduceEqDiff, Nat.reduceLT, ↓all_qV, Int.reduceToNat, Int.reduceLT, Int.reduceLE, Nat.reduceAdd, Nat.reduceLeDiff, Nat.reduceMul]
    and_intros
    all_goals try first | (show checkD _ _ _ = true; kernel_rfl) | omega | (intros; omega) | rfl | trivial | assumption
    · exact ⟨[_, _, _, _], rfl⟩
    all_goals omega
  · simp only [cond_true, freeT] at hj
    simp only [bidV, bidOf_agg, e1, hj, joinQ_eq, itoaQ, on_i_eq, k_lineS_46, itoaQ, k_lineS_47, joinQ, List.take_succ_cons, List.take_nil, Tryz.underlying1, sz1, by1, ze1, Tryz.underlying2, sz2, by2, ze2, Tryz.underlying3, sz3, by3, ze3, Tryz.underlying4, sz4, by4, ze4, Tryz.underlying9, sz9, by9, ze9, Tryz.underlying29, sz29, by29, ze29, fa29_0, fa29_1, fa29_2, fa29_3, fa29_4, Tryz.underlying69, sz69, by69, ze69, go_sem, ↓reduceIte, reduceCtorEq, Nat.reduceEqDiff, Nat.reduceLT, ↓all_qV, Int.reduceToNat, Int.reduceLT, Int.reduceLE, Nat.reduceAdd, Nat.reduceLeDiff, Nat.reduceMul]
    and_intros
    all_goals try first | (show checkD _ _ _ = true; kernel_rfl) | omega | (intros; omega) | rfl | trivial | assumption
    · exact ⟨[_, _, _, _], rfl⟩
    all_goals omega
noncomputable def Ba (g : FuncId) : PSpec := (putΦ B9 30 lineS) g
theorem hBa : TabSound GG Ba := (hB9.put w_lineS)
noncomputable def LineS : PSpec := on_p isBid (fun e => .tup (bif vB (bidOf e) then [.str (lineL (bidOf e)), .int .i64 0] else [.str [], .int .i64 74]))
theorem k_LineS_19 {args : List PV} : Ba 19 args = validS args := rfl
theorem k_LineS_30 {args : List PV} : Ba 30 args = lineS args := rfl
theorem w_LineS : PSound GG 17 LineS := by
  refine PSound.of_wpc (C := cxP Tryz.prog Ba [] 9) (T := plan0) Tryz.func17 rfl rfl rfl (Fit.pure (G := GG) hBa mixed) (fun args h => ?_)
  unfold LineS at h
  obtain ⟨e, rfl, hp⟩ := on_p_inv h
  refine ⟨by simp [cxP], ?_⟩
  simp only [LineS, on_p_eq, Tryz.f17, argL, plan0]
  obtain ⟨⟨b, n, p, a, f⟩, rfl⟩ := hp
  simp only [bidV, bidOf_agg, k_LineS_19, validS, on_p_eq, k_LineS_30, lineS, List.take_succ_cons, List.take_nil, Tryz.underlying3, sz3, by3, ze3, Tryz.underlying4, sz4, by4, ze4, Tryz.underlying9, sz9, by9, ze9, Tryz.underlying29, sz29, by29, ze29, fa29_0, fa29_1, fa29_2, fa29_3, fa29_4, Tryz.underlying32, sz32, by32, ze32, go_sem, ↓reduceIte, reduceCtorEq, Nat.reduceEqDiff, Nat.reduceLT, ↓all_qV, Int.reduceToNat, Int.reduceLT, Int.reduceLE, Nat.reduceAdd, Nat.reduceLeDiff, Nat.reduceMul]
  and_intros
  all_goals try first | (show checkD _ _ _ = true; kernel_rfl) | omega | (intros; omega) | rfl | trivial | assumption | exact okBid | exact isBid_agg
  · intro h9
    have h9 : vB ⟨b, n, p, a, f⟩ = false := by simpa using h9
    rw [h9]; rfl
  · intro h9
    have h9 : vB ⟨b, n, p, a, f⟩ = true := by simpa using h9
    rw [h9]
    exact ⟨⟨okBid, ⟨b, n, p, a, f⟩, rfl, h9⟩, rfl⟩
noncomputable def Bb (g : FuncId) : PSpec := (putΦ Ba 17 LineS) g
theorem hBb : TabSound GG Bb := (hBa.put w_LineS)
/-! ### Format -/
def fmtL : List Bid → List UInt8
  | [] => []
  | x :: r => lineL x ++ 10 :: fmtL r
theorem fmtL_app : ∀ p q : List Bid, fmtL (p ++ q) = fmtL p ++ fmtL q
  | [], q => rfl
  | x :: p, q => by simp [fmtL, fmtL_app p q]
theorem fmtL_len : ∀ l : List Bid, (∀ x, x ∈ l → vB x = true) → (fmtL l).length ≤ l.length * 88
  | [], _ => by simp [fmtL]
  | x :: r, h => by
    have h1 := lineL_len (h x List.mem_cons_self)
    have h2 := fmtL_len r (fun y hy => h y (List.mem_cons_of_mem _ hy))
    simp only [fmtL, List.length_append, List.length_cons, Nat.add_mul]; omega
noncomputable def formatS : PSpec := on_l (fun es => (∃ l : List Bid, es = l.map bidV) ∧ es.length ≤ 100000)
  (fun es => .tup (bif chkF (es.map bidOf) == 0 then [.str (fmtL (srtL (es.map bidOf))), .int .i64 0] else [.str [], .int .i64 (chkF (es.map bidOf))]))
theorem chkF_vB {l : List Bid} (h : chkF l = 0) : ∀ x, x ∈ l → vB x = true := by
  unfold chkF at h
  cases h1 : decide (60 < (l.length : Int)) with
  | true => rw [h1] at h; cases h
  | false =>
    cases h2 : l.any (fun x => !vB x) with
    | true => rw [h1, h2] at h; cases h
    | false =>
      intro x hx
      have := List.any_eq_false.1 h2 x hx
      simpa using this
theorem psiWS_eq {T e : TypeId} {d κ κ2 n : Nat} {a : AV} {s bs : List UInt8} {ρ : Nat → AV} {H : AHeap} {K : AV → ASt → Prop} (h1 : hget H κ = some (.typed T [a, .bufh κ2 n])) (h2 : hget H κ2 = some (.buf e bs)) :
    psiWS T e d [.ptr κ 0, .pv (.str s)] ⟨ρ, H⟩ K = (1000000 ≤ κ2 ∧ bldAddr κ a ∧ bs.length + s.length ≤ 140737488355328 ∧
          K (.pv (.tup [.int .i64 s.length, .nilI])) ⟨killR κ2 ρ, hset (hset (killH κ2 H) κ2 (.buf e (bs ++ s))) κ (.typed T [.ptr κ 0, .bufh κ2 (bs.length + s.length)])⟩) := by
  unfold psiWS
  simp only [h1, h2, true_and]
theorem psiSt_eq {T e : TypeId} {d κ κ2 n : Nat} {a : AV} {bs : List UInt8} {ρ : Nat → AV} {H : AHeap} {K : AV → ASt → Prop} (h1 : hget H κ = some (.typed T [a, .bufh κ2 n])) (h2 : hget H κ2 = some (.buf e bs)) :
    psiSt T e d [.ptr κ 0] ⟨ρ, H⟩ K = (1000000 ≤ κ2 ∧ K (.pv (.str bs)) ⟨killR κ2 ρ, hset (killH κ2 H) κ2 (.buf e [])⟩) := by
  unfold psiSt
  simp only [h1, h2, true_and]
noncomputable def Ψf1 (g : FuncId) : Option ESpec := putΨ (putΨ Ψt5 29 (psiWS 55 5)) 31 (psiSt 55 5) g
theorem hΨf1 : ETab GG Ψf1 := (hΨt5.put w_wsS psiWS_mono).put w_bsS psiSt_mono
def planF : Plan := { keep := fun _ => none, cut := fun _ => false, stop := fun i => i == 4 }
theorem k_formatS_10 {args : List PV} : Bb 10 args = checkS args := rfl
theorem k_formatS_30 {args : List PV} : Bb 30 args = lineS args := rfl
theorem w_formatS : PSound GG 8 formatS := by
  refine PSound.of_wpc (C := cxQ Tryz.prog Bb noΘ Ψf1 [] [] 26) (T := planF) Tryz.func8 rfl rfl rfl (Fit.all (G := GG) hBb hnoΘ hΨf1 mixed) (fun args h => ?_)
  unfold formatS at h
  obtain ⟨es, rfl, ⟨l, rfl⟩, hl⟩ := on_l_inv h
  refine ⟨by simp [cxQ], ?_⟩
  simp only [List.length_map] at hl
  simp only [formatS, map_bidOf, on_l_eq, List.length_map, k_formatS_10, checkS, on_l_eq, k_formatS_30, lineS, on_p_eq, Tryz.f8, argL, Tryz.underlying3, sz3, by3, ze3, Tryz.underlying4, sz4, by4, ze4, Tryz.underlying5, sz5, by5, ze5, Tryz.underlying9, sz9, by9, ze9, Tryz.underlying23, sz23, by23, ze23, Tryz.underlying29, sz29, by29, ze29, fa29_0, fa29_1, fa29_2, fa29_3, fa29_4, Tryz.underlying32, sz32, by32, ze32, Tryz.underlying52, sz52, by52, ze52, Tryz.underlying53, sz53, by53, ze53, Tryz.underlying55, sz55, by55, ze55, fa55_0, fa55_1, Tryz.underlying58, sz58, by58, ze58, planF, go_sem, ↓reduceIte, reduceCtorEq, Nat.reduceEqDiff, Nat.reduceLT, ↓all_qV, Int.reduceToNat, Int.reduceLT, Int.reduceLE, Nat.reduceAdd, Nat.reduceLeDiff, Nat.reduceMul, ev_callG, gcallK_b, gcallK_w, callGc_true, callGc_false, List.forall_mem_cons, List.not_mem_nil, PV.one, AV.one]
  refine ⟨⟨⟨l, rfl⟩, by omega⟩, fun h1 => ?_, fun h1 => ?_⟩
  · have : (chkF l == 0) = false := by simpa using h1
    rw [this]; rfl
  · have h1' : chkF l = 0 := by simpa using h1
    have h2 : (chkF l == 0) = true := by rw [h1']; rfl
    have hv := chkF_vB h1'
    rw [h2]
    simp only [cond_true]
    refine AWp.builder (T := plan0) (e := 5) rfl (by simp [hget]) (by simp [hget]) (by decide) ?_
    have hsv : ∀ x, x ∈ srtL l → vB x = true := fun x hx => hv x ((mem_isort ltB).1 hx)
    have hsl := srtL_length l
    simp only [upd_look, Ψf1, Ψt5, psiRow_eq, all_sl, sortS, map_bidOf, on_l_eq, List.length_map, Tryz.underlying3, sz3, by3, ze3, Tryz.underlying4, sz4, by4, ze4, Tryz.underlying5, sz5, by5, ze5, Tryz.underlying9, sz9, by9, ze9, Tryz.underlying23, sz23, by23, ze23, Tryz.underlying29, sz29, by29, ze29, fa29_0, fa29_1, fa29_2, fa29_3, fa29_4, Tryz.underlying32, sz32, by32, ze32, Tryz.underlying52, sz52, by52, ze52, Tryz.underlying53, sz53, by53, ze53, Tryz.underlying55, sz55, by55, ze55, fa55_0, fa55_1, Tryz.underlying58, sz58, by58, ze58, plan0, go_sem, ↓reduceIte, reduceCtorEq, Nat.reduceEqDiff, Nat.reduceLT, ↓all_qV, Int.reduceToNat, Int.reduceLT, Int.reduceLE, Nat.reduceAdd, Nat.reduceLeDiff, Nat.reduceMul, ev_callG, gcallK_b, gcallK_w, callGc_true, callGc_false, List.forall_mem_cons, List.not_mem_nil, PV.one, AV.one]
    refine ⟨⟨⟨l, rfl⟩, hl⟩, ?_⟩
    generalize srtL l = srt at hsv hsl ⊢
    refine AWp.loop (T := plan0) (α := Nat × AV) (fun i => ([(5, .ptr 5 0), (14, .rs 14 srt.length), (15, .pv (.int .i64 srt.length)), (16, .pv (.int .i64 i.1))], [(5, .typed 55 [i.2, .bufh 1000005 (fmtL (srt.take i.1)).length]), (1000005, .buf 5 (fmtL (srt.take i.1))), (14, .row 5 (srt.map bidV))]))
      (fun i => i.1 ≤ srt.length ∧ (i.2 = .pv .nilP ∨ i.2 = .ptr 5 0)) (fun i => srt.length - i.1)
      ⟨(0, .pv .nilP), ⟨Nat.zero_le _, .inl rfl⟩, ⟨by simp [fitR, look, hsl], by simp [fitH, hget, hset, fmtL], rfl, rfl, rfl⟩⟩ ?_
    rintro ⟨i, ad⟩ ⟨g1, g2⟩
    simp only at g1 g2
    have hi1 : IntKind.i64.wrap ((i : Int) + 1) = ((i + 1 : Nat) : Int) := by rw [i64_in _ (by omega)]; omega
    have hfl := fmtL_len (srt.take i) (fun x hx => hsv x (List.mem_of_mem_take hx))
    rw [List.length_take] at hfl
    by_cases hlt : i < srt.length
    · have c0 : decide ((i : Int) < (srt.length : Int)) = true := by simp; omega
      have e1 := getD_bid hlt
      have hvx := hsv _ (mem_getD' hlt)
      have hst : fmtL (srt.take (i + 1)) = fmtL (srt.take i) ++ (lineL (srt.getD i default) ++ [10]) := by rw [take_succ' hlt, fmtL_app]; simp [fmtL]
      generalize srt.getD i default = x at e1 hvx hst
      have hll := lineL_len hvx
      obtain ⟨b, n, p, a, f⟩ := x
      simp only [bidV] at e1
      generalize fmtL (srt.take i) = acc at hfl hst ⊢
      have hla : (lineL ⟨b, n, p, a, f⟩ ++ [10]).length = (lineL ⟨b, n, p, a, f⟩).length + 1 := by simp
      rcases g2 with rfl | rfl
      · simp only [c0, e1, hi1, bidOf_agg, List.length_map, List.take_succ_cons, List.take_nil, k_formatS_10, checkS, on_l_eq, k_formatS_30, lineS, on_p_eq, Tryz.underlying3, sz3, by3, ze3, Tryz.underlying4, sz4, by4, ze4, Tryz.underlying5, sz5, by5, ze5, Tryz.underlying9, sz9, by9, ze9, Tryz.underlying23, sz23, by23, ze23, Tryz.underlying29, sz29, by29, ze29, fa29_0, fa29_1, fa29_2, fa29_3, fa29_4, Tryz.underlying32, sz32, by32, ze32, Tryz.underlying52, sz52, by52, ze52, Tryz.underlying53, sz53, by53, ze53, Tryz.underlying55, sz55, by55, ze55, fa55_0, fa55_1, Tryz.underlying58, sz58, by58, ze58, plan0, Ψf1, Ψt5, Ψt4, Ψt3, psiWS, psiSt, bldAddr, go_sem, ↓reduceIte, reduceCtorEq, Nat.reduceEqDiff, Nat.reduceLT, ↓all_qV, Int.reduceToNat, Int.reduceLT, Int.reduceLE, Nat.reduceAdd, Nat.reduceLeDiff, Nat.reduceMul, ev_callG, gcallK_b, gcallK_w, callGc_true, callGc_false, List.forall_mem_cons, List.not_mem_nil, PV.one, AV.one]
        refine ⟨⟨by omega, by omega⟩, hlt, ⟨⟨b, n, p, a, f⟩, rfl, hvx⟩, by omega, by omega, (i + 1, .ptr 5 0), ⟨by simp only; omega, .inr rfl⟩, by simp only; omega, ⟨by simp [fitR, look], ?_, rfl, rfl, rfl⟩⟩
        simp [fitH, hget, hset, hst]
      · simp only [c0, e1, hi1, bidOf_agg, List.length_map, List.take_succ_cons, List.take_nil, k_formatS_10, checkS, on_l_eq, k_formatS_30, lineS, on_p_eq, Tryz.underlying3, sz3, by3, ze3, Tryz.underlying4, sz4, by4, ze4, Tryz.underlying5, sz5, by5, ze5, Tryz.underlying9, sz9, by9, ze9, Tryz.underlying23, sz23, by23, ze23, Tryz.underlying29, sz29, by29, ze29, fa29_0, fa29_1, fa29_2, fa29_3, fa29_4, Tryz.underlying32, sz32, by32, ze32, Tryz.underlying52, sz52, by52, ze52, Tryz.underlying53, sz53, by53, ze53, Tryz.underlying55, sz55, by55, ze55, fa55_0, fa55_1, Tryz.underlying58, sz58, by58, ze58, plan0, Ψf1, Ψt5, Ψt4, Ψt3, psiWS, psiSt, bldAddr, go_sem, ↓reduceIte, reduceCtorEq, Nat.reduceEqDiff, Nat.reduceLT, ↓all_qV, Int.reduceToNat, Int.reduceLT, Int.reduceLE, Nat.reduceAdd, Nat.reduceLeDiff, Nat.reduceMul, ev_callG, gcallK_b, gcallK_w, callGc_true, callGc_false, List.forall_mem_cons, List.not_mem_nil, PV.one, AV.one]
        refine ⟨⟨by omega, by omega⟩, hlt, ⟨⟨b, n, p, a, f⟩, rfl, hvx⟩, by omega, by omega, (i + 1, .ptr 5 0), ⟨by simp only; omega, .inr rfl⟩, by simp only; omega, ⟨by simp [fitR, look], ?_, rfl, rfl, rfl⟩⟩
        simp [fitH, hget, hset, hst]
    · have c0 : decide ((i : Int) < (srt.length : Int)) = false := by simp; omega
      rw [List.take_of_length_le (by omega)]
      rcases g2 with rfl | rfl
      · simp only [c0, List.length_map, Ψf1, Ψt5, Ψt4, Ψt3, psiWS, psiSt, bldAddr, Tryz.underlying3, sz3, by3, ze3, Tryz.underlying4, sz4, by4, ze4, Tryz.underlying5, sz5, by5, ze5, Tryz.underlying9, sz9, by9, ze9, Tryz.underlying23, sz23, by23, ze23, Tryz.underlying29, sz29, by29, ze29, fa29_0, fa29_1, fa29_2, fa29_3, fa29_4, Tryz.underlying32, sz32, by32, ze32, Tryz.underlying52, sz52, by52, ze52, Tryz.underlying53, sz53, by53, ze53, Tryz.underlying55, sz55, by55, ze55, fa55_0, fa55_1, Tryz.underlying58, sz58, by58, ze58, plan0, go_sem, ↓reduceIte, reduceCtorEq, Nat.reduceEqDiff, Nat.reduceLT, ↓all_qV, Int.reduceToNat, Int.reduceLT, Int.reduceLE, Nat.reduceAdd, Nat.reduceLeDiff, Nat.reduceMul, ev_callG, gcallK_b, gcallK_w, callGc_true, callGc_false, List.forall_mem_cons, List.not_mem_nil, PV.one, AV.one]
      · simp only [c0, List.length_map, Ψf1, Ψt5, Ψt4, Ψt3, psiWS, psiSt, bldAddr, Tryz.underlying3, sz3, by3, ze3, Tryz.underlying4, sz4, by4, ze4, Tryz.underlying5, sz5, by5, ze5, Tryz.underlying9, sz9, by9, ze9, Tryz.underlying23, sz23, by23, ze23, Tryz.underlying29, sz29, by29, ze29, fa29_0, fa29_1, fa29_2, fa29_3, fa29_4, Tryz.underlying32, sz32, by32, ze32, Tryz.underlying52, sz52, by52, ze52, Tryz.underlying53, sz53, by53, ze53, Tryz.underlying55, sz55, by55, ze55, fa55_0, fa55_1, Tryz.underlying58, sz58, by58, ze58, plan0, go_sem, ↓reduceIte, reduceCtorEq, Nat.reduceEqDiff, Nat.reduceLT, ↓all_qV, Int.reduceToNat, Int.reduceLT, Int.reduceLE, Nat.reduceAdd, Nat.reduceLeDiff, Nat.reduceMul, ev_callG, gcallK_b, gcallK_w, callGc_true, callGc_false, List.forall_mem_cons, List.not_mem_nil, PV.one, AV.one]
noncomputable def Bc (g : FuncId) : PSpec := (putΦ (putΦ (putΦ Bb 8 formatS) 40 cntQ) 43 tsQ) g
theorem hBc : TabSound GG Bc := (((hBb.put w_formatS).put w_cntQ).put w_tsQ)
end Go.AM
