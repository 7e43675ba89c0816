/-
  A part of a proof: see the last text of this claim for what is proved.
-/
import Derived.Test.YtamiheckgglgaaaGreatDoorB4e
import Derived.Test.YtamiheckgglgaaaGreatDoorNM
import Derived.Test.YtamiheckgglgaaaGreatDoorZMa
/-! bids: Parse -/
namespace Go.AM
open Go Go.Proofs Go.IntWalk
set_option maxRecDepth 100000
set_option maxHeartbeats 4000000
set_option linter.unusedSimpArgs false
set_option linter.unusedVariables false
theorem linesOf_len : ∀ (n : Nat) (s : List UInt8), s.length ≤ n → (linesOf s).length ≤ s.length ∧ ∀ x, x ∈ linesOf s → x.length ≤ s.length
  | n, [], _ => by rw [linesOf_nil]; exact ⟨Nat.le_refl _, fun x h => by cases h⟩
  | 0, c :: r, h => by simp at h
  | n + 1, c :: r, h => by
    have hlt := lineCut_lt (c := c) (r := r)
    have happ := congrArg List.length (lineCut_app (c :: r))
    rw [List.length_append] at happ
    obtain ⟨i1, i2⟩ := linesOf_len n (lineCut (c :: r)).2 (by omega)
    rw [linesOf_cons]
    refine ⟨by rw [List.length_cons]; omega, fun x hx => ?_⟩
    rcases List.mem_cons.1 hx with rfl | hx
    · omega
    · have := i2 x hx; omega
/-- A line that is not the next one's. -/
def lastB (acc : List Bid) (b : Bid) : Bool :=
  match acc.getLast? with
  | none => false
  | some y => !decide (cmpB y b < 0)
def condB (acc : List Bid) (b : Bid) (x : List UInt8) : Bool := !vB b || !(lineL b ++ [10] == x) || lastB acc b
theorem condB_nil {b : Bid} {x : List UInt8} : condB [] b x = (!vB b || !(lineL b ++ [10] == x)) := by simp [condB, lastB]
theorem condB_snoc {pre : List Bid} {y b : Bid} {x : List UInt8} : condB (pre ++ [y]) b x = (!vB b || !(lineL b ++ [10] == x) || !decide (cmpB y b < 0)) := by simp [condB, lastB]
theorem bif_t {α : Type} {c : Bool} {x y : α} (h : c = true) : (bif c then x else y) = x := by subst h; rfl
theorem bif_f {α : Type} {c : Bool} {x y : α} (h : c = false) : (bif c then x else y) = y := by subst h; rfl
def prsG : List Bid → List (List UInt8) → List Bid × Int × Int
  | acc, [] => (acc, 0, 0)
  | acc, x :: r => bif condB acc (readL (Lib.trimSuffix x [10])) x then ([], (acc.length : Int) + 1, 4) else prsG (acc ++ [readL (Lib.trimSuffix x [10])]) r
def prs (s : List UInt8) : List Bid × Int × Int := bif decide (12000 < (s.length : Int)) || decide (60 < ((s.count 10 : Nat) : Int)) then ([], 0, 3) else prsG [] (linesOf s)
noncomputable def parseS : PSpec := on_s (fun s => s.length ≤ 1000000) (fun s => .tup [.sl ((prs s).1.map bidV), .int .i64 (prs s).2.1, .int .i64 (prs s).2.2])
noncomputable def Ψf2 (g : FuncId) : Option ESpec := putΨ Ψf1 41 (psiLn 56) g
theorem hΨf2 : ETab GG Ψf2 := hΨf1.put w_linesS psiLn_mono
theorem k_cnt {s : List UInt8} {c : UInt8} : Bf 40 [.str s, .str [c]] = ((∃ c', [c] = [c']), .int .i64 ((s.count c : Nat) : Int)) := rfl
theorem k_ts {s p : List UInt8} : Bf 43 [.str s, .str p] = (s.length ≤ 9223372036854775807, .str (Lib.trimSuffix s p)) := rfl
theorem trim_le (s p : List UInt8) : (Lib.trimSuffix s p).length ≤ s.length := by
  unfold Lib.trimSuffix
  split
  · rw [List.length_take]; omega
  · exact Nat.le_refl _
def planP : Plan := { keep := fun _ => none, cut := fun _ => false, stop := fun i => i == 8 }
theorem parse_at {ρ : Nat → AV} (h2 : ρ 2 = .ptr 2 0) (h3 : ρ 3 = .ptr 3 0) (h4 : ρ 4 = .ptr 4 0) (h5 : ρ 5 = .ptr 5 0) : AtI [(2, 2), (3, 3), (4, 4), (5, 5)] ρ := by
  intro p hp
  simp only [List.mem_cons, List.mem_nil_iff, or_false] at hp
  rcases hp with rfl | rfl | rfl | rfl <;> assumption
theorem k_parseS_19 {args : List PV} : Bf 19 args = validS args := rfl
theorem k_parseS_21 {args : List PV} : Bf 21 args = beforeS args := rfl
theorem k_parseS_30 {args : List PV} : Bf 30 args = lineS args := rfl
theorem k_parseS_40 {args : List PV} : Bf 40 args = cntQ args := rfl
theorem k_parseS_42 {args : List PV} : Bf 42 args = readS args := rfl
theorem k_parseS_43 {args : List PV} : Bf 43 args = tsQ args := rfl
theorem w_parseS : PSound GG 25 parseS := by
  refine psound_wpcX (C := { cxQ Tryz.prog Bf noΘ Ψf2 [] [] 56 with outer := true }) (T := plan0) Tryz.func25 rfl rfl rfl ?_ (fun args h => ?_)
  · exact ⟨⟨⟨rfl, hBf, (fun f ψ hf => (hΨf2 f ψ hf).1), (fun κ hκ => by cases hκ)⟩, hnoΘ⟩, (fun f ψ hf => (hΨf2 f ψ hf).2), mixed⟩
  unfold parseS at h
  obtain ⟨s, rfl, hs⟩ := on_s_inv h
  refine ⟨by simp [cxQ], ?_⟩
  simp only [parseS, on_s_eq, k_cnt, loadC_eq, Ψf2, Ψf1, Ψt5, Ψt4, Ψt3, psiLn, Tryz.f25, argL, Tryz.underlying1, sz1, by1, ze1, Tryz.underlying3, sz3, by3, ze3, Tryz.underlying4, sz4, by4, ze4, Tryz.underlying9, sz9, by9, ze9, Tryz.underlying23, sz23, by23, ze23, Tryz.underlying29, sz29, by29, ze29, fa29_0, fa29_1, fa29_2, fa29_3, fa29_4, Tryz.underlying32, sz32, by32, ze32, Tryz.underlying72, sz72, by72, ze72, plan0, go_sem, ↓reduceIte, reduceCtorEq, Nat.reduceEqDiff, Nat.reduceLT, ↓all_qV, Int.reduceToNat, Int.reduceLT, Int.reduceLE, Nat.reduceAdd, Nat.reduceLeDiff, Nat.reduceMul, ev_callG, gcallK_b, gcallK_w, callGc_true, callGc_false, List.forall_mem_cons, List.not_mem_nil, PV.one, AV.one]
  refine ⟨fun _ => ⟨10, rfl⟩, fun h1 => ?_, fun h1 => ?_⟩
  · have : prs s = ([], 0, 3) := by unfold prs; rw [h1]; rfl
    rw [this]; rfl
  · have hprs : prs s = prsG [] (linesOf s) := by unfold prs; rw [h1]; rfl
    rw [hprs]
    refine AWp.adoptC (b := 5) (i := 0) (κ := 8000) (k := 5) (cs := [.nils]) (by simp [hget]) rfl (by simp [hget]) (by decide) ?_
    obtain ⟨ln1, ln2⟩ := linesOf_len s.length s (Nat.le_refl _)
    refine AWp.range (α := List Bid) (T := planP) 56 [.ptr 17 0] [17] (linesOf s) [(2, .ptr 2 0), (3, .ptr 3 0), (4, .ptr 4 0), (5, .ptr 5 0)] [2, 3, 4, 5]
      (fun acc => [(2, .cells [.nils]), (3, .cells [.pv (.int .i64 0)]), (4, .cells [.pv (.int .i64 0)]), (5, .cells [.rs 8000 acc.length]), (8000, .row 5 (acc.map bidV))])
      (fun i acc => prsG [] (linesOf s) = prsG acc ((linesOf s).drop i) ∧ acc.length ≤ i ∧ i ≤ (linesOf s).length) [2, 3, 4, 5, 6] [] rfl (by decide) (by decide) (by simp [opndV, look])
      (lines_A (by omega) (by simp [hget, hset])) ?_ ?_ rfl ⟨by simp, Nat.le_refl _, Nat.zero_le _⟩ ?_ (fun i x h => rfl) ?_ ?_
    · intro κ hκ
      simp only [List.mem_singleton] at hκ
      subst hκ; rfl
    · simp [fitR, look]
    · simp [fitH, hget, hset]
    · rintro i acc x hx ⟨g1, g2, g3⟩
      have hilt := (List.getElem?_eq_some_iff.1 hx).1
      have hxl := ln2 x (List.mem_of_getElem? hx)
      have htl := trim_le x [10]
      have hd : (linesOf s).drop i = x :: (linesOf s).drop (i + 1) := by
        rw [List.drop_eq_getElem_cons hilt]
        rw [List.getElem?_eq_getElem hilt] at hx
        rw [Option.some.inj hx]
      rw [hd, prsG] at g1
      generalize hbd : readL (Lib.trimSuffix x [10]) = bd at g1
      obtain ⟨b, n, p, a, f⟩ := bd
      have hal : acc.length ≤ 1000000 := by omega
      have hw1 : IntKind.i64.wrap ((acc.length : Int) + 1) = (acc.length : Int) + 1 := i64_in _ (by omega)
      have hbv : bidV ⟨b, n, p, a, f⟩ = .agg [.int .i64 b, .int .i64 n, .int .i64 p, .int .i64 a, .bool f] := rfl
      rcases List.eq_nil_or_concat acc with rfl | ⟨pre, y, hacc⟩
      · have c0 : decide ((0 : Int) < ((([] : List Bid).length : Nat) : Int)) = false := by simp
        rw [condB_nil] at g1
        simp only [inR, AX.thn, nqH, ABlk.nq, AV.nq, AV.nqL, Bool.and_true, k_ts, hbd, hbv, c0, hw1, bidOf_agg, loadC_eq, List.length_map, Ψf2, Ψf1, Ψt5, Ψt4, Ψt3, roundQ, varsB, ABlk.isVar, List.all_cons, List.all_nil, List.append_nil, List.nil_append, decide_false, decide_true, Bool.and_false, Bool.false_and, Bool.or_false, Bool.false_eq_true, false_implies, implies_true, List.take_succ_cons, List.take_nil, k_parseS_19, validS, on_p_eq, k_parseS_21, beforeS, on_pp_eq, k_parseS_30, lineS, k_parseS_40, cntQ, on_ss_eq, k_parseS_42, readS, on_s_eq, k_parseS_43, tsQ, Tryz.underlying1, sz1, by1, ze1, Tryz.underlying3, sz3, by3, ze3, Tryz.underlying4, sz4, by4, ze4, Tryz.underlying9, sz9, by9, ze9, Tryz.underlying23, sz23, by23, ze23, Tryz.underlying29, sz29, by29, ze29, fa29_0, fa29_1, fa29_2, fa29_3, fa29_4, Tryz.underlying32, sz32, by32, ze32, Tryz.underlying72, sz72, by72, ze72, planP, go_sem, ↓reduceIte, reduceCtorEq, Nat.reduceEqDiff, Nat.reduceLT, ↓all_qV, Int.reduceToNat, Int.reduceLT, Int.reduceLE, Nat.reduceAdd, Nat.reduceLeDiff, Nat.reduceMul, ev_callG, gcallK_b, gcallK_w, callGc_true, callGc_false, List.forall_mem_cons, List.not_mem_nil, PV.one, AV.one]
        refine ⟨by omega, by omega, by kernel_rfl, isBid_agg, fun h9 => ⟨_, rfl, h9⟩, fun h9 => by have := lineL_len h9; omega, fun h9 => by simpa using h9, fun h9 => ?_, fun h9 => ⟨rfl, by decide, [⟨b, n, p, a, f⟩], ⟨?_, by simp, by omega⟩, ?_⟩⟩
        · rw [g1, h9]
          refine AWp.orders (T := planP) [(2, 2), (3, 3), (4, 4), (5, 5)] (by kernel_rfl) (parse_at rfl rfl rfl rfl) ?_
          simp only [inR, AX.thn, nqH, ABlk.nq, AV.nq, AV.nqL, Bool.and_true, hw1, loadC_eq, List.length_map, Ψf2, Ψf1, Ψt5, Ψt4, Ψt3, roundQ, varsB, ABlk.isVar, List.all_cons, List.all_nil, cond_true, Tryz.underlying1, sz1, by1, ze1, Tryz.underlying3, sz3, by3, ze3, Tryz.underlying4, sz4, by4, ze4, Tryz.underlying9, sz9, by9, ze9, Tryz.underlying23, sz23, by23, ze23, Tryz.underlying29, sz29, by29, ze29, fa29_0, fa29_1, fa29_2, fa29_3, fa29_4, Tryz.underlying32, sz32, by32, ze32, Tryz.underlying72, sz72, by72, ze72, planP, go_sem, ↓reduceIte, reduceCtorEq, Nat.reduceEqDiff, Nat.reduceLT, ↓all_qV, Int.reduceToNat, Int.reduceLT, Int.reduceLE, Nat.reduceAdd, Nat.reduceLeDiff, Nat.reduceMul, ev_callG, gcallK_b, gcallK_w, callGc_true, callGc_false, List.forall_mem_cons, List.not_mem_nil, PV.one, AV.one]
          rfl
        · rw [g1, h9]; rfl
        · simp [fitH, hget, bidV]
      · rw [List.concat_eq_append] at hacc
        subst hacc
        have hlen : (pre ++ [y]).length = pre.length + 1 := by simp
        have c0 : decide ((0 : Int) < ((pre.length + 1 : Nat) : Int)) = true := by simp
        have hw2 : IntKind.i64.wrap (((pre.length + 1 : Nat) : Int) - 1) = (pre.length : Int) := by rw [i64_in _ (by omega)]; omega
        have e1 : ((pre ++ [y]).map bidV).getD pre.length default = bidV y := by simp [List.getD_eq_getElem?_getD]
        have hRl : ((pre ++ [y]).map bidV).length = pre.length + 1 := by simp
        have hst : ((pre ++ [y]) ++ [(⟨b, n, p, a, f⟩ : Bid)]).map bidV = (pre ++ [y]).map bidV ++ [bidV ⟨b, n, p, a, f⟩] := by simp
        rw [condB_snoc] at g1
        rw [hlen] at g1 g2 hal hw1
        obtain ⟨b', n', p', a', f'⟩ := y
        rw [hbv] at hst
        generalize hR : (pre ++ [(⟨b', n', p', a', f'⟩ : Bid)]).map bidV = R at e1 hRl hst
        have tk : R.take (pre.length + 1) = R := List.take_of_length_le (by omega)
        simp only [bidV] at e1
        have hbv' : bidV ⟨b, n, p, a, f⟩ = .agg [.int .i64 b, .int .i64 n, .int .i64 p, .int .i64 a, .bool f] := rfl
        simp only [hR, hlen, inR, AX.thn, nqH, ABlk.nq, AV.nq, AV.nqL, Bool.and_true, k_ts, hbd, hbv, c0, hw2, e1, tk, hw1, bidOf_agg, loadC_eq, List.length_map, Ψf2, Ψf1, Ψt5, Ψt4, Ψt3, roundQ, varsB, ABlk.isVar, List.all_cons, List.all_nil, List.append_nil, List.nil_append, decide_false, decide_true, Bool.and_false, Bool.false_and, Bool.or_false, Bool.false_eq_true, false_implies, implies_true, List.take_succ_cons, List.take_nil, k_parseS_19, validS, on_p_eq, k_parseS_21, beforeS, on_pp_eq, k_parseS_30, lineS, k_parseS_40, cntQ, on_ss_eq, k_parseS_42, readS, on_s_eq, k_parseS_43, tsQ, Tryz.underlying1, sz1, by1, ze1, Tryz.underlying3, sz3, by3, ze3, Tryz.underlying4, sz4, by4, ze4, Tryz.underlying9, sz9, by9, ze9, Tryz.underlying23, sz23, by23, ze23, Tryz.underlying29, sz29, by29, ze29, fa29_0, fa29_1, fa29_2, fa29_3, fa29_4, Tryz.underlying32, sz32, by32, ze32, Tryz.underlying72, sz72, by72, ze72, planP, go_sem, ↓reduceIte, reduceCtorEq, Nat.reduceEqDiff, Nat.reduceLT, ↓all_qV, Int.reduceToNat, Int.reduceLT, Int.reduceLE, Nat.reduceAdd, Nat.reduceLeDiff, Nat.reduceMul, ev_callG, gcallK_b, gcallK_w, callGc_true, callGc_false, List.forall_mem_cons, List.not_mem_nil, PV.one, AV.one]
        have hbl : ∀ h9 : vB ⟨b, n, p, a, f⟩ = true, (lineL ⟨b, n, p, a, f⟩).length ≤ 9223372036854775806 := fun h9 => by have := lineL_len h9; omega
        refine ⟨by omega, by omega, by kernel_rfl, isBid_agg, fun h9 => ⟨_, rfl, h9⟩, hbl, fun h9 => by simpa using h9, fun _ => ⟨by omega, by omega⟩, fun _ => by omega, fun _ => ⟨isBid_agg, isBid_agg⟩, fun h9 => ?_,
          fun h9 => ⟨rfl, by omega, by omega, by simp only [maxLen]; omega, pre ++ [⟨b', n', p', a', f'⟩] ++ [⟨b, n, p, a, f⟩], ⟨?_, by simp; omega, by omega⟩, ?_⟩⟩
        · rw [g1.trans (bif_t h9)]
          refine AWp.orders (T := planP) [(2, 2), (3, 3), (4, 4), (5, 5)] (by kernel_rfl) (parse_at rfl rfl rfl rfl) ?_
          simp only [inR, AX.thn, nqH, ABlk.nq, AV.nq, AV.nqL, Bool.and_true, hw1, loadC_eq, List.length_map, Ψf2, Ψf1, Ψt5, Ψt4, Ψt3, roundQ, varsB, ABlk.isVar, List.all_cons, List.all_nil, cond_true, Tryz.underlying1, sz1, by1, ze1, Tryz.underlying3, sz3, by3, ze3, Tryz.underlying4, sz4, by4, ze4, Tryz.underlying9, sz9, by9, ze9, Tryz.underlying23, sz23, by23, ze23, Tryz.underlying29, sz29, by29, ze29, fa29_0, fa29_1, fa29_2, fa29_3, fa29_4, Tryz.underlying32, sz32, by32, ze32, Tryz.underlying72, sz72, by72, ze72, planP, go_sem, ↓reduceIte, reduceCtorEq, Nat.reduceEqDiff, Nat.reduceLT, ↓all_qV, Int.reduceToNat, Int.reduceLT, Int.reduceLE, Nat.reduceAdd, Nat.reduceLeDiff, Nat.reduceMul, ev_callG, gcallK_b, gcallK_w, callGc_true, callGc_false, List.forall_mem_cons, List.not_mem_nil, PV.one, AV.one]
        · rw [g1]; exact bif_f h9
        · rw [hst]
          simp [fitH, hget, hlen]
    · rintro acc ⟨g1, g2, g3⟩
      rw [List.drop_length, prsG] at g1
      rw [g1]
      simp only [AX.thn, Ψf2, Ψf1, Ψt5, Ψt4, Ψt3, loadC_eq, Tryz.underlying1, sz1, by1, ze1, Tryz.underlying3, sz3, by3, ze3, Tryz.underlying4, sz4, by4, ze4, Tryz.underlying9, sz9, by9, ze9, Tryz.underlying23, sz23, by23, ze23, Tryz.underlying29, sz29, by29, ze29, fa29_0, fa29_1, fa29_2, fa29_3, fa29_4, Tryz.underlying32, sz32, by32, ze32, Tryz.underlying72, sz72, by72, ze72, plan0, go_sem, ↓reduceIte, reduceCtorEq, Nat.reduceEqDiff, Nat.reduceLT, ↓all_qV, Int.reduceToNat, Int.reduceLT, Int.reduceLE, Nat.reduceAdd, Nat.reduceLeDiff, Nat.reduceMul, ev_callG, gcallK_b, gcallK_w, callGc_true, callGc_false, List.forall_mem_cons, List.not_mem_nil, PV.one, AV.one]
      exact ⟨by simp, by rw [List.take_of_length_le (by simp)]⟩
noncomputable def Bg (g : FuncId) : PSpec := (putΦ Bf 25 parseS) g
theorem hBg : TabSound GG Bg := (hBf.put w_parseS)
end Go.AM
