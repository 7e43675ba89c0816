/-
  A part of a proof: see the last text of this claim for what is proved.
-/
import Derived.Test.YtamiheckgglgaaaDoorB4i
import Derived.Test.YtamiheckgglgaaaDoorZMa
/-! bids: equal lists, the example, what the laws share -/
namespace Go.AM
open Go Go.Proofs Go.IntWalk
set_option maxRecDepth 100000
set_option maxHeartbeats 1000000
set_option linter.unusedSimpArgs false
set_option linter.unusedVariables false
def on_ll (p : List PV → List PV → Prop) (f : List PV → List PV → PV) : PSpec
  | [.sl a0, .sl a1] => (p a0 a1, f a0 a1)
  | _ => (False, default)
theorem on_ll_eq {p : List PV → List PV → Prop} {f : List PV → List PV → PV} {a0 : List PV} {a1 : List PV} : on_ll p f [.sl a0, .sl a1] = (p a0 a1, f a0 a1) := rfl
theorem on_ll_inv {p : List PV → List PV → Prop} {f : List PV → List PV → PV} {args : List PV} (h : (on_ll p f args).1) : ∃ a0 : List PV, ∃ a1 : List PV, args = [.sl a0, .sl a1] ∧ p a0 a1 := by
  unfold on_ll at h
  split at h
  · exact ⟨_, _, rfl, h⟩
  · exact h.elim
noncomputable def sameS : PSpec := on_ll (fun a b => a = b ∧ a.length ≤ 1000 ∧ ∃ l : List Bid, a = l.map bidV) (fun _ _ => .bool true)
theorem w_sameS : PSound GG 11 sameS := by
  refine PSound.of_wpc (C := cxP Tryd.prog Bg [] 26) (T := plan0) Tryd.func11 rfl rfl rfl (Fit.pure (G := GG) hBg mixed) (fun args h => ?_)
  unfold sameS at h
  obtain ⟨a, b, rfl, hp⟩ := on_ll_inv h
  refine ⟨by simp [cxP], ?_⟩
  simp only [sameS, on_ll_eq, Tryd.f11, argL, plan0]
  obtain ⟨rfl, hn, l, rfl⟩ := hp
  simp only [List.length_map] at hn
  simp only [List.length_map, Tryd.underlying3, sz3, by3, ze3, Tryd.underlying4, sz4, by4, ze4, Tryd.underlying25, sz25, by25, ze25, Tryd.underlying28, sz28, by28, ze28, fa28_0, fa28_1, fa28_2, fa28_3, fa28_4, go_sem, ↓reduceIte, reduceCtorEq, Nat.reduceEqDiff, Nat.reduceLT, ↓all_qV, Int.reduceToNat, Int.reduceLT, Int.reduceLE, Nat.reduceAdd, Nat.reduceLeDiff, Nat.reduceMul]
  refine ⟨by simp, fun _ => ?_⟩
  refine AWp.loop (T := plan0) (α := Nat) (fun i => ([(0, .pv (.sl (l.map bidV))), (1, .pv (.sl (l.map bidV))), (12, .pv (.int .i64 l.length)), (13, .pv (.int .i64 i))], []))
    (fun i => i ≤ l.length) (fun i => l.length - i)
    ⟨0, Nat.zero_le _, ⟨by simp [fitR, look], trivial, rfl, rfl, rfl⟩⟩ ?_
  rintro i h1
  have hi1 : IntKind.i64.wrap ((i : Int) + 1) = ((i + 1 : Nat) : Int) := by rw [i64_in _ (by omega)]; omega
  by_cases hlt : i < l.length
  · have c0 : decide ((i : Int) < (l.length : Int)) = true := by simp; omega
    have e1 := getD_bid hlt
    generalize l.getD i default = x at e1
    cases x
    simp only [bidV] at e1
    simp only [c0, e1, hi1, List.length_map, List.take_succ_cons, List.take_nil, Tryd.underlying3, sz3, by3, ze3, Tryd.underlying4, sz4, by4, ze4, Tryd.underlying25, sz25, by25, ze25, Tryd.underlying28, sz28, by28, ze28, fa28_0, fa28_1, fa28_2, fa28_3, fa28_4, plan0, go_sem, ↓reduceIte, reduceCtorEq, Nat.reduceEqDiff, Nat.reduceLT, ↓all_qV, Int.reduceToNat, Int.reduceLT, Int.reduceLE, Nat.reduceAdd, Nat.reduceLeDiff, Nat.reduceMul, ev_callG, gcallK_b, gcallK_w, callGc_true, callGc_false]
    exact ⟨by kernel_rfl, ⟨by omega, by omega⟩, ⟨by omega, by omega⟩, by kernel_rfl, fun h9 => by simp [keyEqL, keyEq1] at h9, fun _ => ⟨i + 1, by omega, by omega, ⟨by simp [fitR, look], trivial, rfl, rfl, rfl⟩⟩⟩
  · have c0 : decide ((i : Int) < (l.length : Int)) = false := by simp; omega
    simp only [c0, List.length_map, Tryd.underlying3, sz3, by3, ze3, Tryd.underlying4, sz4, by4, ze4, Tryd.underlying25, sz25, by25, ze25, Tryd.underlying28, sz28, by28, ze28, fa28_0, fa28_1, fa28_2, fa28_3, fa28_4, plan0, go_sem, ↓reduceIte, reduceCtorEq, Nat.reduceEqDiff, Nat.reduceLT, ↓all_qV, Int.reduceToNat, Int.reduceLT, Int.reduceLE, Nat.reduceAdd, Nat.reduceLeDiff, Nat.reduceMul]
noncomputable def Bh (g : FuncId) : PSpec := (putΦ Bg 11 sameS) g
theorem hBh : TabSound GG Bh := (hBg.put w_sameS)
/-! ### The example -/
def exB : Bid := ⟨3, 1, 99500, 5000, false⟩
theorem ex_line : lineL exB = [51, 32, 49, 32, 53, 48, 48, 48, 32, 57, 57, 53, 48, 48] := by
  have d1 : Lib.itoa 3 = [51] := by simp [Lib.itoa, Lib.decDigits]
  have d2 : Lib.itoa 1 = [49] := by simp [Lib.itoa, Lib.decDigits]
  have d3 : Lib.itoa 5000 = [53, 48, 48, 48] := by simp [Lib.itoa, Lib.decDigits]
  have d4 : Lib.itoa 99500 = [57, 57, 53, 48, 48] := by simp [Lib.itoa, Lib.decDigits]
  unfold lineL exB
  simp only [d1, d2, d3, d4]
  rfl
theorem ex_prs : prs [51, 32, 49, 32, 53, 48, 48, 48, 32, 57, 57, 53, 48, 48, 10] = ([exB], 0, 0) := by
  have h := prs_fmt (l := [exB]) (fun x hx => by rw [List.mem_singleton] at hx; subst hx; kernel_rfl) (List.pairwise_singleton _ _) (by simp)
  rw [fmtL, fmtL, ex_line] at h
  exact h
theorem ex_lineB : lineL ⟨3, 1, 99500, 5000, false⟩ = [51, 32, 49, 32, 53, 48, 48, 48, 32, 57, 57, 53, 48, 48] := ex_line
theorem ex_vB : vB ⟨3, 1, 99500, 5000, false⟩ = true := by kernel_rfl
theorem ex_bV : bidV exB = .agg [.int .i64 3, .int .i64 1, .int .i64 99500, .int .i64 5000, .bool false] := rfl
noncomputable def saneS : PSpec := on_ (True) (.bool true)
theorem k_saneS_15 {args : List PV} : Bh 15 args = parseS args := rfl
theorem k_saneS_17 {args : List PV} : Bh 17 args = LineS args := rfl
theorem w_saneS : PSound GG 13 saneS := by
  refine PSound.of_wpc (C := cxP Tryd.prog Bh [] 42) (T := plan0) Tryd.func13 rfl rfl rfl (Fit.pure (G := GG) hBh mixed) (fun args h => ?_)
  unfold saneS at h
  obtain ⟨rfl, hp⟩ := on__inv h
  refine ⟨by simp [cxP], ?_⟩
  simp only [saneS, on__eq, Tryd.f13, argL, plan0]
  simp only [ex_prs, bidOf_agg, ex_lineB, ex_vB, ex_bV, cond_true, List.map_cons, List.map_nil, k_saneS_15, parseS, on_s_eq, k_saneS_17, LineS, on_p_eq, List.take_succ_cons, List.take_nil, Tryd.underlying1, sz1, by1, ze1, Tryd.underlying2, sz2, by2, ze2, Tryd.underlying3, sz3, by3, ze3, Tryd.underlying4, sz4, by4, ze4, Tryd.underlying9, sz9, by9, ze9, Tryd.underlying25, sz25, by25, ze25, Tryd.underlying28, sz28, by28, ze28, fa28_0, fa28_1, fa28_2, fa28_3, fa28_4, Tryd.underlying35, sz35, by35, ze35, Tryd.underlying36, sz36, by36, ze36, Tryd.underlying38, sz38, by38, ze38, go_sem, ↓reduceIte, reduceCtorEq, Nat.reduceEqDiff, Nat.reduceLT, ↓all_qV, Int.reduceToNat, Int.reduceLT, Int.reduceLE, Nat.reduceAdd, Nat.reduceLeDiff, Nat.reduceMul, ev_callG, gcallK_b, gcallK_w, callGc_true, callGc_false, List.forall_mem_cons, List.not_mem_nil, PV.one, AV.one]
  exact isBid_agg
noncomputable def Bi (g : FuncId) : PSpec := (putΦ Bh 13 saneS) g
theorem hBi : TabSound GG Bi := (hBh.put w_saneS)
end Go.AM
