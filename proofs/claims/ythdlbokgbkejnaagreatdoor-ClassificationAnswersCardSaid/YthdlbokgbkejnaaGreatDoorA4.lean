/-
  A part of a proof: see the last text of this claim for what is proved.
-/
import Derived.Test.YthdlbokgbkejnaaGreatDoorA3c
import Derived.Test.YthdlbokgbkejnaaGreatDoorZMa
namespace Go.AM
open Go Go.Proofs Go.IntWalk
set_option maxRecDepth 100000
set_option maxHeartbeats 1000000
set_option linter.unusedSimpArgs false
set_option linter.unusedVariables false
theorem pI_partsR (s : List UInt8) : pI s = partsR s := by
  unfold pI
  rw [parts_partsR, List.map_map]
  exact (List.map_congr_left (fun x _ => rfl)).trans (List.map_id _)
theorem cmpF_C (a b : List UInt8) : cmpF a b = cmpC a b := by
  unfold cmpF cmpC cmpS
  rw [pI_partsR, pI_partsR]
  generalize partsR a = p
  generalize partsR b = q
  have h : ∀ n : Nat, (((n : Int) + 1) == 0) = false := fun n => by simp; omega
  cases p <;> cases q <;> simp [cmpL, h]
theorem good_code (s : List UInt8) : goodF 0 1 s = isCode s := gd_code s
noncomputable def Y4 (g : FuncId) : PSpec := (putΦ Y3 34 rsumS) g
theorem hY4 : TabSound GG Y4 := (hY3.put w_rsumS)
noncomputable def rfstS : PSpec := on_l (fun l => (∀ e, e ∈ l → isHn e) ∧ l.length ≤ 1000000000000) (fun l => .tup [.int .i64 (fstF l).1, .int .i64 (fstF l).2])
theorem k_rfstS_14 {args : List PV} : Y4 14 args = compareS args := rfl
theorem k_rfstS_26 {args : List PV} : Y4 26 args = rhasS args := rfl
theorem k_rfstS_47 {args : List PV} : Y4 47 args = goodS args := rfl
theorem k_rfstS_57 {args : List PV} : Y4 57 args = parentS args := rfl
theorem k_rfstS_72 {args : List PV} : Y4 72 args = rnameS args := rfl
theorem w_rfstS : PSound GG 51 rfstS := by
  refine PSound.of_wpc (C := cxP Tryz.prog Y4 [] 63) (T := plan0) Tryz.func51 rfl rfl rfl (Fit.pure (G := GG) hY4 mixed) (fun args h => ?_)
  unfold rfstS at h
  obtain ⟨l, rfl, hp⟩ := on_l_inv h
  refine ⟨by simp [cxP], ?_⟩
  simp only [rfstS, on_l_eq, Tryz.f51, argL, plan0]
  obtain ⟨hl, hn⟩ := hp
  have hH : ∀ e, e ∈ l → isH e := fun e he => (hl e he).isH
  simp only [Tryz.underlying1, sz1, by1, ze1, Tryz.underlying3, sz3, by3, ze3, Tryz.underlying4, sz4, by4, ze4, Tryz.underlying9, sz9, by9, ze9, Tryz.underlying23, sz23, by23, ze23, Tryz.underlying44, sz44, by44, ze44, Tryz.underlying60, sz60, by60, ze60, fa60_0, fa60_1, go_sem, ↓reduceIte, reduceCtorEq, Nat.reduceEqDiff, Nat.reduceLT, ↓all_qV, Int.reduceToNat, Int.reduceLT, Int.reduceLE, Nat.reduceAdd, Nat.reduceLeDiff, Nat.reduceMul]
  unfold fstF
  refine ⟨fun h => by rw [h]; rfl, fun h => ?_⟩
  have hsm : l.length ≤ 60 := by simp only [decide_eq_false_iff_not] at h; omega
  rw [h, cond_false]
  refine AWp.loop (T := plan0) (α := Nat) (fun i => ([(0, .pv (.sl l)), (9, .pv (.sl l)), (10, .pv (.int .i64 l.length)), (11, .pv (.int .i64 i))], [])) (fun i => i ≤ l.length ∧ fstG l (l.length - i) i = fstG l l.length 0) (fun i => l.length - i)
    ⟨0, ⟨Nat.zero_le _, rfl⟩, ⟨by simp [fitR, look], trivial, rfl, rfl, rfl⟩⟩ ?_
  rintro i ⟨h1, h2⟩
  have hi1 : IntKind.i64.wrap ((i : Int) + 1) = ((i + 1 : Nat) : Int) := by rw [i64_in _ (by omega)]; omega
  have hwi : IntKind.i64.wrap ((i : Int) - 1) = (i : Int) - 1 := i64_in _ (by omega)
  by_cases hlt : i < l.length
  · have c0 : decide ((i : Int) < (l.length : Int)) = true := by simp; omega
    rw [show l.length - i = (l.length - (i + 1)) + 1 by omega, fstG] at h2
    obtain ⟨c, n, he, hc, hnl⟩ := hl _ (getD_mem hlt)
    have he3 : l.getD i default = .agg [.str c, .str n] := he
    have hpl := parC_len c
    have hd : hdF l i = (bif !isCode c then 5 else bif !nmF n then 4 else bif decide ((0 : Int) < (i : Int)) && decide (0 ≤ cmpC (hCode (l.getD (i - 1) default)) c) then 8 else
      bif !(parC c == []) && !(l.any (fun e => hCode e == parC c)) then 6 else 0) := by
      unfold hdF
      rw [he3]; rfl
    have hnx : hdF l i = 0 → fstG l (l.length - (i + 1)) (i + 1) = fstG l l.length 0 := fun hz => by rw [hz] at h2; exact h2
    have hst : ∀ k : Int, hdF l i = k → k ≠ 0 → fstG l l.length 0 = (((i + 1 : Nat) : Int), k) := fun k hk h0 => by
      rw [hk] at h2
      rw [← h2]
      have : (k != 0) = true := by simpa using h0
      rw [this, cond_true]
    obtain ⟨j, hj⟩ : ∃ j, (i : Int) - 1 = j := ⟨_, rfl⟩
    have hpv : 0 < i → ∃ c' n', l.getD (i - 1) default = .agg [.str c', .str n'] ∧ c'.length ≤ 1000000000000 := fun h0 => by
      obtain ⟨c', n', he', hc', _⟩ := hl _ (getD_mem (show i - 1 < l.length by omega))
      exact ⟨c', n', he', hc'⟩
    by_cases h0 : 0 < i
    · obtain ⟨c', n', he', hc'⟩ := hpv h0
      have w2 : decide ((0 : Int) < (i : Int)) = true := decide_eq_true (by omega)
      have w3 : ((i : Int) - 1).toNat = i - 1 := by omega
      have hcd : hCode (.agg [.str c', .str n']) = c' := rfl
      rw [he', hcd, w2] at hd
      simp only [c0, he3, he', hi1, hwi, w2, w3, cmpF_C, par_code, good_code, List.length_map, List.take_succ_cons, List.take_nil, k_rfstS_14, compareS, on_ss_eq, k_rfstS_26, rhasS, on_ls_eq, k_rfstS_47, goodS, on_s_eq, k_rfstS_57, parentS, k_rfstS_72, rnameS, Tryz.underlying1, sz1, by1, ze1, Tryz.underlying3, sz3, by3, ze3, Tryz.underlying4, sz4, by4, ze4, Tryz.underlying9, sz9, by9, ze9, Tryz.underlying23, sz23, by23, ze23, Tryz.underlying44, sz44, by44, ze44, Tryz.underlying60, sz60, by60, ze60, fa60_0, fa60_1, plan0, go_sem, ↓reduceIte, reduceCtorEq, Nat.reduceEqDiff, Nat.reduceLT, ↓all_qV, Int.reduceToNat, Int.reduceLT, Int.reduceLE, Nat.reduceAdd, Nat.reduceLeDiff, Nat.reduceMul]
      refine ⟨⟨by omega, by omega⟩, by omega, fun g1 => ?_, fun g1 => ⟨by omega, fun g2 => ?_, fun g2 => ⟨by kernel_rfl, ?_⟩⟩⟩
      · rw [g1] at hd; rw [hst 5 hd (by decide)]
      · rw [g1, g2] at hd; rw [hst 4 hd (by decide)]
      rw [g1, g2] at hd
      refine ⟨⟨by omega, by omega⟩, ⟨by omega, by omega⟩, fun g3 => ?_, fun g3 => ⟨by omega, fun _ => by omega, fun _ => ⟨hH, by omega⟩, fun g4 => ?_, fun g4 => ⟨i + 1, ⟨by omega, ?_⟩, by omega, ⟨by simp [fitR, look], trivial, rfl, rfl, rfl⟩⟩⟩⟩
      · rw [g3] at hd; rw [hst 8 hd (by decide)]
      · rw [g3, g4] at hd; rw [hst 6 hd (by decide)]
      · rw [g3, g4] at hd; exact hnx hd
    · have hi0 : i = 0 := by omega
      subst hi0
      have w2 : decide ((0 : Int) < ((0 : Nat) : Int)) = false := by decide
      rw [w2] at hd
      have w1 : IntKind.i64.wrap (0 - 1) = -1 := by decide
      have w4 : IntKind.i64.wrap (0 + 1) = 1 := by decide
      have c0 : decide ((0 : Int) < (l.length : Int)) = true := by simp; omega
      have w3 : Int.toNat (-1) = 0 := rfl
      simp only [c0, he3, w1, w4, w3, decide_false, cmpF_C, par_code, good_code, List.length_map, List.take_succ_cons, List.take_nil, k_rfstS_14, compareS, on_ss_eq, k_rfstS_26, rhasS, on_ls_eq, k_rfstS_47, goodS, on_s_eq, k_rfstS_57, parentS, k_rfstS_72, rnameS, Tryz.underlying1, sz1, by1, ze1, Tryz.underlying3, sz3, by3, ze3, Tryz.underlying4, sz4, by4, ze4, Tryz.underlying9, sz9, by9, ze9, Tryz.underlying23, sz23, by23, ze23, Tryz.underlying44, sz44, by44, ze44, Tryz.underlying60, sz60, by60, ze60, fa60_0, fa60_1, plan0, go_sem, ↓reduceIte, reduceCtorEq, Nat.reduceEqDiff, Nat.reduceLT, ↓all_qV, Int.reduceToNat, Int.reduceLT, Int.reduceLE, Nat.reduceAdd, Nat.reduceLeDiff, Nat.reduceMul]
      refine ⟨by omega, by omega, fun g1 => ?_, fun g1 => ⟨by omega, fun g2 => ?_, fun g2 => ⟨by kernel_rfl, ?_⟩⟩⟩
      · rw [g1] at hd; rw [hst 5 hd (by decide)]; rfl
      · rw [g1, g2] at hd; rw [hst 4 hd (by decide)]; rfl
      rw [g1, g2] at hd
      refine ⟨by omega, fun _ => by omega, fun _ => ⟨hH, by omega⟩, fun g4 => ?_, fun g4 => ⟨1, ⟨by omega, ?_⟩, by omega, ⟨by simp [fitR, look], trivial, rfl, rfl, rfl⟩⟩⟩
      · rw [g4] at hd; rw [hst 6 hd (by decide)]; rfl
      · rw [g4] at hd; exact hnx hd
  · have c0 : decide ((i : Int) < (l.length : Int)) = false := by simp; omega
    simp only [c0, Tryz.underlying1, sz1, by1, ze1, Tryz.underlying3, sz3, by3, ze3, Tryz.underlying4, sz4, by4, ze4, Tryz.underlying9, sz9, by9, ze9, Tryz.underlying23, sz23, by23, ze23, Tryz.underlying44, sz44, by44, ze44, Tryz.underlying60, sz60, by60, ze60, fa60_0, fa60_1, plan0, go_sem, ↓reduceIte, reduceCtorEq, Nat.reduceEqDiff, Nat.reduceLT, ↓all_qV, Int.reduceToNat, Int.reduceLT, Int.reduceLE, Nat.reduceAdd, Nat.reduceLeDiff, Nat.reduceMul]
    rw [show l.length - i = 0 by omega, fstG] at h2
    rw [← h2]
noncomputable def Y5 (g : FuncId) : PSpec := (putΦ Y4 51 rfstS) g
theorem hY5 : TabSound GG Y5 := (hY4.put w_rfstS)
noncomputable def rvalS : PSpec := on_l (fun l => (∀ e, e ∈ l → isHn e) ∧ l.length ≤ 1000000000000) (fun l => .int .i64 (fstF l).2)
theorem k_rvalS_51 {args : List PV} : Y5 51 args = rfstS args := rfl
theorem w_rvalS : PSound GG 22 rvalS := by
  refine PSound.of_wpc (C := cxP Tryz.prog Y5 [] 11) (T := plan0) Tryz.func22 rfl rfl rfl (Fit.pure (G := GG) hY5 mixed) (fun args h => ?_)
  unfold rvalS at h
  obtain ⟨l, rfl, hp⟩ := on_l_inv h
  refine ⟨by simp [cxP], ?_⟩
  simp only [rvalS, on_l_eq, Tryz.f22, argL, plan0]
  simp only [k_rvalS_51, rfstS, on_l_eq, Tryz.underlying1, sz1, by1, ze1, Tryz.underlying3, sz3, by3, ze3, Tryz.underlying9, sz9, by9, ze9, Tryz.underlying23, sz23, by23, ze23, Tryz.underlying44, sz44, by44, ze44, Tryz.underlying52, sz52, by52, ze52, Tryz.underlying60, sz60, by60, ze60, fa60_0, fa60_1, go_sem, ↓reduceIte, reduceCtorEq, Nat.reduceEqDiff, Nat.reduceLT, ↓all_qV, Int.reduceToNat, Int.reduceLT, Int.reduceLE, Nat.reduceAdd, Nat.reduceLeDiff, Nat.reduceMul]
  exact hp
noncomputable def Y6 (g : FuncId) : PSpec := (putΦ (putΦ (putΦ Y5 22 rvalS) 19 codeS) 29 leavesS) g
theorem hY6 : TabSound GG Y6 := (((hY5.put w_rvalS).put w_codeS).put w_leavesS)
end Go.AM
namespace Go.AM
open Go Go.Proofs Go.IntWalk
set_option maxRecDepth 100000
set_option maxHeartbeats 1000000
set_option linter.unusedSimpArgs false
set_option linter.unusedVariables false
theorem leavesF_eq (l : List PV) (top : List UInt8) : leavesF l top = (lvC (l.map hCode) top).map PV.str := by
  have h1 : ∀ e : PV, leafF l top e = (isCode (hCode e) && (l.map hCode).all (fun x => !(parC x == hCode e)) && (top == [] || undC (hCode e) top)) := by
    intro e
    unfold leafF chl
    rw [gd_code, undF_code, List.all_map]
    have : (fun x => !(parF (hCode x) == hCode e)) = ((fun x => !(parC x == hCode e)) ∘ hCode) := by
      funext x; simp only [Function.comp, par_code]
    rw [this]
    cases isCode (hCode e) <;> simp [Bool.and_comm]
  unfold leavesF lvC
  rw [List.filter_map, List.map_map]
  have h2 : leafF l top = ((fun c => isCode c && (l.map hCode).all (fun x => !(parC x == c)) && (top == [] || undC c top)) ∘ hCode) := by
    funext e; exact h1 e
  rw [h2]; rfl
noncomputable def rlvS : PSpec := on_ls (fun l top => (∀ e, e ∈ l → isH e) ∧ l.length ≤ 1000000000000 ∧ top.length ≤ 1000000000000) (fun l top => .sl ((lvC (l.map hCode) top).map PV.str))
theorem w_rlvS : PSound GG 29 rlvS := by
  have : leavesS = rlvS := by
    unfold leavesS rlvS
    congr 1
    funext l top
    rw [leavesF_eq]
  rw [← this]; exact w_leavesS
noncomputable def rcdS : PSpec := on_l (fun es => allI es ∧ es.length ≤ 4611686018427387904) (fun es => .str (cdC (es.map nOf)))
theorem w_rcdS : PSound GG 19 rcdS := by
  have : codeS = rcdS := by
    unfold codeS rcdS
    congr 1
    funext es
    rw [code_eq]
  rw [← this]; exact w_codeS
noncomputable def rptS : PSpec := on_s (fun s => s.length ≤ 4611686018427387904) (fun s => .sl ((partsR s).map intV))
theorem w_rptS : PSound GG 12 rptS := by
  have : partsS = rptS := by
    unfold partsS rptS
    congr 1
    funext s
    rw [parts_partsR]
  rw [← this]; exact w_partsS
noncomputable def rcmS : PSpec := on_ss (fun a b => a.length ≤ 4611686018427387904 ∧ b.length ≤ 4611686018427387904) (fun a b => .int .i64 (cmpC a b))
theorem w_rcmS : PSound GG 14 rcmS := by
  have : compareS = rcmS := by
    unfold compareS rcmS
    congr 1
    funext a b
    rw [cmpF_C]
  rw [← this]; exact w_compareS
noncomputable def runS : PSpec := on_ss (fun a b => a.length ≤ 4611686018427387904 ∧ b.length ≤ 4611686018427387904) (fun a b => .bool (undC a b))
theorem w_runS : PSound GG 16 runS := by
  have : underS = runS := by
    unfold underS runS
    congr 1
    funext a b
    rw [undF_code]
  rw [← this]; exact w_underS
noncomputable def rtextS : PSpec := on_l (fun l => (∀ e, e ∈ l → isHs e) ∧ l.length ≤ 1000) (fun l => .str (bif (fstF l).2 != 0 then [63] else txtL l))
theorem k_rtextS_22 {args : List PV} : Y6 22 args = rvalS args := rfl
theorem w_rtextS : PSound GG 24 rtextS := by
  refine PSound.of_wpc (C := cxP Tryz.prog Y6 [] 26) (T := plan0) Tryz.func24 rfl rfl rfl (Fit.pure (G := GG) hY6 mixed) (fun args h => ?_)
  unfold rtextS at h
  obtain ⟨l, rfl, hp⟩ := on_l_inv h
  refine ⟨by simp [cxP], ?_⟩
  simp only [rtextS, on_l_eq, Tryz.f24, argL, plan0]
  obtain ⟨hl, hn⟩ := hp
  simp only [k_rtextS_22, rvalS, on_l_eq, Tryz.underlying1, sz1, by1, ze1, Tryz.underlying3, sz3, by3, ze3, Tryz.underlying4, sz4, by4, ze4, Tryz.underlying9, sz9, by9, ze9, Tryz.underlying23, sz23, by23, ze23, Tryz.underlying44, sz44, by44, ze44, Tryz.underlying60, sz60, by60, ze60, fa60_0, fa60_1, go_sem, ↓reduceIte, reduceCtorEq, Nat.reduceEqDiff, Nat.reduceLT, ↓all_qV, Int.reduceToNat, Int.reduceLT, Int.reduceLE, Nat.reduceAdd, Nat.reduceLeDiff, Nat.reduceMul, ev_callG, gcallK_b, gcallK_w, callGc_true, callGc_false, List.forall_mem_cons, List.not_mem_nil, PV.one, AV.one]
  refine ⟨⟨fun e he => (hl e he).isHn, by omega⟩, fun h1 => by rw [h1]; rfl, fun h1 => ?_⟩
  rw [h1, cond_false]
  refine AWp.loop (T := plan0) (α := Nat) (fun i => ([(3, .pv (.str (txtL (l.take i)))), (9, .pv (.sl l)), (10, .pv (.int .i64 l.length)), (11, .pv (.int .i64 i))], []))
    (fun i => i ≤ l.length) (fun i => l.length - i)
    ⟨0, Nat.zero_le _, ⟨by simp [fitR, look, txtL], trivial, rfl, rfl, rfl⟩⟩ ?_
  rintro i g1
  have hi1 : IntKind.i64.wrap ((i : Int) + 1) = ((i + 1 : Nat) : Int) := by rw [i64_in _ (by omega)]; omega
  have hfl := txt_lenS (l.take i) (fun x hx => hl x (List.mem_of_mem_take hx))
  rw [List.length_take] at hfl
  by_cases hlt : i < l.length
  · have c0 : decide ((i : Int) < (l.length : Int)) = true := by simp; omega
    have e1 : ∃ c n, l.getD i default = hV c n ∧ c.length ≤ 100000 ∧ n.length ≤ 100000 := hl _ (getD_mem hlt)
    have hst : txtL (l.take (i + 1)) = txtL (l.take i) ++ (hLine (l.getD i default) ++ [10]) := by rw [take_succ_getD hlt, txtL_app]; simp [txtL]
    obtain ⟨c, n, e1, hc, hnl⟩ := e1
    rw [e1] at hst
    have e1 : l.getD i default = .agg [.str c, .str n] := e1
    have hline : hLine (hV c n) ++ [10] = c ++ [32] ++ n ++ [10] := by show (c ++ 32 :: n) ++ [10] = _; simp
    rw [hline] at hst
    have hL : (c ++ [32] ++ n ++ [10]).length = c.length + 1 + n.length + 1 := by simp only [List.length_append, List.length_cons, List.length_nil]
    have hL2 : (c ++ [32] ++ n).length = c.length + 1 + n.length := by simp only [List.length_append, List.length_cons, List.length_nil]
    have hL3 : (c ++ [32]).length = c.length + 1 := by simp only [List.length_append, List.length_cons, List.length_nil]
    simp only [c0, e1, hi1, List.take_succ_cons, List.take_nil, Tryz.underlying1, sz1, by1, ze1, Tryz.underlying3, sz3, by3, ze3, Tryz.underlying4, sz4, by4, ze4, Tryz.underlying9, sz9, by9, ze9, Tryz.underlying23, sz23, by23, ze23, Tryz.underlying44, sz44, by44, ze44, Tryz.underlying60, sz60, by60, ze60, fa60_0, fa60_1, plan0, go_sem, ↓reduceIte, reduceCtorEq, Nat.reduceEqDiff, Nat.reduceLT, ↓all_qV, Int.reduceToNat, Int.reduceLT, Int.reduceLE, Nat.reduceAdd, Nat.reduceLeDiff, Nat.reduceMul, ev_callG, gcallK_b, gcallK_w, callGc_true, callGc_false, List.forall_mem_cons, List.not_mem_nil, PV.one, AV.one]
    refine ⟨⟨by omega, by omega⟩, by omega, by omega, by omega, by omega, i + 1, by omega, by omega, ⟨?_, trivial, rfl, rfl, rfl⟩⟩
    rw [hst]
    simp [fitR, look]
  · have c0 : decide ((i : Int) < (l.length : Int)) = false := by simp; omega
    rw [List.take_of_length_le (by omega)]
    simp only [c0, Tryz.underlying1, sz1, by1, ze1, Tryz.underlying3, sz3, by3, ze3, Tryz.underlying4, sz4, by4, ze4, Tryz.underlying9, sz9, by9, ze9, Tryz.underlying23, sz23, by23, ze23, Tryz.underlying44, sz44, by44, ze44, Tryz.underlying60, sz60, by60, ze60, fa60_0, fa60_1, plan0, go_sem, ↓reduceIte, reduceCtorEq, Nat.reduceEqDiff, Nat.reduceLT, ↓all_qV, Int.reduceToNat, Int.reduceLT, Int.reduceLE, Nat.reduceAdd, Nat.reduceLeDiff, Nat.reduceMul, ev_callG, gcallK_b, gcallK_w, callGc_true, callGc_false, List.forall_mem_cons, List.not_mem_nil, PV.one, AV.one]
def rwG : List UInt8 → List UInt8 → List (List UInt8)
  | [], cur => if cur = [] then [] else [cur]
  | c :: r, cur => if c = 10 then cur :: rwG r [] else rwG r (cur ++ [c])
def rwF (s : List UInt8) : List (List UInt8) := rwG s []
theorem rwG_cut : ∀ (s cur : List UInt8), (10 : UInt8) ∉ s → rwG s cur = if cur ++ s = [] then [] else [cur ++ s]
  | [], cur, _ => by simp [rwG]
  | c :: r, cur, h => by
    simp only [List.mem_cons, not_or] at h
    rw [rwG, if_neg (fun e => h.1 e.symm), rwG_cut r (cur ++ [c]) h.2]
    simp
theorem rwG_step : ∀ (a r cur : List UInt8), (10 : UInt8) ∉ a → rwG (a ++ 10 :: r) cur = (cur ++ a) :: rwG r []
  | [], r, cur, _ => by simp [rwG]
  | c :: a, r, cur, h => by
    simp only [List.mem_cons, not_or] at h
    rw [List.cons_append, rwG, if_neg (fun e => h.1 e.symm), rwG_step a r (cur ++ [c]) h.2]
    simp
theorem lf_split : ∀ s : List UInt8, (10 : UInt8) ∉ s ∨ ∃ a r, s = a ++ 10 :: r ∧ (10 : UInt8) ∉ a
  | [] => .inl (by simp)
  | c :: s => by
    by_cases h : c = 10
    · exact .inr ⟨[], s, by rw [h]; rfl, by simp⟩
    · rcases lf_split s with h1 | ⟨a, r, h1, h2⟩
      · exact .inl (by simp only [List.mem_cons, not_or]; exact ⟨fun e => h e.symm, h1⟩)
      · exact .inr ⟨c :: a, r, by rw [h1]; rfl, by simp only [List.mem_cons, not_or]; exact ⟨fun e => h e.symm, h2⟩⟩
theorem lineCut_no : ∀ s : List UInt8, (10 : UInt8) ∉ s → lineCut s = (s, [])
  | [], _ => rfl
  | c :: s, h => by
    simp only [List.mem_cons, not_or] at h
    have ih := lineCut_no s h.2
    have : ¬ c = 10 := fun e => h.1 e.symm
    simp [lineCut, this, ih]
theorem trim_no {s : List UInt8} (h : (10 : UInt8) ∉ s) : Lib.trimSuffix s [10] = s := by
  unfold Lib.trimSuffix Lib.hasSuffix
  rw [if_neg]
  rw [List.isSuffixOf_iff_suffix]
  rintro ⟨t, ht⟩
  exact h (by rw [← ht]; simp)
theorem rw_lines : ∀ (n : Nat) (s : List UInt8), s.length ≤ n → (linesOf s).map (fun x => Lib.trimSuffix x [10]) = rwF s := by
  intro n
  induction n with
  | zero =>
    intro s hs
    have : s = [] := List.eq_nil_of_length_eq_zero (by omega)
    subst this
    rw [linesOf_nil]; rfl
  | succ n ih =>
    intro s hs
    rcases lf_split s with h | ⟨a, r, rfl, h⟩
    · cases s with
      | nil => rw [linesOf_nil]; rfl
      | cons c s =>
        rw [linesOf_cons, lineCut_no _ h, linesOf_nil]
        unfold rwF
        rw [rwG_cut _ _ h]
        simp [trim_no h]
    · rw [lines_step h, List.map_cons, trim_line, ih r (by simp only [List.length_append, List.length_cons] at hs; omega)]
      unfold rwF
      rw [rwG_step _ _ _ h]; simp
noncomputable def rowsS : PSpec := on_s (fun s => s.length ≤ 1000000) (fun s => .sl ((rwF s).map PV.str))
theorem w_rowsS : PSound GG 63 rowsS := by
  refine PSound.of_wpc (C := cxP Tryz.prog Y6 [] 36) (T := plan0) Tryz.func63 rfl rfl rfl (Fit.pure (G := GG) hY6 mixed) (fun args h => ?_)
  unfold rowsS at h
  obtain ⟨s, rfl, hp⟩ := on_s_inv h
  refine ⟨by simp [cxP], ?_⟩
  simp only [rowsS, on_s_eq, Tryz.f63, argL, plan0]
  simp only [Tryz.underlying1, sz1, by1, ze1, Tryz.underlying3, sz3, by3, ze3, Tryz.underlying4, sz4, by4, ze4, Tryz.underlying5, sz5, by5, ze5, Tryz.underlying9, sz9, by9, ze9, Tryz.underlying34, sz34, by34, ze34, go_sem, ↓reduceIte, reduceCtorEq, Nat.reduceEqDiff, Nat.reduceLT, ↓all_qV, Int.reduceToNat, Int.reduceLT, Int.reduceLE, Nat.reduceAdd, Nat.reduceLeDiff, Nat.reduceMul]
  refine AWp.adoptS (s := 3) (κ := 8000) (k := 1) (by simp [look, upd]) rfl (by decide) ?_
  refine AWp.loop (T := plan0) (α := Nat × Nat × List (List UInt8)) (fun x => ([(0, .pv (.str s)), (3, .rs 8000 x.2.2.length), (4, .pv (.int .i64 x.2.1)), (5, .pv (.int .i64 x.1))], [(8000, .row 1 (x.2.2.map PV.str))]))
    (fun x => x.1 ≤ s.length ∧ x.2.1 ≤ x.1 ∧ x.2.2.length ≤ x.1 ∧ rwF s = x.2.2 ++ rwG (s.drop x.1) ((s.take x.1).drop x.2.1)) (fun x => s.length - x.1)
    ⟨(0, 0, []), ⟨Nat.zero_le _, Nat.le_refl _, Nat.zero_le _, rfl⟩, ⟨by simp [fitR, look, upd], by simp [fitH, hget, hset], rfl, rfl, rfl⟩⟩ ?_
  rintro ⟨i, b, acc⟩ ⟨g1, g2, g3, g4⟩
  simp only at g1 g2 g3 g4
  have hi1 : IntKind.i64.wrap ((i : Int) + 1) = ((i + 1 : Nat) : Int) := by rw [i64_in _ (by omega)]; omega
  have tk : (acc.map PV.str).take acc.length = acc.map PV.str := List.take_of_length_le (by simp)
  by_cases hlt : i < s.length
  · have c0 : decide ((i : Int) < (s.length : Int)) = true := by simp; omega
    have hd : s.drop i = s.getD i 0 :: s.drop (i + 1) := drop_getD hlt
    have htk : s.take (i + 1) = s.take i ++ [s.getD i 0] := by rw [List.take_add_one]; simp [List.getElem?_eq_getElem hlt, List.getD_eq_getElem?_getD]
    obtain ⟨c, hc⟩ : ∃ c, s.getD i 0 = c := ⟨_, rfl⟩
    rw [hc] at hd htk
    have k1 : ((c.toNat : Int) == 10) = (c == 10) := by
      rw [Bool.eq_iff_iff]; simp only [beq_iff_eq]
      exact ⟨fun h => UInt8.toNat_inj.1 (by simp; omega), fun h => by subst h; rfl⟩
    rw [hd, rwG] at g4
    simp only [c0, hi1, hc, k1, tk, indexA, Int.toNat_natCast, List.length_map, List.take_succ_cons, List.take_nil, Tryz.underlying1, sz1, by1, ze1, Tryz.underlying3, sz3, by3, ze3, Tryz.underlying4, sz4, by4, ze4, Tryz.underlying5, sz5, by5, ze5, Tryz.underlying9, sz9, by9, ze9, Tryz.underlying34, sz34, by34, ze34, plan0, go_sem, ↓reduceIte, reduceCtorEq, Nat.reduceEqDiff, Nat.reduceLT, ↓all_qV, Int.reduceToNat, Int.reduceLT, Int.reduceLE, Nat.reduceAdd, Nat.reduceLeDiff, Nat.reduceMul]
    refine ⟨⟨by omega, by omega⟩, fun h9 => ⟨⟨by omega, by omega, by omega⟩, rfl, fun e he => by rw [List.mem_singleton] at he; subst he; rfl, Nat.le_refl _, by omega, by simp only [maxLen]; omega,
      (i + 1, i + 1, acc ++ [(s.take i).drop b]), ⟨by simp only; omega, Nat.le_refl _, by simp only [List.length_append, List.length_cons, List.length_nil]; omega, ?_⟩, by simp only; omega, ⟨by simp [fitR, look], by simp [fitH, hget], rfl, rfl, rfl⟩⟩,
      fun h9 => ⟨(i + 1, b, acc), ⟨by simp only; omega, by simp only; omega, by simp only; omega, ?_⟩, by simp only; omega, ⟨by simp [fitR, look], by simp [fitH, hget], rfl, rfl, rfl⟩⟩⟩
    · have hc10 : c = 10 := by simpa using h9
      rw [if_pos hc10] at g4
      rw [g4]
      simp only [List.append_assoc, List.singleton_append]
      have e9 : (s.take (i + 1)).drop (i + 1) = [] := List.drop_eq_nil_of_le (by rw [List.length_take]; omega)
      rw [e9]
    · have hc10 : ¬ c = 10 := by simpa using h9
      rw [if_neg hc10] at g4
      rw [g4]
      simp only
      rw [htk, List.drop_append_of_le_length (by rw [List.length_take]; omega)]
  · have c0 : decide ((i : Int) < (s.length : Int)) = false := by simp; omega
    rw [List.drop_eq_nil_of_le (by omega), rwG, List.take_of_length_le (by omega)] at g4
    simp only [c0, tk, List.length_map, List.take_succ_cons, List.take_nil, Tryz.underlying1, sz1, by1, ze1, Tryz.underlying3, sz3, by3, ze3, Tryz.underlying4, sz4, by4, ze4, Tryz.underlying5, sz5, by5, ze5, Tryz.underlying9, sz9, by9, ze9, Tryz.underlying34, sz34, by34, ze34, plan0, go_sem, ↓reduceIte, reduceCtorEq, Nat.reduceEqDiff, Nat.reduceLT, ↓all_qV, Int.reduceToNat, Int.reduceLT, Int.reduceLE, Nat.reduceAdd, Nat.reduceLeDiff, Nat.reduceMul]
    rw [List.take_length]
    refine ⟨fun h9 => ⟨⟨by omega, by omega⟩, rfl, fun e he => by rw [List.mem_singleton] at he; subst he; rfl, Nat.le_refl _, by omega, by simp only [maxLen]; omega, by simp, ?_⟩, fun h9 => ⟨Nat.le_refl _, ?_⟩⟩
    · have : ¬ s.drop b = [] := by
        rw [List.drop_eq_nil_iff]; simp only [decide_eq_true_eq] at h9; omega
      rw [if_neg this] at g4
      rw [g4, List.take_of_length_le (by simp)]
      simp
    · have : s.drop b = [] := by
        rw [List.drop_eq_nil_iff]; simp only [decide_eq_false_iff_not] at h9; omega
      rw [if_pos this, List.append_nil] at g4
      rw [g4]
end Go.AM
namespace Go.AM
open Go Go.Proofs Go.IntWalk
set_option maxRecDepth 100000
set_option maxHeartbeats 1000000
set_option linter.unusedSimpArgs false
set_option linter.unusedVariables false
noncomputable def Y7 (g : FuncId) : PSpec := (putΦ Y6 63 rowsS) g
theorem hY7 : TabSound GG Y7 := (hY6.put w_rowsS)
def rpG : List PV → List (List UInt8) → List PV × Int × Int
  | acc, [] => bif (fstF acc).2 != 0 then ([], (fstF acc).1, (fstF acc).2) else (acc, 0, 0)
  | acc, x :: r => bif (Lib.cut x [32]).2.2 then rpG (acc ++ [hV (Lib.cut x [32]).1 (Lib.cut x [32]).2.1]) r else ([], (acc.length : Int) + 1, 4)
theorem rpG_eq : ∀ (r : List (List UInt8)) (acc : List PV), hpG acc r = rpG acc (r.map (fun x => Lib.trimSuffix x [10]))
  | [], acc => rfl
  | x :: r, acc => by
    rw [hpG_cons, List.map_cons, rpG, rpG_eq r]
theorem ixB_no : ∀ (s : List UInt8) (c : UInt8), c ∉ s → Lib.indexByte s c = -1
  | [], _, _ => rfl
  | x :: s, c, h => by
    rw [List.mem_cons, not_or] at h
    have ih := ixB_no s c h.2
    have hx : (x == c) = false := by simpa using fun e => h.1 e.symm
    rw [Lib.indexByte, hx, ih]
    rfl
theorem cut_no {s : List UInt8} {c : UInt8} (h : c ∉ s) : Lib.cut s [c] = (s, [], false) := by
  have h1 : Lib.index s [c] = -1 := by rw [Lib.index_one, ixB_no _ _ h]
  unfold Lib.cut
  rw [h1, if_neg (by omega)]
theorem row_of {s w : List UInt8} (h : w ∈ rwF s) : w.length ≤ s.length := by
  rw [← rw_lines s.length s (Nat.le_refl _)] at h
  obtain ⟨x, hx, rfl⟩ := List.mem_map.1 h
  have h1 := (linesOf_len s.length s (Nat.le_refl _)).2 x hx
  have h2 := trim_le x [10]
  omega
theorem rows_len (s : List UInt8) : (rwF s).length ≤ s.length := by
  rw [← rw_lines s.length s (Nat.le_refl _), List.length_map]
  exact (linesOf_len s.length s (Nat.le_refl _)).1
noncomputable def rprsS : PSpec := on_s (fun s => s.length ≤ 100000) (fun s => .tup [.sl (hpF s).1, .int .i64 (hpF s).2.1, .int .i64 (hpF s).2.2])
def planV : Plan := { keep := fun _ => none, cut := fun _ => false, stop := fun i => i == 12 }
theorem k_rprsS_51 {args : List PV} : Y7 51 args = rfstS args := rfl
theorem k_rprsS_63 {args : List PV} : Y7 63 args = rowsS args := rfl
theorem w_rprsS : PSound GG 37 rprsS := by
  refine PSound.of_wpc (C := cxQ Tryz.prog Y7 noΘ noΨ [] [] 62) (T := planV) Tryz.func37 rfl rfl rfl (Fit.all (G := GG) hY7 hnoΘ hnoΨ mixed) (fun args h => ?_)
  unfold rprsS at h
  obtain ⟨s, rfl, hl⟩ := on_s_inv h
  refine ⟨by simp [cxQ], ?_⟩
  have hrl := rows_len s
  simp only [rprsS, on_s_eq, Nat.reduceBEq, k_rprsS_51, rfstS, on_l_eq, k_rprsS_63, rowsS, on_s_eq, Tryz.f37, argL, Tryz.underlying1, sz1, by1, ze1, Tryz.underlying3, sz3, by3, ze3, Tryz.underlying4, sz4, by4, ze4, Tryz.underlying5, sz5, by5, ze5, Tryz.underlying9, sz9, by9, ze9, Tryz.underlying23, sz23, by23, ze23, Tryz.underlying34, sz34, by34, ze34, Tryz.underlying44, sz44, by44, ze44, Tryz.underlying52, sz52, by52, ze52, Tryz.underlying60, sz60, by60, ze60, fa60_0, fa60_1, planV, go_sem, ↓reduceIte, reduceCtorEq, Nat.reduceEqDiff, Nat.reduceLT, ↓all_qV, Int.reduceToNat, Int.reduceLT, Int.reduceLE, Nat.reduceAdd, Nat.reduceLeDiff, Nat.reduceMul, ev_callG, gcallK_b, gcallK_w, callGc_true, callGc_false]
  refine ⟨fun h1 => by unfold hpF; rw [h1]; rfl, fun h1 => ?_⟩
  have hprs : hpF s = rpG [] (rwF s) := by unfold hpF; rw [h1, cond_false, rpG_eq, rw_lines s.length s (Nat.le_refl _)]
  rw [hprs]
  obtain ⟨R, hR⟩ : ∃ R, rwF s = R := ⟨_, rfl⟩
  have hrm : ∀ w, w ∈ R → w.length ≤ 100000 := fun w hw => by rw [← hR] at hw; have := row_of hw; omega
  rw [hR] at hrl ⊢
  refine ⟨by omega, ?_⟩
  refine AWp.adoptS (s := 5) (κ := 8000) (k := 2) (by simp [look, upd]) rfl (by decide) ?_
  refine AWp.loop (T := planV) (α := Nat × List PV) (fun x => ([(5, .rs 8000 x.2.length), (15, .pv (.sl (R.map PV.str))), (16, .pv (.int .i64 R.length)), (17, .pv (.int .i64 x.1))], [(8000, .row 2 x.2)]))
    (fun x => x.1 ≤ R.length ∧ x.2.length = x.1 ∧ (∀ e, e ∈ x.2 → isHs e) ∧ rpG [] R = rpG x.2 (R.drop x.1)) (fun x => R.length - x.1)
    ⟨(0, []), ⟨Nat.zero_le _, rfl, fun e he => (by cases he), rfl⟩, ⟨by simp [fitR, look, upd], by simp [fitH, hget, hset], rfl, rfl, rfl⟩⟩ ?_
  rintro ⟨i, acc⟩ ⟨g1, g2, g3, g4⟩
  simp only at g1 g2 g3 g4
  have hi1 : IntKind.i64.wrap ((i : Int) + 1) = ((i + 1 : Nat) : Int) := by rw [i64_in _ (by omega)]; omega
  have tk : acc.take acc.length = acc := List.take_length
  by_cases hlt : i < R.length
  · have c0 : decide ((i : Int) < (R.length : Int)) = true := by simp; omega
    have hd : R.drop i = R.getD i [] :: R.drop (i + 1) := by rw [List.drop_eq_getElem_cons hlt]; simp [List.getD_eq_getElem?_getD, hlt]
    have hm : R.getD i [] ∈ R := by rw [List.getD_eq_getElem?_getD, List.getElem?_eq_getElem hlt]; exact List.getElem_mem _
    have hx := getD_strs hlt
    obtain ⟨w, hw⟩ : ∃ w, R.getD i [] = w := ⟨_, rfl⟩
    rw [hw] at hd hm hx
    have hwl := hrm w hm
    rw [hd, rpG] at g4
    simp only [c0, hi1, hx, tk, List.length_map, List.take_succ_cons, List.take_nil, Nat.reduceBEq, k_rprsS_51, rfstS, on_l_eq, k_rprsS_63, rowsS, on_s_eq, Tryz.underlying1, sz1, by1, ze1, Tryz.underlying3, sz3, by3, ze3, Tryz.underlying4, sz4, by4, ze4, Tryz.underlying5, sz5, by5, ze5, Tryz.underlying9, sz9, by9, ze9, Tryz.underlying23, sz23, by23, ze23, Tryz.underlying34, sz34, by34, ze34, Tryz.underlying44, sz44, by44, ze44, Tryz.underlying52, sz52, by52, ze52, Tryz.underlying60, sz60, by60, ze60, fa60_0, fa60_1, planV, go_sem, ↓reduceIte, reduceCtorEq, Nat.reduceEqDiff, Nat.reduceLT, ↓all_qV, Int.reduceToNat, Int.reduceLT, Int.reduceLE, Nat.reduceAdd, Nat.reduceLeDiff, Nat.reduceMul, ev_callG, gcallK_b, gcallK_w, callGc_true, callGc_false]
    refine ⟨⟨by omega, by omega⟩, ?_⟩
    refine AWp.loop (T := planV) (α := Nat) (fun k => ([(5, .rs 8000 acc.length), (6, .pv (.int .i64 i)), (7, .pv (.str w)), (8, .pv (.int .i64 k)), (15, .pv (.sl (R.map PV.str))), (16, .pv (.int .i64 R.length)), (17, .pv (.int .i64 i))], [(8000, .row 2 acc)]))
      (fun k => k ≤ w.length ∧ (32 : UInt8) ∉ w.take k) (fun k => w.length - k)
      ⟨0, ⟨Nat.zero_le _, by simp⟩, ⟨by simp [fitR, look], by simp [fitH, hget], rfl, rfl, rfl⟩⟩ ?_
    rintro k ⟨f1, f2⟩
    have hk1 : IntKind.i64.wrap ((k : Int) + 1) = ((k + 1 : Nat) : Int) := by rw [i64_in _ (by omega)]; omega
    by_cases hkt : k < w.length
    · have c1 : decide ((k : Int) < (w.length : Int)) = true := by simp; omega
      have hne : ((k : Int) == (w.length : Int)) = false := by simp; omega
      have htk : w.take (k + 1) = w.take k ++ [w.getD k 0] := by rw [List.take_add_one]; simp [List.getElem?_eq_getElem hkt, List.getD_eq_getElem?_getD]
      obtain ⟨c, hc⟩ : ∃ c, w.getD k 0 = c := ⟨_, rfl⟩
      rw [hc] at htk
      have k1 : ((c.toNat : Int) != 32) = !(c == 32) := by
        rw [Bool.eq_iff_iff]; simp only [bne_iff_ne, Bool.not_eq_true', beq_eq_false_iff_ne, ne_eq]
        exact not_congr ⟨fun h => UInt8.toNat_inj.1 (by simp; omega), fun h => by subst h; rfl⟩
      cases h10 : c == 32 with
      | false =>
        simp only [c1, hk1, hc, k1, h10, Bool.not_false, Bool.and_self, indexA, Int.toNat_natCast, Nat.reduceBEq, Tryz.underlying1, sz1, by1, ze1, Tryz.underlying3, sz3, by3, ze3, Tryz.underlying4, sz4, by4, ze4, Tryz.underlying5, sz5, by5, ze5, Tryz.underlying9, sz9, by9, ze9, Tryz.underlying23, sz23, by23, ze23, Tryz.underlying34, sz34, by34, ze34, Tryz.underlying44, sz44, by44, ze44, Tryz.underlying52, sz52, by52, ze52, Tryz.underlying60, sz60, by60, ze60, fa60_0, fa60_1, planV, go_sem, ↓reduceIte, reduceCtorEq, Nat.reduceEqDiff, Nat.reduceLT, ↓all_qV, Int.reduceToNat, Int.reduceLT, Int.reduceLE, Nat.reduceAdd, Nat.reduceLeDiff, Nat.reduceMul, ev_callG, gcallK_b, gcallK_w, callGc_true, callGc_false]
        refine ⟨⟨by omega, by omega⟩, k + 1, ⟨by omega, ?_⟩, by omega, ⟨by simp [fitR, look], by simp [fitH, hget], rfl, rfl, rfl⟩⟩
        rw [htk, List.mem_append, List.mem_singleton, not_or]
        exact ⟨f2, fun e => by rw [← e] at h10; simp at h10⟩
      | true =>
        have hcut : Lib.cut w [32] = (w.take k, w.drop (k + 1), true) := by
          have hdw : w.drop k = c :: w.drop (k + 1) := by rw [← hc]; exact drop_getD hkt
          have hc32 : c = 32 := by simpa using h10
          have h5 := cut_app (a := w.take k) (r := w.drop (k + 1)) (c := 32) f2
          rw [← hc32, ← hdw, List.take_append_drop] at h5
          rw [hc32] at h5; exact h5
        rw [hcut] at g4
        simp only [cond_true] at g4
        simp only [c1, hk1, hi1, hc, k1, h10, hne, Bool.not_true, Bool.and_false, indexA, Int.toNat_natCast, Nat.reduceBEq, Tryz.underlying1, sz1, by1, ze1, Tryz.underlying3, sz3, by3, ze3, Tryz.underlying4, sz4, by4, ze4, Tryz.underlying5, sz5, by5, ze5, Tryz.underlying9, sz9, by9, ze9, Tryz.underlying23, sz23, by23, ze23, Tryz.underlying34, sz34, by34, ze34, Tryz.underlying44, sz44, by44, ze44, Tryz.underlying52, sz52, by52, ze52, Tryz.underlying60, sz60, by60, ze60, fa60_0, fa60_1, planV, go_sem, ↓reduceIte, reduceCtorEq, Nat.reduceEqDiff, Nat.reduceLT, ↓all_qV, Int.reduceToNat, Int.reduceLT, Int.reduceLE, Nat.reduceAdd, Nat.reduceLeDiff, Nat.reduceMul, ev_callG, gcallK_b, gcallK_w, callGc_true, callGc_false]
        refine ⟨⟨by omega, by omega⟩, by kernel_rfl, ?_⟩
        have hal : (w.take k).length ≤ 100000 := by rw [List.length_take]; omega
        have hdl : (w.drop (k + 1)).length ≤ 100000 := by rw [List.length_drop]; omega
        rw [List.take_length]
        refine ⟨⟨by omega, by omega⟩, ⟨by omega, by omega⟩, rfl, fun e he => by rw [List.mem_singleton] at he; subst he; rfl, Nat.le_refl _, by omega, by simp only [maxLen]; omega,
          (i + 1, acc ++ [hV (w.take k) (w.drop (k + 1))]), ⟨by simp only; omega, by simp only [List.length_append, List.length_cons, List.length_nil]; omega, fun e he => ?_, g4⟩, by simp only; omega, ⟨by simp [fitR, look], by simp [fitH, hget, hV], rfl, rfl, rfl⟩⟩
        simp only [List.mem_append, List.mem_singleton] at he
        rcases he with he | he
        · exact g3 e he
        · exact ⟨_, _, he, hal, hdl⟩
    · have c1 : decide ((k : Int) < (w.length : Int)) = false := by simp; omega
      have heq : ((k : Int) == (w.length : Int)) = true := by simp; omega
      rw [List.take_of_length_le (by omega)] at f2
      rw [cut_no f2] at g4
      simp only [cond_false] at g4
      rw [g4]
      simp only [c1, hk1, hi1, heq, indexA, Int.toNat_natCast, Nat.reduceBEq, Tryz.underlying1, sz1, by1, ze1, Tryz.underlying3, sz3, by3, ze3, Tryz.underlying4, sz4, by4, ze4, Tryz.underlying5, sz5, by5, ze5, Tryz.underlying9, sz9, by9, ze9, Tryz.underlying23, sz23, by23, ze23, Tryz.underlying34, sz34, by34, ze34, Tryz.underlying44, sz44, by44, ze44, Tryz.underlying52, sz52, by52, ze52, Tryz.underlying60, sz60, by60, ze60, fa60_0, fa60_1, planV, go_sem, ↓reduceIte, reduceCtorEq, Nat.reduceEqDiff, Nat.reduceLT, ↓all_qV, Int.reduceToNat, Int.reduceLT, Int.reduceLE, Nat.reduceAdd, Nat.reduceLeDiff, Nat.reduceMul, ev_callG, gcallK_b, gcallK_w, callGc_true, callGc_false]
      rw [g2, show ((i + 1 : Nat) : Int) = (i : Int) + 1 by omega]
  · have c0 : decide ((i : Int) < (R.length : Int)) = false := by simp; omega
    rw [List.drop_eq_nil_of_le (by omega), rpG] at g4
    rw [g4]
    simp only [c0, tk, List.length_map, Nat.reduceBEq, k_rprsS_51, rfstS, on_l_eq, k_rprsS_63, rowsS, on_s_eq, Tryz.underlying1, sz1, by1, ze1, Tryz.underlying3, sz3, by3, ze3, Tryz.underlying4, sz4, by4, ze4, Tryz.underlying5, sz5, by5, ze5, Tryz.underlying9, sz9, by9, ze9, Tryz.underlying23, sz23, by23, ze23, Tryz.underlying34, sz34, by34, ze34, Tryz.underlying44, sz44, by44, ze44, Tryz.underlying52, sz52, by52, ze52, Tryz.underlying60, sz60, by60, ze60, fa60_0, fa60_1, planV, go_sem, ↓reduceIte, reduceCtorEq, Nat.reduceEqDiff, Nat.reduceLT, ↓all_qV, Int.reduceToNat, Int.reduceLT, Int.reduceLE, Nat.reduceAdd, Nat.reduceLeDiff, Nat.reduceMul, ev_callG, gcallK_b, gcallK_w, callGc_true, callGc_false]
    refine ⟨⟨Nat.le_refl _, fun e he => (g3 e he).isHn, by omega⟩, fun h9 => by rw [h9]; rfl, fun h9 => ⟨Nat.le_refl _, by rw [h9]; rfl⟩⟩
noncomputable def Y8 (g : FuncId) : PSpec := (putΦ (putΦ Y7 37 rprsS) 24 rtextS) g
theorem hY8 : TabSound GG Y8 := ((hY7.put w_rprsS).put w_rtextS)
end Go.AM
