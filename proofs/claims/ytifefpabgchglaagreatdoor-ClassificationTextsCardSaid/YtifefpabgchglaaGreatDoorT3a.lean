/-
  A part of a proof: see the last text of this claim for what is proved.
-/
import Derived.Test.YtifefpabgchglaaGreatDoorT3p
import Derived.Test.YtifefpabgchglaaGreatDoorNE
import Derived.Test.YtifefpabgchglaaGreatDoorZMa
/-! classification: Text -/
namespace Go.AM
open Go Go.Proofs Go.IntWalk
set_option maxRecDepth 100000
set_option maxHeartbeats 1000000
set_option linter.unusedSimpArgs false
set_option linter.unusedVariables false
noncomputable def Ta (g : FuncId) : PSpec := (putΦ (putΦ Φ36 33 cutQ) 34 tsQ) g
theorem hTa : TabSound GG Ta := ((hΦ36.put w_cutQ).put w_tsQ)
theorem Ta_valid {args : List PV} : Ta 16 args = validCS args := rfl
theorem Ta_first {args : List PV} : Ta 35 args = fstS args := rfl
theorem Ta_ch {args : List PV} : Ta 17 args = chS args := rfl
theorem Ta_awake {args : List PV} : Ta 12 args = awake3S args := rfl
def isHs (e : PV) : Prop := ∃ c n, e = hV c n ∧ c.length ≤ 100000 ∧ n.length ≤ 100000
theorem isHs.isHn {e : PV} (h : isHs e) : isHn e := by obtain ⟨c, n, e1, h1, h2⟩ := h; exact ⟨c, n, e1, by omega, by omega⟩
theorem txt_lenS : ∀ l : List PV, (∀ e, e ∈ l → isHs e) → (txtL l).length ≤ l.length * 200002
  | [], _ => by simp [txtL]
  | e :: r, h => by
    have ih := txt_lenS r (fun x hx => h x (List.mem_cons_of_mem _ hx))
    obtain ⟨c, n, rfl, h1, h2⟩ := h e List.mem_cons_self
    have : (hLine (hV c n)).length = c.length + (n.length + 1) := by show (c ++ 32 :: n).length = _; simp
    simp only [txtL, List.length_append, List.length_cons, Nat.add_mul]; omega
noncomputable def textS : PSpec := on_l (fun l => (∀ e, e ∈ l → isHs e) ∧ l.length ≤ 1000) (fun l => .str (bif (fstF l).2 != 0 then [63] else txtL l))
noncomputable def Ψb (g : FuncId) : Option ESpec := putΨ (putΨ noΨ 36 (psiWS 70 5)) 37 (psiSt 70 5) g
theorem hΨb : ETab GG Ψb := (hnoΨ.put w_wsS psiWS_mono).put w_bsS psiSt_mono
def planX : Plan := { keep := fun _ => none, cut := fun _ => false, stop := fun i => i == 3 }
theorem w_textS : PSound GG 14 textS := by
  refine PSound.of_wpc (C := cxQ Tryz.prog Ta noΘ Ψb [] [] 25) (T := planX) Tryz.func14 rfl rfl rfl (Fit.all (G := GG) hTa hnoΘ hΨb mixed) (fun args h => ?_)
  unfold textS at h
  obtain ⟨l, rfl, hl, hn⟩ := on_l_inv h
  refine ⟨by simp [cxQ], ?_⟩
  have hlt := txt_lenS l hl
  simp only [textS, on_l_eq, Ta_valid, validCS, Tryz.f14, argL, Tryz.underlying1, sz1, by1, ze1, Tryz.underlying3, sz3, by3, ze3, Tryz.underlying4, sz4, by4, ze4, Tryz.underlying5, sz5, by5, ze5, Tryz.underlying9, sz9, by9, ze9, Tryz.underlying25, sz25, by25, ze25, Tryz.underlying28, sz28, by28, ze28, fa28_0, fa28_1, Tryz.underlying36, sz36, by36, ze36, Tryz.underlying58, sz58, by58, ze58, Tryz.underlying67, sz67, by67, ze67, Tryz.underlying68, sz68, by68, ze68, Tryz.underlying70, sz70, by70, ze70, fa70_0, fa70_1, planX, go_sem, ↓reduceIte, reduceCtorEq, Nat.reduceEqDiff, Nat.reduceLT, ↓all_qV, Int.reduceToNat, Int.reduceLT, Int.reduceLE, Nat.reduceAdd, Nat.reduceLeDiff, Nat.reduceMul, ev_callG, gcallK_b, gcallK_w, callGc_true, callGc_false, List.forall_mem_cons, List.not_mem_nil, PV.one, AV.one]
  refine ⟨⟨fun e he => (hl e he).isHn, by omega⟩, fun h1 => by rw [h1]; rfl, fun h1 => ?_⟩
  rw [h1]
  simp only [cond_false]
  refine AWp.builder (T := plan0) (e := 5) rfl (by simp [hget]) (by simp [hget]) (by decide) ?_
  simp only [upd_look, Tryz.underlying1, sz1, by1, ze1, Tryz.underlying3, sz3, by3, ze3, Tryz.underlying4, sz4, by4, ze4, Tryz.underlying5, sz5, by5, ze5, Tryz.underlying9, sz9, by9, ze9, Tryz.underlying25, sz25, by25, ze25, Tryz.underlying28, sz28, by28, ze28, fa28_0, fa28_1, Tryz.underlying36, sz36, by36, ze36, Tryz.underlying58, sz58, by58, ze58, Tryz.underlying67, sz67, by67, ze67, Tryz.underlying68, sz68, by68, ze68, Tryz.underlying70, sz70, by70, ze70, fa70_0, fa70_1, plan0, go_sem, ↓reduceIte, reduceCtorEq, Nat.reduceEqDiff, Nat.reduceLT, ↓all_qV, Int.reduceToNat, Int.reduceLT, Int.reduceLE, Nat.reduceAdd, Nat.reduceLeDiff, Nat.reduceMul, ev_callG, gcallK_b, gcallK_w, callGc_true, callGc_false, List.forall_mem_cons, List.not_mem_nil, PV.one, AV.one]
  refine AWp.loop (T := plan0) (α := Nat × AV) (fun i => ([(3, .ptr 3 0), (9, .pv (.sl l)), (10, .pv (.int .i64 l.length)), (11, .pv (.int .i64 i.1))], [(3, .typed 70 [i.2, .bufh 1000003 (txtL (l.take i.1)).length]), (1000003, .buf 5 (txtL (l.take i.1)))]))
    (fun i => i.1 ≤ l.length ∧ (i.2 = .pv .nilP ∨ i.2 = .ptr 3 0)) (fun i => l.length - i.1)
    ⟨(0, .pv .nilP), ⟨Nat.zero_le _, .inl rfl⟩, ⟨by simp [fitR, look], by simp [fitH, hget, hset, txtL], rfl, rfl, rfl⟩⟩ ?_
  rintro ⟨i, ad⟩ ⟨g1, g2⟩
  simp only at g1 g2
  have hi1 : IntKind.i64.wrap ((i : Int) + 1) = ((i + 1 : Nat) : Int) := by rw [i64_in _ (by omega)]; omega
  have hfl := txt_lenS (l.take i) (fun x hx => hl x (List.mem_of_mem_take hx))
  rw [List.length_take] at hfl
  by_cases hlt : i < l.length
  · have c0 : decide ((i : Int) < (l.length : Int)) = true := by simp; omega
    have e1 : ∃ c n, l.getD i default = hV c n ∧ c.length ≤ 100000 ∧ n.length ≤ 100000 := hl _ (getD_mem hlt)
    have hst : txtL (l.take (i + 1)) = txtL (l.take i) ++ (hLine (l.getD i default) ++ [10]) := by rw [take_succ_getD hlt, txtL_app]; simp [txtL]
    obtain ⟨c, n, e1, hc, hnl⟩ := e1
    rw [e1] at hst
    have e1 : l.getD i default = .agg [.str c, .str n] := e1
    have hline : hLine (hV c n) ++ [10] = c ++ [32] ++ n ++ [10] := by show (c ++ 32 :: n) ++ [10] = _; simp
    rw [hline] at hst
    have hL : (c ++ [32] ++ n ++ [10]).length = c.length + 1 + n.length + 1 := by simp only [List.length_append, List.length_cons, List.length_nil]
    have hL2 : (c ++ [32] ++ n).length = c.length + 1 + n.length := by simp only [List.length_append, List.length_cons, List.length_nil]
    have hL3 : (c ++ [32]).length = c.length + 1 := by simp only [List.length_append, List.length_cons, List.length_nil]
    generalize txtL (l.take i) = acc at hfl hst ⊢
    rcases g2 with rfl | rfl
    · simp only [c0, e1, hi1, List.take_succ_cons, List.take_nil, Tryz.underlying1, sz1, by1, ze1, Tryz.underlying3, sz3, by3, ze3, Tryz.underlying4, sz4, by4, ze4, Tryz.underlying5, sz5, by5, ze5, Tryz.underlying9, sz9, by9, ze9, Tryz.underlying25, sz25, by25, ze25, Tryz.underlying28, sz28, by28, ze28, fa28_0, fa28_1, Tryz.underlying36, sz36, by36, ze36, Tryz.underlying58, sz58, by58, ze58, Tryz.underlying67, sz67, by67, ze67, Tryz.underlying68, sz68, by68, ze68, Tryz.underlying70, sz70, by70, ze70, fa70_0, fa70_1, plan0, Ψb, psiWS, psiSt, bldAddr, go_sem, ↓reduceIte, reduceCtorEq, Nat.reduceEqDiff, Nat.reduceLT, ↓all_qV, Int.reduceToNat, Int.reduceLT, Int.reduceLE, Nat.reduceAdd, Nat.reduceLeDiff, Nat.reduceMul, ev_callG, gcallK_b, gcallK_w, callGc_true, callGc_false, List.forall_mem_cons, List.not_mem_nil, PV.one, AV.one]
      refine ⟨⟨by omega, by omega⟩, by omega, by omega, by omega, by omega, (i + 1, .ptr 3 0), ⟨by simp only; omega, .inr rfl⟩, by simp only; omega, ⟨by simp [fitR, look], ?_, rfl, rfl, rfl⟩⟩
      simp only [hst]
      simp [fitH, hget]
    · simp only [c0, e1, hi1, List.take_succ_cons, List.take_nil, Tryz.underlying1, sz1, by1, ze1, Tryz.underlying3, sz3, by3, ze3, Tryz.underlying4, sz4, by4, ze4, Tryz.underlying5, sz5, by5, ze5, Tryz.underlying9, sz9, by9, ze9, Tryz.underlying25, sz25, by25, ze25, Tryz.underlying28, sz28, by28, ze28, fa28_0, fa28_1, Tryz.underlying36, sz36, by36, ze36, Tryz.underlying58, sz58, by58, ze58, Tryz.underlying67, sz67, by67, ze67, Tryz.underlying68, sz68, by68, ze68, Tryz.underlying70, sz70, by70, ze70, fa70_0, fa70_1, plan0, Ψb, psiWS, psiSt, bldAddr, go_sem, ↓reduceIte, reduceCtorEq, Nat.reduceEqDiff, Nat.reduceLT, ↓all_qV, Int.reduceToNat, Int.reduceLT, Int.reduceLE, Nat.reduceAdd, Nat.reduceLeDiff, Nat.reduceMul, ev_callG, gcallK_b, gcallK_w, callGc_true, callGc_false, List.forall_mem_cons, List.not_mem_nil, PV.one, AV.one]
      refine ⟨⟨by omega, by omega⟩, by omega, by omega, by omega, by omega, (i + 1, .ptr 3 0), ⟨by simp only; omega, .inr rfl⟩, by simp only; omega, ⟨by simp [fitR, look], ?_, rfl, rfl, rfl⟩⟩
      simp only [hst]
      simp [fitH, hget]
  · have c0 : decide ((i : Int) < (l.length : Int)) = false := by simp; omega
    rw [List.take_of_length_le (by omega)]
    rcases g2 with rfl | rfl
    · simp only [c0, Ψb, psiWS, psiSt, bldAddr, Tryz.underlying1, sz1, by1, ze1, Tryz.underlying3, sz3, by3, ze3, Tryz.underlying4, sz4, by4, ze4, Tryz.underlying5, sz5, by5, ze5, Tryz.underlying9, sz9, by9, ze9, Tryz.underlying25, sz25, by25, ze25, Tryz.underlying28, sz28, by28, ze28, fa28_0, fa28_1, Tryz.underlying36, sz36, by36, ze36, Tryz.underlying58, sz58, by58, ze58, Tryz.underlying67, sz67, by67, ze67, Tryz.underlying68, sz68, by68, ze68, Tryz.underlying70, sz70, by70, ze70, fa70_0, fa70_1, plan0, go_sem, ↓reduceIte, reduceCtorEq, Nat.reduceEqDiff, Nat.reduceLT, ↓all_qV, Int.reduceToNat, Int.reduceLT, Int.reduceLE, Nat.reduceAdd, Nat.reduceLeDiff, Nat.reduceMul, ev_callG, gcallK_b, gcallK_w, callGc_true, callGc_false, List.forall_mem_cons, List.not_mem_nil, PV.one, AV.one]
    · simp only [c0, Ψb, psiWS, psiSt, bldAddr, Tryz.underlying1, sz1, by1, ze1, Tryz.underlying3, sz3, by3, ze3, Tryz.underlying4, sz4, by4, ze4, Tryz.underlying5, sz5, by5, ze5, Tryz.underlying9, sz9, by9, ze9, Tryz.underlying25, sz25, by25, ze25, Tryz.underlying28, sz28, by28, ze28, fa28_0, fa28_1, Tryz.underlying36, sz36, by36, ze36, Tryz.underlying58, sz58, by58, ze58, Tryz.underlying67, sz67, by67, ze67, Tryz.underlying68, sz68, by68, ze68, Tryz.underlying70, sz70, by70, ze70, fa70_0, fa70_1, plan0, go_sem, ↓reduceIte, reduceCtorEq, Nat.reduceEqDiff, Nat.reduceLT, ↓all_qV, Int.reduceToNat, Int.reduceLT, Int.reduceLE, Nat.reduceAdd, Nat.reduceLeDiff, Nat.reduceMul, ev_callG, gcallK_b, gcallK_w, callGc_true, callGc_false, List.forall_mem_cons, List.not_mem_nil, PV.one, AV.one]
noncomputable def Tb (g : FuncId) : PSpec := (putΦ Ta 14 textS) g
theorem hTb : TabSound GG Tb := (hTa.put w_textS)
end Go.AM
