/-
  A part of a proof: see the last text of this claim for what is proved.
-/
import Derived.Test.YthdlbokgbkejnaaGreatDoorT3p
import Derived.Test.YthdlbokgbkejnaaGreatDoorNE
import Derived.Test.YthdlbokgbkejnaaGreatDoorZMa
namespace Go.AM
open Go Go.Proofs Go.IntWalk
set_option maxRecDepth 100000
set_option maxHeartbeats 1000000
set_option linter.unusedSimpArgs false
set_option linter.unusedVariables false
noncomputable def Ta (g : FuncId) : PSpec := (putΦ (putΦ Φ36 61 cutQ) 62 tsQ) g
theorem hTa : TabSound GG Ta := ((hΦ36.put w_cutQ).put w_tsQ)
theorem Ta_valid {args : List PV} : Ta 21 args = validCS args := rfl
def isHs (e : PV) : Prop := ∃ c n, e = hV c n ∧ c.length ≤ 100000 ∧ n.length ≤ 100000
theorem isHs.isHn {e : PV} (h : isHs e) : isHn e := by obtain ⟨c, n, e1, h1, h2⟩ := h; exact ⟨c, n, e1, by omega, by omega⟩
theorem txt_lenS : ∀ l : List PV, (∀ e, e ∈ l → isHs e) → (txtL l).length ≤ l.length * 200002
  | [], _ => by simp [txtL]
  | e :: r, h => by
    have ih := txt_lenS r (fun x hx => h x (List.mem_cons_of_mem _ hx))
    obtain ⟨c, n, rfl, h1, h2⟩ := h e List.mem_cons_self
    have : (hLine (hV c n)).length = c.length + (n.length + 1) := by show (c ++ 32 :: n).length = _; simp
    simp only [txtL, List.length_append, List.length_cons, Nat.add_mul]; omega
noncomputable def textS : PSpec := on_l (fun l => (∀ e, e ∈ l → isHs e) ∧ l.length ≤ 1000) (fun l => .str (bif (fstF l).2 != 0 then [63] else txtL l))
noncomputable def Ψb (g : FuncId) : Option ESpec := putΨ (putΨ noΨ 52 (psiWS 80 5)) 53 (psiSt 80 5) g
theorem hΨb : ETab GG Ψb := (hnoΨ.put w_wsS psiWS_mono).put w_bsS psiSt_mono
def planX : Plan := { keep := fun _ => none, cut := fun _ => false, stop := fun i => i == 3 }
theorem w_textS : PSound GG 23 textS := by
  refine PSound.of_wpc (C := cxQ Tryz.prog Ta noΘ Ψb [] [] 25) (T := planX) Tryz.func23 rfl rfl rfl (Fit.all (G := GG) hTa hnoΘ hΨb mixed) (fun args h => ?_)
  unfold textS at h
  obtain ⟨l, rfl, hl, hn⟩ := on_l_inv h
  refine ⟨by simp [cxQ], ?_⟩
  have hlt := txt_lenS l hl
  simp only [textS, on_l_eq, Ta_valid, validCS, Tryz.f23, argL, Tryz.underlying1, sz1, by1, ze1, Tryz.underlying3, sz3, by3, ze3, Tryz.underlying4, sz4, by4, ze4, Tryz.underlying5, sz5, by5, ze5, Tryz.underlying9, sz9, by9, ze9, Tryz.underlying23, sz23, by23, ze23, Tryz.underlying44, sz44, by44, ze44, Tryz.underlying60, sz60, by60, ze60, fa60_0, fa60_1, Tryz.underlying70, sz70, by70, ze70, Tryz.underlying77, sz77, by77, ze77, Tryz.underlying78, sz78, by78, ze78, Tryz.underlying80, sz80, by80, ze80, fa80_0, fa80_1, planX, go_sem, ↓reduceIte, reduceCtorEq, Nat.reduceEqDiff, Nat.reduceLT, ↓all_qV, Int.reduceToNat, Int.reduceLT, Int.reduceLE, Nat.reduceAdd, Nat.reduceLeDiff, Nat.reduceMul, ev_callG, gcallK_b, gcallK_w, callGc_true, callGc_false, List.forall_mem_cons, List.not_mem_nil, PV.one, AV.one]
  refine ⟨⟨fun e he => (hl e he).isHn, by omega⟩, fun h1 => by rw [h1]; rfl, fun h1 => ?_⟩
  rw [h1]
  simp only [cond_false]
  refine AWp.builder (T := plan0) (e := 5) rfl (by simp [hget]) (by simp [hget]) (by decide) ?_
  simp only [upd_look, Tryz.underlying1, sz1, by1, ze1, Tryz.underlying3, sz3, by3, ze3, Tryz.underlying4, sz4, by4, ze4, Tryz.underlying5, sz5, by5, ze5, Tryz.underlying9, sz9, by9, ze9, Tryz.underlying23, sz23, by23, ze23, Tryz.underlying44, sz44, by44, ze44, Tryz.underlying60, sz60, by60, ze60, fa60_0, fa60_1, Tryz.underlying70, sz70, by70, ze70, Tryz.underlying77, sz77, by77, ze77, Tryz.underlying78, sz78, by78, ze78, Tryz.underlying80, sz80, by80, ze80, fa80_0, fa80_1, plan0, go_sem, ↓reduceIte, reduceCtorEq, Nat.reduceEqDiff, Nat.reduceLT, ↓all_qV, Int.reduceToNat, Int.reduceLT, Int.reduceLE, Nat.reduceAdd, Nat.reduceLeDiff, Nat.reduceMul, ev_callG, gcallK_b, gcallK_w, callGc_true, callGc_false, List.forall_mem_cons, List.not_mem_nil, PV.one, AV.one]
  refine AWp.loop (T := plan0) (α := Nat × AV) (fun i => ([(3, .ptr 3 0), (9, .pv (.sl l)), (10, .pv (.int .i64 l.length)), (11, .pv (.int .i64 i.1))], [(3, .typed 80 [i.2, .bufh 1000003 (txtL (l.take i.1)).length]), (1000003, .buf 5 (txtL (l.take i.1)))]))
    (fun i => i.1 ≤ l.length ∧ (i.2 = .pv .nilP ∨ i.2 = .ptr 3 0)) (fun i => l.length - i.1)
    ⟨(0, .pv .nilP), ⟨Nat.zero_le _, .inl rfl⟩, ⟨by simp [fitR, look], by simp [fitH, hget, hset, txtL], rfl, rfl, rfl⟩⟩ ?_
  rintro ⟨i, ad⟩ ⟨g1, g2⟩
  simp only at g1 g2
  have hi1 : IntKind.i64.wrap ((i : Int) + 1) = ((i + 1 : Nat) : Int) := by rw [i64_in _ (by omega)]; omega
  have hfl := txt_lenS (l.take i) (fun x hx => hl x (List.mem_of_mem_take hx))
  rw [List.length_take] at hfl
  by_cases hlt : i < l.length
  · have c0 : decide ((i : Int) < (l.length : Int)) = true := by simp; omega
    have e1 : ∃ c n, l.getD i default = hV c n ∧ c.length ≤ 100000 ∧ n.length ≤ 100000 := hl _ (getD_mem hlt)
    have hst : txtL (l.take (i + 1)) = txtL (l.take i) ++ (hLine (l.getD i default) ++ [10]) := by rw [take_succ_getD hlt, txtL_app]; simp [txtL]
    obtain ⟨c, n, e1, hc, hnl⟩ := e1
    rw [e1] at hst
    have e1 : l.getD i default = .agg [.str c, .str n] := e1
    have hline : hLine (hV c n) ++ [10] = c ++ [32] ++ n ++ [10] := by show (c ++ 32 :: n) ++ [10] = _; simp
    rw [hline] at hst
    have hL : (c ++ [32] ++ n ++ [10]).length = c.length + 1 + n.length + 1 := by simp only [List.length_append, List.length_cons, List.length_nil]
    have hL2 : (c ++ [32] ++ n).length = c.length + 1 + n.length := by simp only [List.length_append, List.length_cons, List.length_nil]
    have hL3 : (c ++ [32]).length = c.length + 1 := by simp only [List.length_append, List.length_cons, List.length_nil]
    generalize txtL (l.take i) = acc at hfl hst ⊢
    rcases g2 with rfl | rfl
    · simp only [c0, e1, hi1, List.take_succ_cons, List.take_nil, Tryz.underlying1, sz1, by1, ze1, Tryz.underlying3, sz3, by3, ze3, Tryz.underlying4, sz4, by4, ze4, Tryz.underlying5, sz5, by5, ze5, Tryz.underlying9, sz9, by9, ze9, Tryz.underlying23, sz23, by23, ze23, Tryz.underlying44, sz44, by44, ze44, Tryz.underlying60, sz60, by60, ze60, fa60_0, fa60_1, Tryz.underlying70, sz70, by70, ze70, Tryz.underlying77, sz77, by77, ze77, Tryz.underlying78, sz78, by78, ze78, Tryz.underlying80, sz80, by80, ze80, fa80_0, fa80_1, plan0, Ψb, psiWS, psiSt, bldAddr, go_sem, ↓reduceIte, reduceCtorEq, Nat.reduceEqDiff, Nat.reduceLT, ↓all_qV, Int.reduceToNat, Int.reduceLT, Int.reduceLE, Nat.reduceAdd, Nat.reduceLeDiff, Nat.reduceMul, ev_callG, gcallK_b, gcallK_w, callGc_true, callGc_false, List.forall_mem_cons, List.not_mem_nil, PV.one, AV.one]
      refine ⟨⟨by omega, by omega⟩, by omega, by omega, by omega, by omega, (i + 1, .ptr 3 0), ⟨by simp only; omega, .inr rfl⟩, by simp only; omega, ⟨by simp [fitR, look], ?_, rfl, rfl, rfl⟩⟩
      simp only [hst]
      simp [fitH, hget]
    · simp only [c0, e1, hi1, List.take_succ_cons, List.take_nil, Tryz.underlying1, sz1, by1, ze1, Tryz.underlying3, sz3, by3, ze3, Tryz.underlying4, sz4, by4, ze4, Tryz.underlying5, sz5, by5, ze5, Tryz.underlying9, sz9, by9, ze9, Tryz.underlying23, sz23, by23, ze23, Tryz.underlying44, sz44, by44, ze44, Tryz.underlying60, sz60, by60, ze60, fa60_0, fa60_1, Tryz.underlying70, sz70, by70, ze70, Tryz.underlying77, sz77, by77, ze77, Tryz.underlying78, sz78, by78, ze78, Tryz.underlying80, sz80, by80, ze80, fa80_0, fa80_1, plan0, Ψb, psiWS, psiSt, bldAddr, go_sem, ↓reduceIte, reduceCtorEq, Nat.reduceEqDiff, Nat.reduceLT, ↓all_qV, Int.reduceToNat, Int.reduceLT, Int.reduceLE, Nat.reduceAdd, Nat.reduceLeDiff, Nat.reduceMul, ev_callG, gcallK_b, gcallK_w, callGc_true, callGc_false, List.forall_mem_cons, List.not_mem_nil, PV.one, AV.one]
      refine ⟨⟨by omega, by omega⟩, by omega, by omega, by omega, by omega, (i + 1, .ptr 3 0), ⟨by simp only; omega, .inr rfl⟩, by simp only; omega, ⟨by simp [fitR, look], ?_, rfl, rfl, rfl⟩⟩
      simp only [hst]
      simp [fitH, hget]
  · have c0 : decide ((i : Int) < (l.length : Int)) = false := by simp; omega
    rw [List.take_of_length_le (by omega)]
    rcases g2 with rfl | rfl
    · simp only [c0, Ψb, psiWS, psiSt, bldAddr, Tryz.underlying1, sz1, by1, ze1, Tryz.underlying3, sz3, by3, ze3, Tryz.underlying4, sz4, by4, ze4, Tryz.underlying5, sz5, by5, ze5, Tryz.underlying9, sz9, by9, ze9, Tryz.underlying23, sz23, by23, ze23, Tryz.underlying44, sz44, by44, ze44, Tryz.underlying60, sz60, by60, ze60, fa60_0, fa60_1, Tryz.underlying70, sz70, by70, ze70, Tryz.underlying77, sz77, by77, ze77, Tryz.underlying78, sz78, by78, ze78, Tryz.underlying80, sz80, by80, ze80, fa80_0, fa80_1, plan0, go_sem, ↓reduceIte, reduceCtorEq, Nat.reduceEqDiff, Nat.reduceLT, ↓all_qV, Int.reduceToNat, Int.reduceLT, Int.reduceLE, Nat.reduceAdd, Nat.reduceLeDiff, Nat.reduceMul, ev_callG, gcallK_b, gcallK_w, callGc_true, callGc_false, List.forall_mem_cons, List.not_mem_nil, PV.one, AV.one]
    · simp only [c0, Ψb, psiWS, psiSt, bldAddr, Tryz.underlying1, sz1, by1, ze1, Tryz.underlying3, sz3, by3, ze3, Tryz.underlying4, sz4, by4, ze4, Tryz.underlying5, sz5, by5, ze5, Tryz.underlying9, sz9, by9, ze9, Tryz.underlying23, sz23, by23, ze23, Tryz.underlying44, sz44, by44, ze44, Tryz.underlying60, sz60, by60, ze60, fa60_0, fa60_1, Tryz.underlying70, sz70, by70, ze70, Tryz.underlying77, sz77, by77, ze77, Tryz.underlying78, sz78, by78, ze78, Tryz.underlying80, sz80, by80, ze80, fa80_0, fa80_1, plan0, go_sem, ↓reduceIte, reduceCtorEq, Nat.reduceEqDiff, Nat.reduceLT, ↓all_qV, Int.reduceToNat, Int.reduceLT, Int.reduceLE, Nat.reduceAdd, Nat.reduceLeDiff, Nat.reduceMul, ev_callG, gcallK_b, gcallK_w, callGc_true, callGc_false, List.forall_mem_cons, List.not_mem_nil, PV.one, AV.one]
noncomputable def Tb (g : FuncId) : PSpec := (putΦ Ta 23 textS) g
theorem hTb : TabSound GG Tb := (hTa.put w_textS)
end Go.AM
namespace Go.AM
open Go Go.Proofs Go.IntWalk
set_option maxRecDepth 100000
set_option maxHeartbeats 4000000
set_option linter.unusedSimpArgs false
set_option linter.unusedVariables false
noncomputable def parseCS : PSpec := on_s (fun s => s.length ≤ 100000) (fun s => .tup [.sl (hpF s).1, .int .i64 (hpF s).2.1, .int .i64 (hpF s).2.2])
noncomputable def Ψp (g : FuncId) : Option ESpec := putΨ noΨ 60 (psiLn 78) g
theorem hΨp : ETab GG Ψp := hnoΨ.put w_linesS psiLn_mono
theorem k_cut {s p : List UInt8} : Tb 61 [.str s, .str p] = (s.length < 4294967281, .tup [.str (Lib.cut s p).1, .str (Lib.cut s p).2.1, .bool (Lib.cut s p).2.2]) := rfl
theorem k_ts {s p : List UInt8} : Tb 62 [.str s, .str p] = (s.length ≤ 9223372036854775807, .str (Lib.trimSuffix s p)) := rfl
theorem Tb_first {args : List PV} : Tb 50 args = fstS args := rfl
def planP : Plan := { keep := fun _ => none, cut := fun _ => false, stop := fun i => i == 10 }
theorem parse_at {ρ : Nat → AV} (h2 : ρ 2 = .ptr 2 0) (h3 : ρ 3 = .ptr 3 0) (h4 : ρ 4 = .ptr 4 0) (h6 : ρ 6 = .ptr 6 0) : AtI [(2, 2), (3, 3), (4, 4), (6, 6)] ρ := by
  intro p hp
  simp only [List.mem_cons, List.mem_nil_iff, or_false] at hp
  rcases hp with rfl | rfl | rfl | rfl <;> assumption
theorem w_parseCS : PSound GG 36 parseCS := by
  refine psound_wpcX (C := { cxQ Tryz.prog Tb noΘ Ψp [] [] 47 with outer := true }) (T := plan0) Tryz.func36 rfl rfl rfl ?_ (fun args h => ?_)
  · exact ⟨⟨⟨rfl, hTb, (fun f ψ hf => (hΨp f ψ hf).1), (fun κ hκ => by cases hκ)⟩, hnoΘ⟩, (fun f ψ hf => (hΨp f ψ hf).2), mixed⟩
  unfold parseCS at h
  obtain ⟨s, rfl, hs⟩ := on_s_inv h
  refine ⟨by simp [cxQ], ?_⟩
  simp only [parseCS, on_s_eq, loadC_eq, Ψp, psiLn, Tryz.f36, argL, Tryz.underlying1, sz1, by1, ze1, Tryz.underlying2, sz2, by2, ze2, Tryz.underlying3, sz3, by3, ze3, Tryz.underlying4, sz4, by4, ze4, Tryz.underlying9, sz9, by9, ze9, Tryz.underlying23, sz23, by23, ze23, Tryz.underlying44, sz44, by44, ze44, Tryz.underlying52, sz52, by52, ze52, Tryz.underlying60, sz60, by60, ze60, fa60_0, fa60_1, Tryz.underlying66, sz66, by66, ze66, Tryz.underlying89, sz89, by89, ze89, plan0, go_sem, ↓reduceIte, reduceCtorEq, Nat.reduceEqDiff, Nat.reduceLT, ↓all_qV, Int.reduceToNat, Int.reduceLT, Int.reduceLE, Nat.reduceAdd, Nat.reduceLeDiff, Nat.reduceMul, ev_callG, gcallK_b, gcallK_w, callGc_true, callGc_false, List.forall_mem_cons, List.not_mem_nil, PV.one, AV.one]
  refine ⟨fun h1 => ?_, fun h1 => ?_⟩
  · have : hpF s = ([], 0, 3) := by unfold hpF; rw [h1]; rfl
    rw [this]
  · have hprs : hpF s = hpG [] (linesOf s) := by unfold hpF; rw [h1]; rfl
    rw [hprs]
    refine AWp.adoptC (b := 5) (i := 0) (κ := 8000) (k := 2) (cs := [.nils]) (by simp [hget]) rfl (by simp [hget]) (by decide) ?_
    obtain ⟨ln1, ln2⟩ := linesOf_len s.length s (Nat.le_refl _)
    refine AWp.range (α := List PV) (T := planP) 78 [.ptr 17 0] [17] (linesOf s) [(2, .ptr 2 0), (3, .ptr 3 0), (4, .ptr 4 0), (5, .ptr 5 0), (6, .ptr 6 0)] [2, 3, 4, 5, 6]
      (fun acc => [(2, .cells [.nils]), (3, .cells [.pv (.int .i64 0)]), (4, .cells [.pv (.int .i64 0)]), (5, .cells [.rs 8000 acc.length]), (6, .cells [.pv (.int .i64 acc.length)]), (8000, .row 2 acc)])
      (fun i acc => hpG [] (linesOf s) = hpG acc ((linesOf s).drop i) ∧ acc.length ≤ i ∧ i ≤ (linesOf s).length ∧ ∀ e, e ∈ acc → isHs e) [2, 3, 4, 5, 6, 7] [] rfl (by decide) (by decide) (by simp [opndV, look])
      (lines_A (by omega) (by simp [hget, hset])) ?_ ?_ rfl ⟨by simp, Nat.le_refl _, Nat.zero_le _, fun e he => by cases he⟩ ?_ (fun i x h => rfl) ?_ ?_
    · intro κ hκ
      simp only [List.mem_singleton] at hκ
      subst hκ; rfl
    · simp [fitR, look]
    · simp [fitH, hget, hset]
    · rintro i acc x hx ⟨g1, g2, g3, g4⟩
      have hilt := (List.getElem?_eq_some_iff.1 hx).1
      have hxl := ln2 x (List.mem_of_getElem? hx)
      have htl := trim_le x [10]
      have hd : (linesOf s).drop i = x :: (linesOf s).drop (i + 1) := by
        rw [List.drop_eq_getElem_cons hilt]
        rw [List.getElem?_eq_getElem hilt] at hx
        rw [Option.some.inj hx]
      have hcl := cut_le (Lib.trimSuffix x [10]) [32]
      rw [hd, hpG_cons] at g1
      generalize hcv : Lib.cut (Lib.trimSuffix x [10]) [32] = cv at g1 hcl
      obtain ⟨c, n, ok⟩ := cv
      simp only at g1 hcl
      have hal : acc.length ≤ 1000000 := by omega
      have hw1 : IntKind.i64.wrap ((acc.length : Int) + 1) = (acc.length : Int) + 1 := i64_in _ (by omega)
      have tk : acc.take acc.length = acc := List.take_length
      simp only [inR, AX.thn, nqH, ABlk.nq, AV.nq, AV.nqL, Bool.and_true, k_ts, k_cut, hcv, hw1, tk, loadC_eq, Ψp, roundQ, varsB, ABlk.isVar, List.all_cons, List.all_nil, List.append_nil, List.nil_append, Bool.false_eq_true, false_implies, implies_true, List.take_succ_cons, List.take_nil, Tryz.underlying1, sz1, by1, ze1, Tryz.underlying2, sz2, by2, ze2, Tryz.underlying3, sz3, by3, ze3, Tryz.underlying4, sz4, by4, ze4, Tryz.underlying9, sz9, by9, ze9, Tryz.underlying23, sz23, by23, ze23, Tryz.underlying44, sz44, by44, ze44, Tryz.underlying52, sz52, by52, ze52, Tryz.underlying60, sz60, by60, ze60, fa60_0, fa60_1, Tryz.underlying66, sz66, by66, ze66, Tryz.underlying89, sz89, by89, ze89, planP, go_sem, ↓reduceIte, reduceCtorEq, Nat.reduceEqDiff, Nat.reduceLT, ↓all_qV, Int.reduceToNat, Int.reduceLT, Int.reduceLE, Nat.reduceAdd, Nat.reduceLeDiff, Nat.reduceMul, ev_callG, gcallK_b, gcallK_w, callGc_true, callGc_false, List.forall_mem_cons, List.not_mem_nil, PV.one, AV.one]
      refine ⟨by omega, by omega, fun h9 => ?_, fun h9 => ?_⟩
      · have hok : ok = false := by simpa using h9
        subst hok
        simp only [cond_false] at g1
        refine AWp.orders (T := planP) [(2, 2), (3, 3), (4, 4), (6, 6)] (by kernel_rfl) (parse_at rfl rfl rfl rfl) ?_
        rw [g1]
        simp only [inR, AX.thn, nqH, ABlk.nq, AV.nq, AV.nqL, Bool.and_true, hw1, loadC_eq, List.length_map, Ψp, roundQ, varsB, ABlk.isVar, List.all_cons, List.all_nil, cond_true, Tryz.underlying1, sz1, by1, ze1, Tryz.underlying2, sz2, by2, ze2, Tryz.underlying3, sz3, by3, ze3, Tryz.underlying4, sz4, by4, ze4, Tryz.underlying9, sz9, by9, ze9, Tryz.underlying23, sz23, by23, ze23, Tryz.underlying44, sz44, by44, ze44, Tryz.underlying52, sz52, by52, ze52, Tryz.underlying60, sz60, by60, ze60, fa60_0, fa60_1, Tryz.underlying66, sz66, by66, ze66, Tryz.underlying89, sz89, by89, ze89, planP, go_sem, ↓reduceIte, reduceCtorEq, Nat.reduceEqDiff, Nat.reduceLT, ↓all_qV, Int.reduceToNat, Int.reduceLT, Int.reduceLE, Nat.reduceAdd, Nat.reduceLeDiff, Nat.reduceMul, ev_callG, gcallK_b, gcallK_w, callGc_true, callGc_false, List.forall_mem_cons, List.not_mem_nil, PV.one, AV.one]
      · have hok : ok = true := by simpa using h9
        subst hok
        simp only [cond_true] at g1
        have hh : hV c n = .agg [.str c, .str n] := rfl
        refine ⟨rfl, Nat.le_refl _, by omega, by simp only [maxLen]; omega, acc ++ [hV c n], ⟨g1, by simp; omega, by omega, fun e he => ?_⟩, ?_⟩
        · rcases List.mem_append.1 he with he | he
          · exact g4 e he
          · rw [List.mem_singleton] at he; exact ⟨c, n, he, by omega, by omega⟩
        · simp [fitH, hget, hh]
    · rintro acc ⟨g1, g2, g3, g4⟩
      rw [List.drop_length, hpG] at g1
      rw [g1]
      simp only [AX.thn, Ψp, loadC_eq, Tb_first, fstS, on_l_eq, Tryz.underlying1, sz1, by1, ze1, Tryz.underlying2, sz2, by2, ze2, Tryz.underlying3, sz3, by3, ze3, Tryz.underlying4, sz4, by4, ze4, Tryz.underlying9, sz9, by9, ze9, Tryz.underlying23, sz23, by23, ze23, Tryz.underlying44, sz44, by44, ze44, Tryz.underlying52, sz52, by52, ze52, Tryz.underlying60, sz60, by60, ze60, fa60_0, fa60_1, Tryz.underlying66, sz66, by66, ze66, Tryz.underlying89, sz89, by89, ze89, plan0, go_sem, ↓reduceIte, reduceCtorEq, Nat.reduceEqDiff, Nat.reduceLT, ↓all_qV, Int.reduceToNat, Int.reduceLT, Int.reduceLE, Nat.reduceAdd, Nat.reduceLeDiff, Nat.reduceMul, ev_callG, gcallK_b, gcallK_w, callGc_true, callGc_false, List.forall_mem_cons, List.not_mem_nil, PV.one, AV.one]
      rw [List.take_length]
      refine ⟨⟨Nat.le_refl _, fun e he => (g4 e he).isHn, by omega⟩, fun h9 => by rw [h9]; rfl, fun h9 => ⟨Nat.le_refl _, by rw [h9]; rfl⟩⟩
noncomputable def Tc (g : FuncId) : PSpec := (putΦ Tb 36 parseCS) g
theorem hTc : TabSound GG Tc := (hTb.put w_parseCS)
end Go.AM
namespace Go.AM
open Go Go.Proofs Go.IntWalk
set_option maxRecDepth 100000
set_option maxHeartbeats 1000000
set_option linter.unusedSimpArgs false
set_option linter.unusedVariables false
def sameB : List PV → List PV → Bool
  | [], [] => true
  | e :: r, f :: s => (hCode e == hCode f && hName e == hName f) && sameB r s
  | _, _ => false
theorem sameB_len : ∀ {a b : List PV}, a.length ≠ b.length → sameB a b = false
  | [], [], h => absurd rfl h
  | [], _ :: _, _ => rfl
  | _ :: _, [], _ => rfl
  | e :: r, f :: s, h => by rw [sameB, sameB_len (a := r) (b := s) (by simpa using h), Bool.and_false]
theorem sameB_iff : ∀ {a b : List PV}, (∀ e, e ∈ a → isHs e) → (∀ e, e ∈ b → isHs e) → (sameB a b = true ↔ a = b)
  | [], [], _, _ => by simp [sameB]
  | [], _ :: _, _, _ => by simp [sameB]
  | _ :: _, [], _, _ => by simp [sameB]
  | e :: r, f :: s, h1, h2 => by
    have ih := sameB_iff (a := r) (b := s) (fun x hx => h1 x (List.mem_cons_of_mem _ hx)) (fun x hx => h2 x (List.mem_cons_of_mem _ hx))
    obtain ⟨c, n, rfl, _⟩ := h1 e List.mem_cons_self
    obtain ⟨c', n', rfl, _⟩ := h2 f List.mem_cons_self
    rw [sameB, Bool.and_eq_true, ih]
    show ((c == c' && n == n') = true ∧ r = s) ↔ _
    simp [hV]
noncomputable def sameHS : PSpec := on_ll (fun a b => (∀ e, e ∈ a → isHs e) ∧ (∀ e, e ∈ b → isHs e) ∧ a.length ≤ 1000 ∧ b.length ≤ 1000) (fun a b => .bool (sameB a b))
theorem w_sameHS : PSound GG 38 sameHS := by
  refine PSound.of_wpc (C := cxP Tryz.prog Tc [] 26) (T := plan0) Tryz.func38 rfl rfl rfl (Fit.pure (G := GG) hTc mixed) (fun args h => ?_)
  unfold sameHS at h
  obtain ⟨a, b, rfl, hp⟩ := on_ll_inv h
  refine ⟨by simp [cxP], ?_⟩
  simp only [sameHS, on_ll_eq, Tryz.f38, argL, plan0]
  obtain ⟨ha, hb, hna, hnb⟩ := hp
  simp only [Tryz.underlying3, sz3, by3, ze3, Tryz.underlying4, sz4, by4, ze4, Tryz.underlying9, sz9, by9, ze9, Tryz.underlying23, sz23, by23, ze23, Tryz.underlying60, sz60, by60, ze60, fa60_0, fa60_1, go_sem, ↓reduceIte, reduceCtorEq, Nat.reduceEqDiff, Nat.reduceLT, ↓all_qV, Int.reduceToNat, Int.reduceLT, Int.reduceLE, Nat.reduceAdd, Nat.reduceLeDiff, Nat.reduceMul]
  refine ⟨fun h1 => ?_, fun h1 => ?_⟩
  · have : a.length ≠ b.length := by
      intro e; rw [e] at h1; simp at h1
    rw [sameB_len this]
  · have hab : a.length = b.length := by
      have := h1
      simp at this
      omega
    refine AWp.loop (T := plan0) (α := Nat) (fun i => ([(0, .pv (.sl a)), (1, .pv (.sl b)), (12, .pv (.int .i64 a.length)), (13, .pv (.int .i64 i))], []))
      (fun i => i ≤ a.length ∧ sameB a b = sameB (a.drop i) (b.drop i)) (fun i => a.length - i)
      ⟨0, ⟨Nat.zero_le _, rfl⟩, ⟨by simp [fitR, look], trivial, rfl, rfl, rfl⟩⟩ ?_
    rintro i ⟨g1, g2⟩
    have hi1 : IntKind.i64.wrap ((i : Int) + 1) = ((i + 1 : Nat) : Int) := by rw [i64_in _ (by omega)]; omega
    by_cases hlt : i < a.length
    · have c0 : decide ((i : Int) < (a.length : Int)) = true := by simp; omega
      have hda : a.drop i = a.getD i default :: a.drop (i + 1) := by rw [List.drop_eq_getElem_cons hlt]; simp [List.getD_eq_getElem?_getD, hlt]
      have hdb : b.drop i = b.getD i default :: b.drop (i + 1) := by rw [List.drop_eq_getElem_cons (by omega)]; simp [List.getD_eq_getElem?_getD, (show i < b.length by omega)]
      obtain ⟨c, n, e1, _⟩ := ha _ (getD_mem hlt)
      obtain ⟨c', n', e2, _⟩ := hb _ (getD_mem (show i < b.length by omega))
      rw [hda, hdb, e1, e2, sameB] at g2
      have g2 : sameB a b = ((c == c' && n == n') && sameB (a.drop (i + 1)) (b.drop (i + 1))) := g2
      have e1 : a.getD i default = .agg [.str c, .str n] := e1
      have e2 : b.getD i default = .agg [.str c', .str n'] := e2
      simp only [c0, e1, e2, hi1, List.take_succ_cons, List.take_nil, Tryz.underlying3, sz3, by3, ze3, Tryz.underlying4, sz4, by4, ze4, Tryz.underlying9, sz9, by9, ze9, Tryz.underlying23, sz23, by23, ze23, Tryz.underlying60, sz60, by60, ze60, fa60_0, fa60_1, plan0, go_sem, ↓reduceIte, reduceCtorEq, Nat.reduceEqDiff, Nat.reduceLT, ↓all_qV, Int.reduceToNat, Int.reduceLT, Int.reduceLE, Nat.reduceAdd, Nat.reduceLeDiff, Nat.reduceMul, ev_callG, gcallK_b, gcallK_w, callGc_true, callGc_false]
      have hkq : keyEqL [PV.str c, PV.str n] [PV.str c', PV.str n'] = (c == c' && n == n') := by simp [keyEqL, keyEq1]
      refine ⟨by kernel_rfl, ⟨by omega, by omega⟩, ⟨by omega, by omega⟩, ⟨by kernel_rfl, by kernel_rfl⟩, fun h9 => ?_, fun h9 => ⟨i + 1, ⟨by omega, ?_⟩, by omega, ⟨by simp [fitR, look], trivial, rfl, rfl, rfl⟩⟩⟩
      · have h9 : keyEqL [PV.str c, PV.str n] [PV.str c', PV.str n'] = false := by simpa using h9
        rw [hkq] at h9
        rw [g2, h9]; rfl
      · have h9 : keyEqL [PV.str c, PV.str n] [PV.str c', PV.str n'] = true := by simpa using h9
        rw [hkq] at h9
        rw [g2, h9]; rfl
    · have c0 : decide ((i : Int) < (a.length : Int)) = false := by simp; omega
      rw [List.drop_eq_nil_of_le (by omega), List.drop_eq_nil_of_le (by omega)] at g2
      simp only [c0, Tryz.underlying3, sz3, by3, ze3, Tryz.underlying4, sz4, by4, ze4, Tryz.underlying9, sz9, by9, ze9, Tryz.underlying23, sz23, by23, ze23, Tryz.underlying60, sz60, by60, ze60, fa60_0, fa60_1, plan0, go_sem, ↓reduceIte, reduceCtorEq, Nat.reduceEqDiff, Nat.reduceLT, ↓all_qV, Int.reduceToNat, Int.reduceLT, Int.reduceLE, Nat.reduceAdd, Nat.reduceLeDiff, Nat.reduceMul]
      rw [g2]; rfl
noncomputable def Td (g : FuncId) : PSpec := (putΦ Tc 38 sameHS) g
theorem hTd : TabSound GG Td := (hTc.put w_sameHS)
end Go.AM
