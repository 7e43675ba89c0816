/-
  A part of a proof: see the last text of this claim for what is proved.
-/
import Derived.Test.YthdlbokgbkejnaaGreatDoorA2
import Derived.Test.YthdlbokgbkejnaaGreatDoorZMa
namespace Go.AM
open Go Go.Proofs Go.IntWalk
set_option maxRecDepth 100000
set_option maxHeartbeats 1000000
set_option linter.unusedSimpArgs false
set_option linter.unusedVariables false
noncomputable def Y0 (g : FuncId) : PSpec := (putΦ (putΦ (putΦ (putΦ X5 47 goodS) 57 parentS) 16 underS) 14 compareS) g
theorem hY0 : TabSound GG Y0 := ((((hX5.put w_goodS).put w_parentS).put w_underS).put w_compareS)
noncomputable def rnameS : PSpec := on_s (fun s => s.length ≤ 4611686018427387904) (fun s => .bool (nmF s))
theorem w_rnameS : PSound GG 72 rnameS := by
  refine PSound.of_wpc (C := cxP Tryz.prog Y0 [] 41) (T := plan0) Tryz.func72 rfl rfl rfl (Fit.pure (G := GG) hY0 mixed) (fun args h => ?_)
  unfold rnameS at h
  obtain ⟨s, rfl, hp⟩ := on_s_inv h
  refine ⟨by simp [cxP], ?_⟩
  simp only [rnameS, on_s_eq, Tryz.f72, argL, plan0]
  rw [nmF_eq]
  have w1 : IntKind.i64.wrap ((s.length : Int) - 1) = (s.length : Int) - 1 := i64_in _ (by omega)
  have w2 : ((s.length : Int) - 1).toNat = s.length - 1 := by omega
  simp only [w1, w2, indexA, List.take_succ_cons, List.take_nil, true_and, Tryz.underlying3, sz3, by3, ze3, Tryz.underlying4, sz4, by4, ze4, Tryz.underlying5, sz5, by5, ze5, Tryz.underlying9, sz9, by9, ze9, go_sem, ↓reduceIte, reduceCtorEq, Nat.reduceEqDiff, Nat.reduceLT, ↓all_qV, Int.reduceToNat, Int.reduceLT, Int.reduceLE, Nat.reduceAdd, Nat.reduceLeDiff, Nat.reduceMul, ev_callG, gcallK_b, gcallK_w, callGc_true, callGc_false, List.forall_mem_cons, List.not_mem_nil, PV.one, AV.one]
  generalize hC : (decide ((s.length : Int) < 1) || decide (40 < (s.length : Int)) || ((s.getD 0 0).toNat : Int) == 32 || ((s.getD (s.length - 1) 0).toNat : Int) == 32) = C
  refine ⟨fun h => ?_, fun h => ?_, fun h => ?_, fun h => ?_⟩
  · simp only [Bool.not_eq_true', Bool.or_eq_false_iff, decide_eq_false_iff_not] at h; omega
  · simp only [Bool.not_eq_true', Bool.or_eq_false_iff, decide_eq_false_iff_not] at h; omega
  · rw [h]; rfl
  rw [h, Bool.not_false, Bool.true_and]
  refine AWp.loop (T := plan0) (α := Nat) (fun i => ([(0, .pv (.str s)), (3, .pv (.int .i64 i))], [])) (fun i => i ≤ s.length ∧ (s.take i).all nmB = true) (fun i => s.length - i)
    ⟨0, ⟨Nat.zero_le _, rfl⟩, ⟨by simp [fitR, look], trivial, rfl, rfl, rfl⟩⟩ ?_
  rintro i ⟨h1, h2⟩
  have hi1 : IntKind.i64.wrap ((i : Int) + 1) = ((i + 1 : Nat) : Int) := by rw [i64_in _ (by omega)]; omega
  by_cases hlt : i < s.length
  · have c0 : decide ((i : Int) < (s.length : Int)) = true := by simp; omega
    have htk : s.take (i + 1) = s.take i ++ [s.getD i 0] := by rw [List.take_add_one]; simp [List.getElem?_eq_getElem hlt, List.getD_eq_getElem?_getD]
    have hm : s.getD i 0 ∈ s := by rw [List.getD_eq_getElem?_getD, List.getElem?_eq_getElem hlt]; exact List.getElem_mem _
    simp only [c0, hi1, indexA, Int.toNat_natCast, Tryz.underlying3, sz3, by3, ze3, Tryz.underlying4, sz4, by4, ze4, Tryz.underlying5, sz5, by5, ze5, Tryz.underlying9, sz9, by9, ze9, plan0, go_sem, ↓reduceIte, reduceCtorEq, Nat.reduceEqDiff, Nat.reduceLT, ↓all_qV, Int.reduceToNat, Int.reduceLT, Int.reduceLE, Nat.reduceAdd, Nat.reduceLeDiff, Nat.reduceMul, ev_callG, gcallK_b, gcallK_w, callGc_true, callGc_false, List.forall_mem_cons, List.not_mem_nil, PV.one, AV.one]
    generalize s.getD i 0 = b at htk hm ⊢
    have hb : nmB b = !(decide ((b.toNat : Int) < 32) || decide ((126 : Int) < (b.toNat : Int))) := rfl
    refine ⟨⟨by omega, by omega⟩, fun _ => ⟨by omega, by omega⟩, fun h9 => ?_, fun h9 => ⟨i + 1, ⟨by omega, ?_⟩, by omega, ⟨by simp [fitR, look], trivial, rfl, rfl, rfl⟩⟩⟩
    · have : s.all nmB = false := List.all_eq_false.2 ⟨b, hm, by rw [hb, h9]; simp⟩
      rw [this]
    · rw [htk, List.all_append, h2, List.all_cons, hb, h9]; rfl
  · have c0 : decide ((i : Int) < (s.length : Int)) = false := by simp; omega
    rw [List.take_of_length_le (by omega)] at h2
    simp only [c0, Tryz.underlying3, sz3, by3, ze3, Tryz.underlying4, sz4, by4, ze4, Tryz.underlying5, sz5, by5, ze5, Tryz.underlying9, sz9, by9, ze9, plan0, go_sem, ↓reduceIte, reduceCtorEq, Nat.reduceEqDiff, Nat.reduceLT, ↓all_qV, Int.reduceToNat, Int.reduceLT, Int.reduceLE, Nat.reduceAdd, Nat.reduceLeDiff, Nat.reduceMul, ev_callG, gcallK_b, gcallK_w, callGc_true, callGc_false, List.forall_mem_cons, List.not_mem_nil, PV.one, AV.one]
    rw [h2]
noncomputable def rhasS : PSpec := on_ls (fun es _ => (∀ e, e ∈ es → isH e) ∧ es.length ≤ 4611686018427387904) (fun es c => .bool (es.any (fun e => hCode e == c)))
theorem w_rhasS : PSound GG 26 rhasS := by
  refine PSound.of_wpc (C := cxP Tryz.prog Y0 [] 18) (T := plan0) Tryz.func26 rfl rfl rfl (Fit.pure (G := GG) hY0 mixed) (fun args h => ?_)
  unfold rhasS at h
  obtain ⟨l, code, rfl, hp⟩ := on_ls_inv h
  refine ⟨by simp [cxP], ?_⟩
  simp only [rhasS, on_ls_eq, Tryz.f26, argL, plan0]
  obtain ⟨hl, hn⟩ := hp
  simp only [Tryz.underlying3, sz3, by3, ze3, Tryz.underlying4, sz4, by4, ze4, Tryz.underlying9, sz9, by9, ze9, Tryz.underlying23, sz23, by23, ze23, Tryz.underlying60, sz60, by60, ze60, fa60_0, fa60_1, go_sem, ↓reduceIte, reduceCtorEq, Nat.reduceEqDiff, Nat.reduceLT, ↓all_qV, Int.reduceToNat, Int.reduceLT, Int.reduceLE, Nat.reduceAdd, Nat.reduceLeDiff, Nat.reduceMul]
  refine AWp.loop (T := plan0) (α := Nat) (fun i => ([(1, .pv (.str code)), (7, .pv (.sl l)), (8, .pv (.int .i64 l.length)), (9, .pv (.int .i64 i))], [])) (fun i => i ≤ l.length ∧ (l.take i).any (fun e => hCode e == code) = false) (fun i => l.length - i)
    ⟨0, ⟨Nat.zero_le _, rfl⟩, ⟨by simp [fitR, look], trivial, rfl, rfl, rfl⟩⟩ ?_
  rintro i ⟨h1, h2⟩
  have hi1 : IntKind.i64.wrap ((i : Int) + 1) = ((i + 1 : Nat) : Int) := by rw [i64_in _ (by omega)]; omega
  by_cases hlt : i < l.length
  · have c0 : decide ((i : Int) < (l.length : Int)) = true := by simp; omega
    have hm := getD_mem hlt
    have htk := take_succ_getD hlt
    obtain ⟨c, nm, he, hc⟩ := hl _ hm
    have he3 : l.getD i default = .agg [.str c, .str nm] := he
    rw [he3] at hm htk
    simp only [c0, he3, hi1, List.length_map, List.take_succ_cons, List.take_nil, Tryz.underlying3, sz3, by3, ze3, Tryz.underlying4, sz4, by4, ze4, Tryz.underlying9, sz9, by9, ze9, Tryz.underlying23, sz23, by23, ze23, Tryz.underlying60, sz60, by60, ze60, fa60_0, fa60_1, plan0, go_sem, ↓reduceIte, reduceCtorEq, Nat.reduceEqDiff, Nat.reduceLT, ↓all_qV, Int.reduceToNat, Int.reduceLT, Int.reduceLE, Nat.reduceAdd, Nat.reduceLeDiff, Nat.reduceMul]
    refine ⟨⟨by omega, by omega⟩, fun h9 => ?_, fun h9 => ⟨i + 1, ⟨by omega, ?_⟩, by omega, ⟨by simp [fitR, look], trivial, rfl, rfl, rfl⟩⟩⟩
    · have : l.any (fun e => hCode e == code) = true := List.any_eq_true.2 ⟨_, hm, h9⟩
      rw [this]
    · rw [htk, List.any_append, h2]
      show (false || ((c == code) || false)) = false
      rw [h9]; rfl
  · have c0 : decide ((i : Int) < (l.length : Int)) = false := by simp; omega
    rw [List.take_of_length_le (by omega)] at h2
    simp only [c0, h2, Tryz.underlying3, sz3, by3, ze3, Tryz.underlying4, sz4, by4, ze4, Tryz.underlying9, sz9, by9, ze9, Tryz.underlying23, sz23, by23, ze23, Tryz.underlying60, sz60, by60, ze60, fa60_0, fa60_1, plan0, go_sem, ↓reduceIte, reduceCtorEq, Nat.reduceEqDiff, Nat.reduceLT, ↓all_qV, Int.reduceToNat, Int.reduceLT, Int.reduceLE, Nat.reduceAdd, Nat.reduceLeDiff, Nat.reduceMul]
noncomputable def Y1 (g : FuncId) : PSpec := (putΦ (putΦ Y0 72 rnameS) 26 rhasS) g
theorem hY1 : TabSound GG Y1 := ((hY0.put w_rnameS).put w_rhasS)
noncomputable def rchS : PSpec := on_ls (fun l code => (∀ e, e ∈ l → isH e) ∧ l.length ≤ 1000000000000 ∧ code.length ≤ 1000000000000) (fun l code => .sl ((chC (l.map hCode) code).map PV.str))
theorem k_rchS_47 {args : List PV} : Y1 47 args = goodS args := rfl
theorem k_rchS_57 {args : List PV} : Y1 57 args = parentS args := rfl
theorem w_rchS : PSound GG 31 rchS := by
  refine PSound.of_wpc (C := cxP Tryz.prog Y1 [] 31) (T := plan0) Tryz.func31 rfl rfl rfl (Fit.pure (G := GG) hY1 mixed) (fun args h => ?_)
  unfold rchS at h
  obtain ⟨l, code, rfl, hp⟩ := on_ls_inv h
  refine ⟨by simp [cxP], ?_⟩
  simp only [rchS, on_ls_eq, Tryz.f31, argL, plan0]
  obtain ⟨hl, hn, ht⟩ := hp
  simp only [Tryz.underlying1, sz1, by1, ze1, Tryz.underlying3, sz3, by3, ze3, Tryz.underlying4, sz4, by4, ze4, Tryz.underlying9, sz9, by9, ze9, Tryz.underlying23, sz23, by23, ze23, Tryz.underlying34, sz34, by34, ze34, Tryz.underlying60, sz60, by60, ze60, fa60_0, fa60_1, go_sem, ↓reduceIte, reduceCtorEq, Nat.reduceEqDiff, Nat.reduceLT, ↓all_qV, Int.reduceToNat, Int.reduceLT, Int.reduceLE, Nat.reduceAdd, Nat.reduceLeDiff, Nat.reduceMul]
  refine AWp.adoptS (s := 5) (κ := 8000) (k := 1) (by simp [look, upd]) rfl (by decide) ?_
  refine AWp.loop (T := plan0) (α := Nat × List (List UInt8)) (fun x => ([(1, .pv (.str code)), (5, .rs 8000 x.2.length), (8, .pv (.sl l)), (9, .pv (.int .i64 l.length)), (10, .pv (.int .i64 x.1))], [(8000, .row 1 (x.2.map PV.str))]))
    (fun x => x.1 ≤ l.length ∧ x.2 = chC ((l.take x.1).map hCode) code) (fun x => l.length - x.1)
    ⟨(0, []), ⟨Nat.zero_le _, rfl⟩, ⟨by simp [fitR, look, upd], by simp [fitH, hget, hset], rfl, rfl, rfl⟩⟩ ?_
  rintro ⟨i, acc⟩ ⟨h1, h2⟩
  simp only at h1 h2
  have hi1 : IntKind.i64.wrap ((i : Int) + 1) = ((i + 1 : Nat) : Int) := by rw [i64_in _ (by omega)]; omega
  have hal : acc.length ≤ i := by rw [h2]; exact Nat.le_trans (List.length_filter_le _ _) (by rw [List.length_map, List.length_take]; omega)
  have tk : (acc.map PV.str).take acc.length = acc.map PV.str := List.take_of_length_le (by simp)
  by_cases hlt : i < l.length
  · have c0 : decide ((i : Int) < (l.length : Int)) = true := by simp; omega
    obtain ⟨c, nm, he, hc⟩ := hl _ (getD_mem hlt)
    have he3 : l.getD i default = .agg [.str c, .str nm] := he
    have hgc : goodF 0 1 c = isCode c := gd_code c
    have hpc : parF c = parC c := par_code c
    have hstep : chC ((l.take (i + 1)).map hCode) code = acc ++ (if (isCode c && (parC c == code)) = true then [c] else []) := by
      rw [take_succ_getD hlt, he3, List.map_append, chC, List.filter_append, h2]
      congr 1
      by_cases h9 : (isCode c && (parC c == code)) = true
      · simp only [List.map_cons, List.map_nil, hCode, List.filter_cons, h9, if_true, List.filter_nil]
      · simp only [List.map_cons, List.map_nil, hCode, List.filter_cons, h9, if_false, List.filter_nil]
    simp only [c0, he3, hi1, tk, hgc, hpc, List.length_map, List.take_succ_cons, List.take_nil, k_rchS_47, goodS, on_s_eq, k_rchS_57, parentS, Tryz.underlying1, sz1, by1, ze1, Tryz.underlying3, sz3, by3, ze3, Tryz.underlying4, sz4, by4, ze4, Tryz.underlying9, sz9, by9, ze9, Tryz.underlying23, sz23, by23, ze23, Tryz.underlying34, sz34, by34, ze34, Tryz.underlying60, sz60, by60, ze60, fa60_0, fa60_1, plan0, go_sem, ↓reduceIte, reduceCtorEq, Nat.reduceEqDiff, Nat.reduceLT, ↓all_qV, Int.reduceToNat, Int.reduceLT, Int.reduceLE, Nat.reduceAdd, Nat.reduceLeDiff, Nat.reduceMul]
    refine ⟨⟨by omega, by omega⟩, by omega, fun _ => by omega, fun h7 => ⟨rfl, fun e he => by simp only [List.mem_singleton] at he; subst he; rfl, Nat.le_refl _, by omega, by simp only [maxLen]; omega, (i + 1, acc ++ [c]), ⟨by simp only; omega, by rw [h7] at hstep; simpa using hstep.symm⟩, by simp only; omega, ⟨by simp [fitR, look], by simp [fitH, hget], rfl, rfl, rfl⟩⟩,
      fun h7 => ⟨(i + 1, acc), ⟨by simp only; omega, by rw [h7] at hstep; simpa using hstep.symm⟩, by simp only; omega, ⟨by simp [fitR, look], by simp [fitH, hget], rfl, rfl, rfl⟩⟩⟩
  · have c0 : decide ((i : Int) < (l.length : Int)) = false := by simp; omega
    simp only [c0, tk, List.length_map, Tryz.underlying1, sz1, by1, ze1, Tryz.underlying3, sz3, by3, ze3, Tryz.underlying4, sz4, by4, ze4, Tryz.underlying9, sz9, by9, ze9, Tryz.underlying23, sz23, by23, ze23, Tryz.underlying34, sz34, by34, ze34, Tryz.underlying60, sz60, by60, ze60, fa60_0, fa60_1, plan0, go_sem, ↓reduceIte, reduceCtorEq, Nat.reduceEqDiff, Nat.reduceLT, ↓all_qV, Int.reduceToNat, Int.reduceLT, Int.reduceLE, Nat.reduceAdd, Nat.reduceLeDiff, Nat.reduceMul]
    have e1 : i = l.length := by omega
    subst e1
    rw [List.take_length] at h2
    rw [h2]
    exact ⟨Nat.le_refl _, rfl⟩
noncomputable def rtotS : PSpec := on_i (fun _ => True) (fun n => .bool (totB n))
theorem w_rtotS : PSound GG 77 rtotS := by
  refine PSound.of_wpc (C := cxP Tryz.prog Y1 [] 9) (T := plan0) Tryz.func77 rfl rfl rfl (Fit.pure (G := GG) hY1 mixed) (fun args h => ?_)
  unfold rtotS at h
  obtain ⟨n, rfl, hp⟩ := on_i_inv h
  refine ⟨by simp [cxP], ?_⟩
  simp only [rtotS, on_i_eq, Tryz.f77, argL, plan0]
  simp only [Tryz.underlying3, sz3, by3, ze3, Tryz.underlying4, sz4, by4, ze4, go_sem, ↓reduceIte, reduceCtorEq, Nat.reduceEqDiff, Nat.reduceLT, ↓all_qV, Int.reduceToNat, Int.reduceLT, Int.reduceLE, Nat.reduceAdd, Nat.reduceLeDiff, Nat.reduceMul]
  rfl
noncomputable def Y2 (g : FuncId) : PSpec := (putΦ (putΦ Y1 77 rtotS) 31 rchS) g
theorem hY2 : TabSound GG Y2 := ((hY1.put w_rtotS).put w_rchS)
def addF (a b : Int) : Int × Int := bif !totB a || !totB b || !totB (IntKind.i64.wrap (a + b)) then (0, 2) else (IntKind.i64.wrap (a + b), 0)
noncomputable def addS : PSpec := on_ii (fun _ _ => True) (fun a b => .tup [.int .i64 (addF a b).1, .int .i64 (addF a b).2])
theorem k_addS_77 {args : List PV} : Y2 77 args = rtotS args := rfl
theorem w_addS : PSound GG 59 addS := by
  refine PSound.of_wpc (C := cxP Tryz.prog Y2 [] 24) (T := plan0) Tryz.func59 rfl rfl rfl (Fit.pure (G := GG) hY2 mixed) (fun args h => ?_)
  unfold addS at h
  obtain ⟨a, b, rfl, hp⟩ := on_ii_inv h
  refine ⟨by simp [cxP], ?_⟩
  simp only [addS, on_ii_eq, Tryz.f59, argL, plan0]
  unfold addF
  simp only [k_addS_77, rtotS, on_i_eq, Tryz.underlying3, sz3, by3, ze3, Tryz.underlying4, sz4, by4, ze4, Tryz.underlying44, sz44, by44, ze44, go_sem, ↓reduceIte, reduceCtorEq, Nat.reduceEqDiff, Nat.reduceLT, ↓all_qV, Int.reduceToNat, Int.reduceLT, Int.reduceLE, Nat.reduceAdd, Nat.reduceLeDiff, Nat.reduceMul, ev_callG, gcallK_b, gcallK_w, callGc_true, callGc_false, List.forall_mem_cons, List.not_mem_nil, PV.one, AV.one]
  refine ⟨fun h => by simpa using h, fun h => by rw [h]; rfl, fun h => by rw [h]; rfl⟩
noncomputable def Y3 (g : FuncId) : PSpec := (putΦ Y2 59 addS) g
theorem hY3 : TabSound GG Y3 := (hY2.put w_addS)
noncomputable def rsumS : PSpec := on_lsi (fun l c y => (∀ e, e ∈ l → isL e) ∧ l.length ≤ 1000000000000 ∧ c.length ≤ 1000000000000) (fun l c y => .tup [.int .i64 (smF l c y).1, .int .i64 (smF l c y).2])
theorem k_rsumS_16 {args : List PV} : Y3 16 args = underS args := rfl
theorem k_rsumS_59 {args : List PV} : Y3 59 args = addS args := rfl
theorem w_rsumS : PSound GG 34 rsumS := by
  refine PSound.of_wpc (C := cxP Tryz.prog Y3 [] 51) (T := plan0) Tryz.func34 rfl rfl rfl (Fit.pure (G := GG) hY3 mixed) (fun args h => ?_)
  unfold rsumS at h
  obtain ⟨l, code, yr, rfl, hp⟩ := on_lsi_inv h
  refine ⟨by simp [cxP], ?_⟩
  simp only [rsumS, on_lsi_eq, Tryz.f34, argL, plan0]
  obtain ⟨hl, hn, ht⟩ := hp
  simp only [Tryz.underlying1, sz1, by1, ze1, Tryz.underlying2, sz2, by2, ze2, Tryz.underlying3, sz3, by3, ze3, Tryz.underlying4, sz4, by4, ze4, Tryz.underlying9, sz9, by9, ze9, Tryz.underlying24, sz24, by24, ze24, Tryz.underlying28, sz28, by28, ze28, fa28_0, fa28_1, fa28_2, Tryz.underlying44, sz44, by44, ze44, Tryz.underlying52, sz52, by52, ze52, go_sem, ↓reduceIte, reduceCtorEq, Nat.reduceEqDiff, Nat.reduceLT, ↓all_qV, Int.reduceToNat, Int.reduceLT, Int.reduceLE, Nat.reduceAdd, Nat.reduceLeDiff, Nat.reduceMul]
  refine AWp.loop (T := plan0) (α := Nat × Int) (fun x => ([(1, .pv (.str code)), (2, .pv (.int .i64 yr)), (8, .pv (.int .i64 x.2)), (13, .pv (.sl l)), (14, .pv (.int .i64 l.length)), (15, .pv (.int .i64 x.1))], []))
    (fun x => x.1 ≤ l.length ∧ totB x.2 = true ∧ msF (((l.drop x.1).filter (pkF code yr)).map amF) x.2 = smF l code yr) (fun x => l.length - x.1)
    ⟨(0, 0), ⟨Nat.zero_le _, by decide, rfl⟩, ⟨by simp [fitR, look], trivial, rfl, rfl, rfl⟩⟩ ?_
  rintro ⟨i, acc⟩ ⟨h1, h3, h2⟩
  simp only at h1 h2 h3
  have hi1 : IntKind.i64.wrap ((i : Int) + 1) = ((i + 1 : Nat) : Int) := by rw [i64_in _ (by omega)]; omega
  by_cases hlt : i < l.length
  · have c0 : decide ((i : Int) < (l.length : Int)) = true := by simp; omega
    obtain ⟨c, y, a, he, hc⟩ := hl _ (getD_mem hlt)
    have he3 : l.getD i default = .agg [.str c, .int .i64 y, .int .i64 a] := he
    have hd : l.drop i = .agg [.str c, .int .i64 y, .int .i64 a] :: l.drop (i + 1) := by
      rw [List.drop_eq_getElem_cons hlt, ← he3]; simp [List.getD_eq_getElem?_getD, hlt]
    have hpk : pkF code yr (.agg [.str c, .int .i64 y, .int .i64 a]) = ((yr == -1 || y == yr) && (code == [] || undC c code)) := rfl
    have ham : amF (.agg [.str c, .int .i64 y, .int .i64 a]) = a := rfl
    have hu : undF c code = undC c code := undF_code c code
    rw [hd, List.filter_cons, hpk] at h2
    simp only [c0, he3, hi1, hu, List.length_map, List.take_succ_cons, List.take_nil, k_rsumS_16, underS, on_ss_eq, k_rsumS_59, addS, on_ii_eq, Tryz.underlying1, sz1, by1, ze1, Tryz.underlying2, sz2, by2, ze2, Tryz.underlying3, sz3, by3, ze3, Tryz.underlying4, sz4, by4, ze4, Tryz.underlying9, sz9, by9, ze9, Tryz.underlying24, sz24, by24, ze24, Tryz.underlying28, sz28, by28, ze28, fa28_0, fa28_1, fa28_2, Tryz.underlying44, sz44, by44, ze44, Tryz.underlying52, sz52, by52, ze52, plan0, go_sem, ↓reduceIte, reduceCtorEq, Nat.reduceEqDiff, Nat.reduceLT, ↓all_qV, Int.reduceToNat, Int.reduceLT, Int.reduceLE, Nat.reduceAdd, Nat.reduceLeDiff, Nat.reduceMul, ev_callG, gcallK_b, gcallK_w, callGc_true, callGc_false, List.forall_mem_cons, List.not_mem_nil, PV.one, AV.one]
    have hcond : (!(code == []) && !undC c code || yr != -1 && y != yr) = !((yr == -1 || y == yr) && (code == [] || undC c code)) := by
      simp only [bne]
      cases (yr == -1) <;> cases (y == yr) <;> cases (code == []) <;> cases undC c code <;> rfl
    rw [hcond]
    generalize ((yr == -1 || y == yr) && (code == [] || undC c code)) = P at h2 ⊢
    refine ⟨⟨by omega, by omega⟩, fun _ => ⟨by omega, by omega⟩, fun h8 h9 => by rw [h8, h9]; rfl, fun h9 => ⟨(i + 1, acc), ⟨by simp only; omega, h3, ?_⟩, by simp only; omega, ⟨by simp [fitR, look], trivial, rfl, rfl, rfl⟩⟩, fun h9 => ?_⟩
    · simp only [Bool.not_eq_true'] at h9
      rw [h9] at h2
      exact h2
    simp only [Bool.not_eq_false'] at h9
    rw [h9, if_pos rfl, List.map_cons, ham, msF] at h2
    have hadd : addF acc a = bif !totB a || !totB (IntKind.i64.wrap (acc + a)) then (0, 2) else (IntKind.i64.wrap (acc + a), 0) := by rw [addF, h3]; rfl
    cases hx : (!totB a || !totB (IntKind.i64.wrap (acc + a)))
    · rw [hx] at h2 hadd
      rw [hadd]
      have ht3 : totB (IntKind.i64.wrap (acc + a)) = true := by
        simp only [Bool.or_eq_false_iff, Bool.not_eq_false'] at hx; exact hx.2
      refine ⟨fun h => by simp at h, fun _ => ⟨(i + 1, IntKind.i64.wrap (acc + a)), ⟨by simp only; omega, ht3, h2⟩, by simp only; omega, ⟨by simp [fitR, look], trivial, rfl, rfl, rfl⟩⟩⟩
    · rw [hx] at h2 hadd
      rw [hadd, ← h2]
      exact ⟨fun _ => rfl, fun h => by simp at h⟩
  · have c0 : decide ((i : Int) < (l.length : Int)) = false := by simp; omega
    rw [List.drop_eq_nil_of_le (by omega)] at h2
    simp only [c0, ← h2, msF, List.filter_nil, List.map_nil, Tryz.underlying1, sz1, by1, ze1, Tryz.underlying2, sz2, by2, ze2, Tryz.underlying3, sz3, by3, ze3, Tryz.underlying4, sz4, by4, ze4, Tryz.underlying9, sz9, by9, ze9, Tryz.underlying24, sz24, by24, ze24, Tryz.underlying28, sz28, by28, ze28, fa28_0, fa28_1, fa28_2, Tryz.underlying44, sz44, by44, ze44, Tryz.underlying52, sz52, by52, ze52, plan0, go_sem, ↓reduceIte, reduceCtorEq, Nat.reduceEqDiff, Nat.reduceLT, ↓all_qV, Int.reduceToNat, Int.reduceLT, Int.reduceLE, Nat.reduceAdd, Nat.reduceLeDiff, Nat.reduceMul, ev_callG, gcallK_b, gcallK_w, callGc_true, callGc_false, List.forall_mem_cons, List.not_mem_nil, PV.one, AV.one]
end Go.AM
