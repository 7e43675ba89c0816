/-
  A part of a proof: see the last text of this claim for what is proved.
-/
import Derived.Test.YtcmkdpdinjkokaaGreatDoorX7a
import Derived.Test.YtcmkdpdinjkokaaGreatDoorZMa
/-! budget: the checker's parts, one by one -/
namespace Go.AM
open Go Go.Proofs Go.IntWalk
set_option maxRecDepth 100000
set_option maxHeartbeats 2000000
set_option linter.unusedSimpArgs false
set_option linter.unusedVariables false
theorem u64_in (n : Int) (h : 0 ≤ n ∧ n < 18446744073709551616) : IntKind.u64.wrap n = n := by simp [IntKind.wrap, IntKind.bits, IntKind.signed]; omega
def chkV (first years : Int) (tree a b c d e f g lv : List PV) : PV := .agg [.int .i64 first, .int .i64 years, .sl tree, .sl a, .sl b, .sl c, .sl d, .sl e, .sl f, .sl g, .sl lv]
/-- The checker of a law, with its leaves. -/
def ckV (L : Law) (lv : List (List UInt8)) : PV := chkV L.first L.years L.tree L.a L.b L.c L.d L.e L.f L.g (lv.map PV.str)
def chkLv : PV → List (List UInt8)
  | .agg [_, _, _, _, _, _, _, _, _, _, .sl lv] => lv.map sOf
  | _ => []
def ckQ (L : Law) (lv : List (List UInt8)) : Prop := lv.length ≤ 1000 ∧ (∀ e, e ∈ L.tree → isH e) ∧ L.tree.length ≤ 1000 ∧ (0 ≤ L.first ∧ L.first ≤ 1000) ∧ (0 ≤ L.years ∧ L.years ≤ 1000)
noncomputable def leafCS : PSpec := on_ps (fun k _ => ∃ L lv, k = ckV L lv ∧ lv.length ≤ 1000) (fun k s => .bool ((chkLv k).contains s))
theorem k_leafCS_106 {args : List PV} : B4 106 args = containsS args := rfl
theorem w_leafCS : PSound GG 96 leafCS := by
  refine PSound.of_wpc (C := cxP Tryz.prog B4 [] 9) (T := plan0) Tryz.func96 rfl rfl rfl (Fit.pure (G := GG) hB4 mixed) (fun args h => ?_)
  unfold leafCS at h
  obtain ⟨k, s, rfl, hp⟩ := on_ps_inv h
  refine ⟨by simp [cxP], ?_⟩
  simp only [leafCS, on_ps_eq, Tryz.f96, argL, plan0]
  obtain ⟨⟨fi, ye, tr, la, lb, lc, ld, le, lf, lg⟩, lv, rfl, hl⟩ := hp
  simp only [ckV, chkV, chkLv, lawTree, map_sOf, List.take_succ_cons, List.take_nil, k_leafCS_106, containsS, on_ls_eq, Tryz.underlying1, sz1, by1, ze1, Tryz.underlying3, sz3, by3, ze3, Tryz.underlying4, sz4, by4, ze4, Tryz.underlying9, sz9, by9, ze9, Tryz.underlying25, sz25, by25, ze25, Tryz.underlying26, sz26, by26, ze26, Tryz.underlying27, sz27, by27, ze27, Tryz.underlying28, sz28, by28, ze28, Tryz.underlying29, sz29, by29, ze29, Tryz.underlying30, sz30, by30, ze30, Tryz.underlying31, sz31, by31, ze31, Tryz.underlying33, sz33, by33, ze33, fa33_0, fa33_1, fa33_2, fa33_3, fa33_4, fa33_5, fa33_6, fa33_7, fa33_8, fa33_9, Tryz.underlying44, sz44, by44, ze44, Tryz.underlying55, sz55, by55, ze55, fa55_0, fa55_1, Tryz.underlying57, sz57, by57, ze57, fa57_0, fa57_1, fa57_2, fa57_3, fa57_4, fa57_5, fa57_6, Tryz.underlying77, sz77, by77, ze77, fa77_0, fa77_1, fa77_2, Tryz.underlying86, sz86, by86, ze86, fa86_0, fa86_1, fa86_2, Tryz.underlying88, sz88, by88, ze88, fa88_0, fa88_1, fa88_2, fa88_3, Tryz.underlying89, sz89, by89, ze89, fa89_0, fa89_1, fa89_2, Tryz.underlying92, sz92, by92, ze92, fa92_0, fa92_1, fa92_2, fa92_3, Tryz.underlying93, sz93, by93, ze93, Tryz.underlying95, sz95, by95, ze95, fa95_0, fa95_1, fa95_2, Tryz.underlying110, sz110, by110, ze110, fa110_0, fa110_1, go_sem, ↓reduceIte, reduceCtorEq, Nat.reduceEqDiff, Nat.reduceLT, ↓all_qV, Int.reduceToNat, Int.reduceLT, Int.reduceLE, Nat.reduceAdd, Nat.reduceLeDiff, Nat.reduceMul]
  exact ⟨⟨lv, rfl⟩, by rw [List.length_map]; omega⟩
noncomputable def inS : PSpec := on_pi (fun l y => ∃ L : Law, l = L.v ∧ (0 ≤ L.first ∧ L.first ≤ 1000) ∧ (0 ≤ L.years ∧ L.years ≤ 1000) ∧ L.first ≤ y ∧ y < L.first + L.years) (fun _ _ => .bool true)
theorem w_inS : PSound GG 97 inS := by
  refine PSound.of_wpc (C := cxP Tryz.prog B4 [] 22) (T := plan0) Tryz.func97 rfl rfl rfl (Fit.pure (G := GG) hB4 mixed) (fun args h => ?_)
  unfold inS at h
  obtain ⟨l, y, rfl, hp⟩ := on_pi_inv h
  refine ⟨by simp [cxP], ?_⟩
  simp only [inS, on_pi_eq, Tryz.f97, argL, plan0]
  obtain ⟨⟨fi, ye, tr, la, lb, lc, ld, le, lf, lg⟩, rfl, h1, h2, h3, h4⟩ := hp
  simp only at h1 h2 h3 h4
  have w1 := u64_in y (by omega)
  have w2 := u64_in fi (by omega)
  have w3 := u64_in (y - fi) (by omega)
  have hm : (if (0 : Int) > ye then (0 : Int) else ye) = ye := by split <;> omega
  have hm2 : (if ye < (0 : Int) then (0 : Int) else ye) = ye := by split <;> omega
  have w4 := u64_in ye (by omega)
  have c1 : decide (fi ≤ y) = true := by simp; omega
  have c2 : decide (y - fi < ye) = true := by simp; omega
  simp only [Law.v, lawV, w1, w2, w3, w4, hm, hm2, c1, c2, Tryz.underlying1, sz1, by1, ze1, Tryz.underlying3, sz3, by3, ze3, Tryz.underlying4, sz4, by4, ze4, Tryz.underlying9, sz9, by9, ze9, Tryz.underlying25, sz25, by25, ze25, Tryz.underlying26, sz26, by26, ze26, Tryz.underlying27, sz27, by27, ze27, Tryz.underlying28, sz28, by28, ze28, Tryz.underlying29, sz29, by29, ze29, Tryz.underlying30, sz30, by30, ze30, Tryz.underlying31, sz31, by31, ze31, Tryz.underlying33, sz33, by33, ze33, fa33_0, fa33_1, fa33_2, fa33_3, fa33_4, fa33_5, fa33_6, fa33_7, fa33_8, fa33_9, Tryz.underlying55, sz55, by55, ze55, fa55_0, fa55_1, Tryz.underlying57, sz57, by57, ze57, fa57_0, fa57_1, fa57_2, fa57_3, fa57_4, fa57_5, fa57_6, Tryz.underlying77, sz77, by77, ze77, fa77_0, fa77_1, fa77_2, Tryz.underlying86, sz86, by86, ze86, fa86_0, fa86_1, fa86_2, Tryz.underlying88, sz88, by88, ze88, fa88_0, fa88_1, fa88_2, fa88_3, Tryz.underlying89, sz89, by89, ze89, fa89_0, fa89_1, fa89_2, Tryz.underlying92, sz92, by92, ze92, fa92_0, fa92_1, fa92_2, fa92_3, Tryz.underlying93, sz93, by93, ze93, Tryz.underlying95, sz95, by95, ze95, fa95_0, fa95_1, fa95_2, Tryz.underlying155, sz155, by155, ze155, go_sem, ↓reduceIte, reduceCtorEq, Nat.reduceEqDiff, Nat.reduceLT, ↓all_qV, Int.reduceToNat, Int.reduceLT, Int.reduceLE, Nat.reduceAdd, Nat.reduceLeDiff, Nat.reduceMul, ev_callG, gcallK_b, gcallK_w, callGc_true, callGc_false, List.forall_mem_cons, List.not_mem_nil, PV.one, AV.one]
  try rfl
noncomputable def hasBS : PSpec := on_ps (fun l _ => ∃ L : Law, l = L.v ∧ (∀ e, e ∈ L.tree → isH e) ∧ L.tree.length ≤ 1000) (fun l s => .bool ((lawTree l).any (fun e => hCode e == s)))
theorem k_hasBS_116 {args : List PV} : B4 116 args = hasS args := rfl
theorem w_hasBS : PSound GG 99 hasBS := by
  refine PSound.of_wpc (C := cxP Tryz.prog B4 [] 9) (T := plan0) Tryz.func99 rfl rfl rfl (Fit.pure (G := GG) hB4 mixed) (fun args h => ?_)
  unfold hasBS at h
  obtain ⟨l, s, rfl, hp⟩ := on_ps_inv h
  refine ⟨by simp [cxP], ?_⟩
  simp only [hasBS, on_ps_eq, Tryz.f99, argL, plan0]
  obtain ⟨⟨fi, ye, tr, la, lb, lc, ld, le, lf, lg⟩, rfl, h1, h2⟩ := hp
  simp only at h1 h2
  simp only [Law.v, lawV, lawTree, k_hasBS_116, hasS, on_ls_eq, Tryz.underlying2, sz2, by2, ze2, Tryz.underlying3, sz3, by3, ze3, Tryz.underlying4, sz4, by4, ze4, Tryz.underlying9, sz9, by9, ze9, Tryz.underlying25, sz25, by25, ze25, Tryz.underlying26, sz26, by26, ze26, Tryz.underlying27, sz27, by27, ze27, Tryz.underlying28, sz28, by28, ze28, Tryz.underlying29, sz29, by29, ze29, Tryz.underlying30, sz30, by30, ze30, Tryz.underlying31, sz31, by31, ze31, Tryz.underlying33, sz33, by33, ze33, fa33_0, fa33_1, fa33_2, fa33_3, fa33_4, fa33_5, fa33_6, fa33_7, fa33_8, fa33_9, Tryz.underlying55, sz55, by55, ze55, fa55_0, fa55_1, Tryz.underlying57, sz57, by57, ze57, fa57_0, fa57_1, fa57_2, fa57_3, fa57_4, fa57_5, fa57_6, Tryz.underlying77, sz77, by77, ze77, fa77_0, fa77_1, fa77_2, Tryz.underlying86, sz86, by86, ze86, fa86_0, fa86_1, fa86_2, Tryz.underlying88, sz88, by88, ze88, fa88_0, fa88_1, fa88_2, fa88_3, Tryz.underlying89, sz89, by89, ze89, fa89_0, fa89_1, fa89_2, Tryz.underlying92, sz92, by92, ze92, fa92_0, fa92_1, fa92_2, fa92_3, Tryz.underlying93, sz93, by93, ze93, Tryz.underlying95, sz95, by95, ze95, fa95_0, fa95_1, fa95_2, go_sem, ↓reduceIte, reduceCtorEq, Nat.reduceEqDiff, Nat.reduceLT, ↓all_qV, Int.reduceToNat, Int.reduceLT, Int.reduceLE, Nat.reduceAdd, Nat.reduceLeDiff, Nat.reduceMul]
  exact ⟨h1, by omega⟩
noncomputable def B5 (g : FuncId) : PSpec := (putΦ (putΦ (putΦ B4 96 leafCS) 97 inS) 99 hasBS) g
theorem hB5 : TabSound GG B5 := (((hB4.put w_leafCS).put w_inS).put w_hasBS)
theorem vldM_ok {m : Int} (h : 0 ≤ m ∧ m ≤ 1000000000000) : vldM m = true := by unfold vldM; simp; omega
theorem amg_ok {m a b : Int} (h : a ≤ m ∧ m ≤ b) : amg m a b = true := by unfold amg; simp; omega
theorem any_ok {tree : List PV} {s : List UInt8} (h : s ∈ tree.map hCode) : tree.any (fun e => hCode e == s) = true := by
  rw [List.any_eq_true]
  obtain ⟨e, he, rfl⟩ := List.mem_map.1 h
  exact ⟨e, he, by simp⟩
def lineP (k x : PV) : Prop := ∃ (L : Law) (lv : List (List UInt8)) (s : List UInt8) (y m : Int), k = ckV L lv ∧ x = .agg [.str s, .int .i64 y, .int .i64 m] ∧ ckQ L lv ∧ s ∈ lv ∧ (L.first ≤ y ∧ y < L.first + L.years) ∧ (0 ≤ m ∧ m ≤ 1000000000000)
noncomputable def lineS : PSpec := on_pp lineP (fun _ _ => .int .i64 0)
theorem k_lineS_96 {args : List PV} : B5 96 args = leafCS args := rfl
theorem k_lineS_97 {args : List PV} : B5 97 args = inS args := rfl
theorem k_lineS_98 {args : List PV} : B5 98 args = validMS args := rfl
theorem w_lineS : PSound GG 70 lineS := by
  refine PSound.of_wpc (C := cxP Tryz.prog B5 [] 23) (T := plan0) Tryz.func70 rfl rfl rfl (Fit.pure (G := GG) hB5 mixed) (fun args h => ?_)
  unfold lineS at h
  obtain ⟨k, x, rfl, hp⟩ := on_pp_inv h
  refine ⟨by simp [cxP], ?_⟩
  simp only [lineS, on_pp_eq, Tryz.f70, argL, plan0]
  obtain ⟨⟨fi, ye, tr, la, lb, lc, ld, le, lf, lg⟩, lv, s, y, m, rfl, rfl, ⟨q1, q2, q3, q4, q5⟩, hs, hy, hm⟩ := hp
  simp only at q1 q2 q3 q4 q5 hy
  have hcon : lv.contains s = true := List.contains_iff_mem.2 hs
  simp only [ckV, chkV, chkLv, lawTree, map_sOf, List.take_succ_cons, List.take_nil, hcon, vldM_ok hm, k_lineS_96, leafCS, on_ps_eq, k_lineS_97, inS, on_pi_eq, k_lineS_98, validMS, on_i_eq, Tryz.underlying1, sz1, by1, ze1, Tryz.underlying2, sz2, by2, ze2, Tryz.underlying3, sz3, by3, ze3, Tryz.underlying4, sz4, by4, ze4, Tryz.underlying9, sz9, by9, ze9, Tryz.underlying25, sz25, by25, ze25, Tryz.underlying26, sz26, by26, ze26, Tryz.underlying27, sz27, by27, ze27, Tryz.underlying28, sz28, by28, ze28, Tryz.underlying29, sz29, by29, ze29, Tryz.underlying30, sz30, by30, ze30, Tryz.underlying31, sz31, by31, ze31, Tryz.underlying33, sz33, by33, ze33, fa33_0, fa33_1, fa33_2, fa33_3, fa33_4, fa33_5, fa33_6, fa33_7, fa33_8, fa33_9, Tryz.underlying44, sz44, by44, ze44, Tryz.underlying46, sz46, by46, ze46, Tryz.underlying55, sz55, by55, ze55, fa55_0, fa55_1, Tryz.underlying57, sz57, by57, ze57, fa57_0, fa57_1, fa57_2, fa57_3, fa57_4, fa57_5, fa57_6, Tryz.underlying77, sz77, by77, ze77, fa77_0, fa77_1, fa77_2, Tryz.underlying86, sz86, by86, ze86, fa86_0, fa86_1, fa86_2, Tryz.underlying88, sz88, by88, ze88, fa88_0, fa88_1, fa88_2, fa88_3, Tryz.underlying89, sz89, by89, ze89, fa89_0, fa89_1, fa89_2, Tryz.underlying92, sz92, by92, ze92, fa92_0, fa92_1, fa92_2, fa92_3, Tryz.underlying93, sz93, by93, ze93, Tryz.underlying95, sz95, by95, ze95, fa95_0, fa95_1, fa95_2, Tryz.underlying110, sz110, by110, ze110, fa110_0, fa110_1, go_sem, ↓reduceIte, reduceCtorEq, Nat.reduceEqDiff, Nat.reduceLT, ↓all_qV, Int.reduceToNat, Int.reduceLT, Int.reduceLE, Nat.reduceAdd, Nat.reduceLeDiff, Nat.reduceMul, ev_callG, gcallK_b, gcallK_w, callGc_true, callGc_false, List.forall_mem_cons, List.not_mem_nil, PV.one, AV.one]
  and_intros
  all_goals try first
    | exact ⟨⟨fi, ye, tr, la, lb, lc, ld, le, lf, lg⟩, lv, rfl, q1⟩
    | exact ⟨⟨fi, ye, tr, la, lb, lc, ld, le, lf, lg⟩, rfl, q4, q5, hy⟩
    | exact ⟨⟨fi, ye, tr, la, lb, lc, ld, le, lf, lg⟩, rfl, q2, q3⟩
    | exact fun _ => ⟨⟨fi, ye, tr, la, lb, lc, ld, le, lf, lg⟩, lv, rfl, q1⟩
    | exact fun _ => ⟨⟨fi, ye, tr, la, lb, lc, ld, le, lf, lg⟩, rfl, q4, q5, hy⟩
    | exact fun _ => ⟨⟨fi, ye, tr, la, lb, lc, ld, le, lf, lg⟩, rfl, q2, q3⟩
    | omega | rfl | trivial | (show checkD _ _ _ = true; kernel_rfl)
def boundP (k x : PV) : Prop := ∃ (L : Law) (lv : List (List UInt8)) (s : List UInt8) (y m : Int), k = ckV L lv ∧ x = .agg [.str s, .int .i64 y, .int .i64 m] ∧ ckQ L lv ∧ s ∈ L.tree.map hCode ∧ (y = -1 ∨ (L.first ≤ y ∧ y < L.first + L.years)) ∧ (0 ≤ m ∧ m ≤ 1000000000000)
noncomputable def boundS : PSpec := on_pp boundP (fun _ _ => .int .i64 0)
theorem k_boundS_97 {args : List PV} : B5 97 args = inS args := rfl
theorem k_boundS_98 {args : List PV} : B5 98 args = validMS args := rfl
theorem k_boundS_99 {args : List PV} : B5 99 args = hasBS args := rfl
theorem w_boundS : PSound GG 73 boundS := by
  refine PSound.of_wpc (C := cxP Tryz.prog B5 [] 29) (T := plan0) Tryz.func73 rfl rfl rfl (Fit.pure (G := GG) hB5 mixed) (fun args h => ?_)
  unfold boundS at h
  obtain ⟨k, x, rfl, hp⟩ := on_pp_inv h
  refine ⟨by simp [cxP], ?_⟩
  simp only [boundS, on_pp_eq, Tryz.f73, argL, plan0]
  obtain ⟨⟨fi, ye, tr, la, lb, lc, ld, le, lf, lg⟩, lv, s, y, m, rfl, rfl, ⟨q1, q2, q3, q4, q5⟩, hs, hy, hm⟩ := hp
  simp only at q1 q2 q3 q4 q5 hy hs
  rcases hy with rfl | hy
  · simp only [ckV, chkV, chkLv, lawTree, map_sOf, List.take_succ_cons, List.take_nil, any_ok hs, vldM_ok hm, bne_self_eq_false, k_boundS_97, inS, on_pi_eq, k_boundS_98, validMS, on_i_eq, k_boundS_99, hasBS, on_ps_eq, Tryz.underlying1, sz1, by1, ze1, Tryz.underlying2, sz2, by2, ze2, Tryz.underlying3, sz3, by3, ze3, Tryz.underlying4, sz4, by4, ze4, Tryz.underlying9, sz9, by9, ze9, Tryz.underlying25, sz25, by25, ze25, Tryz.underlying26, sz26, by26, ze26, Tryz.underlying27, sz27, by27, ze27, Tryz.underlying28, sz28, by28, ze28, Tryz.underlying29, sz29, by29, ze29, Tryz.underlying30, sz30, by30, ze30, Tryz.underlying31, sz31, by31, ze31, Tryz.underlying33, sz33, by33, ze33, fa33_0, fa33_1, fa33_2, fa33_3, fa33_4, fa33_5, fa33_6, fa33_7, fa33_8, fa33_9, Tryz.underlying44, sz44, by44, ze44, Tryz.underlying46, sz46, by46, ze46, Tryz.underlying55, sz55, by55, ze55, fa55_0, fa55_1, Tryz.underlying57, sz57, by57, ze57, fa57_0, fa57_1, fa57_2, fa57_3, fa57_4, fa57_5, fa57_6, Tryz.underlying77, sz77, by77, ze77, fa77_0, fa77_1, fa77_2, Tryz.underlying86, sz86, by86, ze86, fa86_0, fa86_1, fa86_2, Tryz.underlying88, sz88, by88, ze88, fa88_0, fa88_1, fa88_2, fa88_3, Tryz.underlying89, sz89, by89, ze89, fa89_0, fa89_1, fa89_2, Tryz.underlying92, sz92, by92, ze92, fa92_0, fa92_1, fa92_2, fa92_3, Tryz.underlying93, sz93, by93, ze93, Tryz.underlying95, sz95, by95, ze95, fa95_0, fa95_1, fa95_2, Tryz.underlying110, sz110, by110, ze110, fa110_0, fa110_1, go_sem, ↓reduceIte, reduceCtorEq, Nat.reduceEqDiff, Nat.reduceLT, ↓all_qV, Int.reduceToNat, Int.reduceLT, Int.reduceLE, Nat.reduceAdd, Nat.reduceLeDiff, Nat.reduceMul, ev_callG, gcallK_b, gcallK_w, callGc_true, callGc_false, List.forall_mem_cons, List.not_mem_nil, PV.one, AV.one]
    and_intros
    all_goals try first
      | exact ⟨⟨fi, ye, tr, la, lb, lc, ld, le, lf, lg⟩, lv, rfl, q1⟩
      | exact ⟨⟨fi, ye, tr, la, lb, lc, ld, le, lf, lg⟩, rfl, q4, q5, hy⟩
      | exact ⟨⟨fi, ye, tr, la, lb, lc, ld, le, lf, lg⟩, rfl, q2, q3⟩
      | exact fun _ => ⟨⟨fi, ye, tr, la, lb, lc, ld, le, lf, lg⟩, lv, rfl, q1⟩
      | exact fun _ => ⟨⟨fi, ye, tr, la, lb, lc, ld, le, lf, lg⟩, rfl, q4, q5, hy⟩
      | exact fun _ => ⟨⟨fi, ye, tr, la, lb, lc, ld, le, lf, lg⟩, rfl, q2, q3⟩
      | omega | rfl | trivial | (show checkD _ _ _ = true; kernel_rfl)
  · have hy1 : (y == -1) = false := by simp; omega
    have hy2 : (y != -1) = true := by simp; omega
    simp only [ckV, chkV, chkLv, lawTree, map_sOf, List.take_succ_cons, List.take_nil, any_ok hs, vldM_ok hm, hy1, hy2, k_boundS_97, inS, on_pi_eq, k_boundS_98, validMS, on_i_eq, k_boundS_99, hasBS, on_ps_eq, Tryz.underlying1, sz1, by1, ze1, Tryz.underlying2, sz2, by2, ze2, Tryz.underlying3, sz3, by3, ze3, Tryz.underlying4, sz4, by4, ze4, Tryz.underlying9, sz9, by9, ze9, Tryz.underlying25, sz25, by25, ze25, Tryz.underlying26, sz26, by26, ze26, Tryz.underlying27, sz27, by27, ze27, Tryz.underlying28, sz28, by28, ze28, Tryz.underlying29, sz29, by29, ze29, Tryz.underlying30, sz30, by30, ze30, Tryz.underlying31, sz31, by31, ze31, Tryz.underlying33, sz33, by33, ze33, fa33_0, fa33_1, fa33_2, fa33_3, fa33_4, fa33_5, fa33_6, fa33_7, fa33_8, fa33_9, Tryz.underlying44, sz44, by44, ze44, Tryz.underlying46, sz46, by46, ze46, Tryz.underlying55, sz55, by55, ze55, fa55_0, fa55_1, Tryz.underlying57, sz57, by57, ze57, fa57_0, fa57_1, fa57_2, fa57_3, fa57_4, fa57_5, fa57_6, Tryz.underlying77, sz77, by77, ze77, fa77_0, fa77_1, fa77_2, Tryz.underlying86, sz86, by86, ze86, fa86_0, fa86_1, fa86_2, Tryz.underlying88, sz88, by88, ze88, fa88_0, fa88_1, fa88_2, fa88_3, Tryz.underlying89, sz89, by89, ze89, fa89_0, fa89_1, fa89_2, Tryz.underlying92, sz92, by92, ze92, fa92_0, fa92_1, fa92_2, fa92_3, Tryz.underlying93, sz93, by93, ze93, Tryz.underlying95, sz95, by95, ze95, fa95_0, fa95_1, fa95_2, Tryz.underlying110, sz110, by110, ze110, fa110_0, fa110_1, go_sem, ↓reduceIte, reduceCtorEq, Nat.reduceEqDiff, Nat.reduceLT, ↓all_qV, Int.reduceToNat, Int.reduceLT, Int.reduceLE, Nat.reduceAdd, Nat.reduceLeDiff, Nat.reduceMul, ev_callG, gcallK_b, gcallK_w, callGc_true, callGc_false, List.forall_mem_cons, List.not_mem_nil, PV.one, AV.one]
    and_intros
    all_goals try first
      | exact ⟨⟨fi, ye, tr, la, lb, lc, ld, le, lf, lg⟩, lv, rfl, q1⟩
      | exact ⟨⟨fi, ye, tr, la, lb, lc, ld, le, lf, lg⟩, rfl, q4, q5, hy⟩
      | exact ⟨⟨fi, ye, tr, la, lb, lc, ld, le, lf, lg⟩, rfl, q2, q3⟩
      | exact fun _ => ⟨⟨fi, ye, tr, la, lb, lc, ld, le, lf, lg⟩, lv, rfl, q1⟩
      | exact fun _ => ⟨⟨fi, ye, tr, la, lb, lc, ld, le, lf, lg⟩, rfl, q4, q5, hy⟩
      | exact fun _ => ⟨⟨fi, ye, tr, la, lb, lc, ld, le, lf, lg⟩, rfl, q2, q3⟩
      | omega | rfl | trivial | (show checkD _ _ _ = true; kernel_rfl)
def earmarkP (k x : PV) : Prop := ∃ (L : Law) (lv : List (List UInt8)) (s c : List UInt8) (p : Int), k = ckV L lv ∧ x = .agg [.str s, .str c, .int .i64 p] ∧ ckQ L lv ∧ s ∈ L.tree.map hCode ∧ c ∈ lv ∧ (0 ≤ p ∧ p ≤ 100)
noncomputable def earmarkS : PSpec := on_pp earmarkP (fun _ _ => .int .i64 0)
theorem k_earmarkS_91 {args : List PV} : B5 91 args = amongBS args := rfl
theorem k_earmarkS_96 {args : List PV} : B5 96 args = leafCS args := rfl
theorem k_earmarkS_99 {args : List PV} : B5 99 args = hasBS args := rfl
theorem w_earmarkS : PSound GG 76 earmarkS := by
  refine PSound.of_wpc (C := cxP Tryz.prog B5 [] 24) (T := plan0) Tryz.func76 rfl rfl rfl (Fit.pure (G := GG) hB5 mixed) (fun args h => ?_)
  unfold earmarkS at h
  obtain ⟨k, x, rfl, hp⟩ := on_pp_inv h
  refine ⟨by simp [cxP], ?_⟩
  simp only [earmarkS, on_pp_eq, Tryz.f76, argL, plan0]
  obtain ⟨⟨fi, ye, tr, la, lb, lc, ld, le, lf, lg⟩, lv, s, c, p, rfl, rfl, ⟨q1, q2, q3, q4, q5⟩, hs, hc, hm⟩ := hp
  simp only at q1 q2 q3 q4 q5 hs
  have hcon : lv.contains c = true := List.contains_iff_mem.2 hc
  simp only [ckV, chkV, chkLv, lawTree, map_sOf, List.take_succ_cons, List.take_nil, any_ok hs, hcon, amg_ok hm, k_earmarkS_91, amongBS, on_iii_eq, k_earmarkS_96, leafCS, on_ps_eq, k_earmarkS_99, hasBS, Tryz.underlying1, sz1, by1, ze1, Tryz.underlying2, sz2, by2, ze2, Tryz.underlying3, sz3, by3, ze3, Tryz.underlying4, sz4, by4, ze4, Tryz.underlying9, sz9, by9, ze9, Tryz.underlying25, sz25, by25, ze25, Tryz.underlying26, sz26, by26, ze26, Tryz.underlying27, sz27, by27, ze27, Tryz.underlying28, sz28, by28, ze28, Tryz.underlying29, sz29, by29, ze29, Tryz.underlying30, sz30, by30, ze30, Tryz.underlying31, sz31, by31, ze31, Tryz.underlying33, sz33, by33, ze33, fa33_0, fa33_1, fa33_2, fa33_3, fa33_4, fa33_5, fa33_6, fa33_7, fa33_8, fa33_9, Tryz.underlying44, sz44, by44, ze44, Tryz.underlying46, sz46, by46, ze46, Tryz.underlying55, sz55, by55, ze55, fa55_0, fa55_1, Tryz.underlying57, sz57, by57, ze57, fa57_0, fa57_1, fa57_2, fa57_3, fa57_4, fa57_5, fa57_6, Tryz.underlying77, sz77, by77, ze77, fa77_0, fa77_1, fa77_2, Tryz.underlying86, sz86, by86, ze86, fa86_0, fa86_1, fa86_2, Tryz.underlying88, sz88, by88, ze88, fa88_0, fa88_1, fa88_2, fa88_3, Tryz.underlying89, sz89, by89, ze89, fa89_0, fa89_1, fa89_2, Tryz.underlying92, sz92, by92, ze92, fa92_0, fa92_1, fa92_2, fa92_3, Tryz.underlying93, sz93, by93, ze93, Tryz.underlying95, sz95, by95, ze95, fa95_0, fa95_1, fa95_2, Tryz.underlying110, sz110, by110, ze110, fa110_0, fa110_1, go_sem, ↓reduceIte, reduceCtorEq, Nat.reduceEqDiff, Nat.reduceLT, ↓all_qV, Int.reduceToNat, Int.reduceLT, Int.reduceLE, Nat.reduceAdd, Nat.reduceLeDiff, Nat.reduceMul, ev_callG, gcallK_b, gcallK_w, callGc_true, callGc_false, List.forall_mem_cons, List.not_mem_nil, PV.one, AV.one]
  and_intros
  all_goals try first
    | exact ⟨⟨fi, ye, tr, la, lb, lc, ld, le, lf, lg⟩, lv, rfl, q1⟩
    | exact ⟨⟨fi, ye, tr, la, lb, lc, ld, le, lf, lg⟩, rfl, q4, q5, hy⟩
    | exact ⟨⟨fi, ye, tr, la, lb, lc, ld, le, lf, lg⟩, rfl, q2, q3⟩
    | exact fun _ => ⟨⟨fi, ye, tr, la, lb, lc, ld, le, lf, lg⟩, lv, rfl, q1⟩
    | exact fun _ => ⟨⟨fi, ye, tr, la, lb, lc, ld, le, lf, lg⟩, rfl, q4, q5, hy⟩
    | exact fun _ => ⟨⟨fi, ye, tr, la, lb, lc, ld, le, lf, lg⟩, rfl, q2, q3⟩
    | omega | rfl | trivial | (show checkD _ _ _ = true; kernel_rfl)
def condP (k x : PV) : Prop := ∃ (L : Law) (lv : List (List UInt8)) (c : List UInt8) (y am kd d : Int) (s : List UInt8) (l : Int), k = ckV L lv ∧ x = .agg [.str c, .int .i64 y, .int .i64 am, .int .i64 kd, .int .i64 d, .str s, .int .i64 l] ∧ ckQ L lv ∧ c ∈ lv ∧ (L.first ≤ y ∧ y < L.first + L.years) ∧ (0 ≤ am ∧ am ≤ 1000000000000) ∧
  ((kd = 1 ∧ (0 ≤ d ∧ d ≤ 35990) ∧ s = [] ∧ l = 0) ∨ (kd = 2 ∧ d = 0 ∧ s ∈ L.tree.map hCode ∧ (0 ≤ l ∧ l ≤ 1000000000000)))
noncomputable def condCS : PSpec := on_pp condP (fun _ _ => .int .i64 0)
theorem k_condCS_91 {args : List PV} : B5 91 args = amongBS args := rfl
theorem k_condCS_96 {args : List PV} : B5 96 args = leafCS args := rfl
theorem k_condCS_97 {args : List PV} : B5 97 args = inS args := rfl
theorem k_condCS_98 {args : List PV} : B5 98 args = validMS args := rfl
theorem k_condCS_99 {args : List PV} : B5 99 args = hasBS args := rfl
theorem k_condCS_100 {args : List PV} : B5 100 args = dayBS args := rfl
theorem w_condCS : PSound GG 79 condCS := by
  refine PSound.of_wpc (C := cxP Tryz.prog B5 [] 73) (T := plan0) Tryz.func79 rfl rfl rfl (Fit.pure (G := GG) hB5 mixed) (fun args h => ?_)
  unfold condCS at h
  obtain ⟨k, x, rfl, hp⟩ := on_pp_inv h
  refine ⟨by simp [cxP], ?_⟩
  simp only [condCS, on_pp_eq, Tryz.f79, argL, plan0]
  obtain ⟨⟨fi, ye, tr, la, lb, lc, ld, le, lf, lg⟩, lv, c, y, am, kd, d, s, l, rfl, rfl, ⟨q1, q2, q3, q4, q5⟩, hc, hy, hm, hk⟩ := hp
  simp only at q1 q2 q3 q4 q5 hy hk
  have hcon : lv.contains c = true := List.contains_iff_mem.2 hc
  have a1 : amg 1 1 2 = true := by decide
  have a2 : amg 2 1 2 = true := by decide
  have a3 : amg 0 0 35990 = true := by decide
  have v0 : vldM 0 = true := by decide
  have e1 : ((1 : Int) == 2) = false := by decide
  have e2 : (([] : List UInt8) == []) = true := rfl
  have e3 : (([] : List UInt8) != []) = false := rfl
  rcases hk with ⟨rfl, hd, rfl, rfl⟩ | ⟨rfl, rfl, hs, hl⟩
  · simp only [ckV, chkV, chkLv, lawTree, map_sOf, List.take_succ_cons, List.take_nil, hcon, vldM_ok hm, amg_ok hd, a1, v0, e1, e2, e3, bne_self_eq_false, k_condCS_91, amongBS, on_iii_eq, k_condCS_96, leafCS, on_ps_eq, k_condCS_97, inS, on_pi_eq, k_condCS_98, validMS, on_i_eq, k_condCS_99, hasBS, k_condCS_100, dayBS, Tryz.underlying1, sz1, by1, ze1, Tryz.underlying2, sz2, by2, ze2, Tryz.underlying3, sz3, by3, ze3, Tryz.underlying4, sz4, by4, ze4, Tryz.underlying5, sz5, by5, ze5, Tryz.underlying6, sz6, by6, ze6, Tryz.underlying9, sz9, by9, ze9, Tryz.underlying25, sz25, by25, ze25, Tryz.underlying26, sz26, by26, ze26, Tryz.underlying27, sz27, by27, ze27, Tryz.underlying28, sz28, by28, ze28, Tryz.underlying29, sz29, by29, ze29, Tryz.underlying30, sz30, by30, ze30, Tryz.underlying31, sz31, by31, ze31, Tryz.underlying33, sz33, by33, ze33, fa33_0, fa33_1, fa33_2, fa33_3, fa33_4, fa33_5, fa33_6, fa33_7, fa33_8, fa33_9, Tryz.underlying44, sz44, by44, ze44, Tryz.underlying46, sz46, by46, ze46, Tryz.underlying55, sz55, by55, ze55, fa55_0, fa55_1, Tryz.underlying57, sz57, by57, ze57, fa57_0, fa57_1, fa57_2, fa57_3, fa57_4, fa57_5, fa57_6, Tryz.underlying77, sz77, by77, ze77, fa77_0, fa77_1, fa77_2, Tryz.underlying86, sz86, by86, ze86, fa86_0, fa86_1, fa86_2, Tryz.underlying88, sz88, by88, ze88, fa88_0, fa88_1, fa88_2, fa88_3, Tryz.underlying89, sz89, by89, ze89, fa89_0, fa89_1, fa89_2, Tryz.underlying92, sz92, by92, ze92, fa92_0, fa92_1, fa92_2, fa92_3, Tryz.underlying93, sz93, by93, ze93, Tryz.underlying95, sz95, by95, ze95, fa95_0, fa95_1, fa95_2, Tryz.underlying110, sz110, by110, ze110, fa110_0, fa110_1, go_sem, ↓reduceIte, reduceCtorEq, Nat.reduceEqDiff, Nat.reduceLT, ↓all_qV, Int.reduceToNat, Int.reduceLT, Int.reduceLE, Nat.reduceAdd, Nat.reduceLeDiff, Nat.reduceMul, ev_callG, gcallK_b, gcallK_w, callGc_true, callGc_false, List.forall_mem_cons, List.not_mem_nil, PV.one, AV.one]
    and_intros
    all_goals try first
      | exact ⟨⟨fi, ye, tr, la, lb, lc, ld, le, lf, lg⟩, lv, rfl, q1⟩
      | exact ⟨⟨fi, ye, tr, la, lb, lc, ld, le, lf, lg⟩, rfl, q4, q5, hy⟩
      | exact ⟨⟨fi, ye, tr, la, lb, lc, ld, le, lf, lg⟩, rfl, q2, q3⟩
      | exact fun _ => ⟨⟨fi, ye, tr, la, lb, lc, ld, le, lf, lg⟩, lv, rfl, q1⟩
      | exact fun _ => ⟨⟨fi, ye, tr, la, lb, lc, ld, le, lf, lg⟩, rfl, q4, q5, hy⟩
      | exact fun _ => ⟨⟨fi, ye, tr, la, lb, lc, ld, le, lf, lg⟩, rfl, q2, q3⟩
      | omega | rfl | trivial | (show checkD _ _ _ = true; kernel_rfl)
  · simp only [ckV, chkV, chkLv, lawTree, map_sOf, List.take_succ_cons, List.take_nil, hcon, any_ok hs, vldM_ok hm, vldM_ok hl, a2, a3, v0, bne_self_eq_false, k_condCS_91, amongBS, on_iii_eq, k_condCS_96, leafCS, on_ps_eq, k_condCS_97, inS, on_pi_eq, k_condCS_98, validMS, on_i_eq, k_condCS_99, hasBS, k_condCS_100, dayBS, Tryz.underlying1, sz1, by1, ze1, Tryz.underlying2, sz2, by2, ze2, Tryz.underlying3, sz3, by3, ze3, Tryz.underlying4, sz4, by4, ze4, Tryz.underlying5, sz5, by5, ze5, Tryz.underlying6, sz6, by6, ze6, Tryz.underlying9, sz9, by9, ze9, Tryz.underlying25, sz25, by25, ze25, Tryz.underlying26, sz26, by26, ze26, Tryz.underlying27, sz27, by27, ze27, Tryz.underlying28, sz28, by28, ze28, Tryz.underlying29, sz29, by29, ze29, Tryz.underlying30, sz30, by30, ze30, Tryz.underlying31, sz31, by31, ze31, Tryz.underlying33, sz33, by33, ze33, fa33_0, fa33_1, fa33_2, fa33_3, fa33_4, fa33_5, fa33_6, fa33_7, fa33_8, fa33_9, Tryz.underlying44, sz44, by44, ze44, Tryz.underlying46, sz46, by46, ze46, Tryz.underlying55, sz55, by55, ze55, fa55_0, fa55_1, Tryz.underlying57, sz57, by57, ze57, fa57_0, fa57_1, fa57_2, fa57_3, fa57_4, fa57_5, fa57_6, Tryz.underlying77, sz77, by77, ze77, fa77_0, fa77_1, fa77_2, Tryz.underlying86, sz86, by86, ze86, fa86_0, fa86_1, fa86_2, Tryz.underlying88, sz88, by88, ze88, fa88_0, fa88_1, fa88_2, fa88_3, Tryz.underlying89, sz89, by89, ze89, fa89_0, fa89_1, fa89_2, Tryz.underlying92, sz92, by92, ze92, fa92_0, fa92_1, fa92_2, fa92_3, Tryz.underlying93, sz93, by93, ze93, Tryz.underlying95, sz95, by95, ze95, fa95_0, fa95_1, fa95_2, Tryz.underlying110, sz110, by110, ze110, fa110_0, fa110_1, go_sem, ↓reduceIte, reduceCtorEq, Nat.reduceEqDiff, Nat.reduceLT, ↓all_qV, Int.reduceToNat, Int.reduceLT, Int.reduceLE, Nat.reduceAdd, Nat.reduceLeDiff, Nat.reduceMul, ev_callG, gcallK_b, gcallK_w, callGc_true, callGc_false, List.forall_mem_cons, List.not_mem_nil, PV.one, AV.one]
    and_intros
    all_goals try first
      | exact ⟨⟨fi, ye, tr, la, lb, lc, ld, le, lf, lg⟩, lv, rfl, q1⟩
      | exact ⟨⟨fi, ye, tr, la, lb, lc, ld, le, lf, lg⟩, rfl, q4, q5, hy⟩
      | exact ⟨⟨fi, ye, tr, la, lb, lc, ld, le, lf, lg⟩, rfl, q2, q3⟩
      | exact fun _ => ⟨⟨fi, ye, tr, la, lb, lc, ld, le, lf, lg⟩, lv, rfl, q1⟩
      | exact fun _ => ⟨⟨fi, ye, tr, la, lb, lc, ld, le, lf, lg⟩, rfl, q4, q5, hy⟩
      | exact fun _ => ⟨⟨fi, ye, tr, la, lb, lc, ld, le, lf, lg⟩, rfl, q2, q3⟩
      | omega | rfl | trivial | (show checkD _ _ _ = true; kernel_rfl)
def rulP (k x : PV) : Prop := ∃ (L : Law) (lv : List (List UInt8)) (n : Int) (s c : List UInt8) (p : Int), k = ckV L lv ∧ x = .agg [.int .i64 n, .str s, .str c, .int .i64 p] ∧ ckQ L lv ∧ s ∈ L.tree.map hCode ∧ c ∈ L.tree.map hCode ∧ (1 ≤ n ∧ n ≤ 1000000) ∧ (0 ≤ p ∧ p ≤ 100)
noncomputable def ruleCS : PSpec := on_pp rulP (fun _ _ => .int .i64 0)
theorem k_ruleCS_91 {args : List PV} : B5 91 args = amongBS args := rfl
theorem k_ruleCS_99 {args : List PV} : B5 99 args = hasBS args := rfl
theorem k_ruleCS_101 {args : List PV} : B5 101 args = numberBS args := rfl
theorem w_ruleCS : PSound GG 82 ruleCS := by
  refine PSound.of_wpc (C := cxP Tryz.prog B5 [] 31) (T := plan0) Tryz.func82 rfl rfl rfl (Fit.pure (G := GG) hB5 mixed) (fun args h => ?_)
  unfold ruleCS at h
  obtain ⟨k, x, rfl, hp⟩ := on_pp_inv h
  refine ⟨by simp [cxP], ?_⟩
  simp only [ruleCS, on_pp_eq, Tryz.f82, argL, plan0]
  obtain ⟨⟨fi, ye, tr, la, lb, lc, ld, le, lf, lg⟩, lv, n, s, c, p, rfl, rfl, ⟨q1, q2, q3, q4, q5⟩, hs, hc, hn, hm⟩ := hp
  simp only at q1 q2 q3 q4 q5 hs hc
  simp only [ckV, chkV, chkLv, lawTree, map_sOf, List.take_succ_cons, List.take_nil, any_ok hs, any_ok hc, amg_ok hn, amg_ok hm, k_ruleCS_91, amongBS, on_iii_eq, k_ruleCS_99, hasBS, on_ps_eq, k_ruleCS_101, numberBS, on_i_eq, Tryz.underlying1, sz1, by1, ze1, Tryz.underlying2, sz2, by2, ze2, Tryz.underlying3, sz3, by3, ze3, Tryz.underlying4, sz4, by4, ze4, Tryz.underlying9, sz9, by9, ze9, Tryz.underlying25, sz25, by25, ze25, Tryz.underlying26, sz26, by26, ze26, Tryz.underlying27, sz27, by27, ze27, Tryz.underlying28, sz28, by28, ze28, Tryz.underlying29, sz29, by29, ze29, Tryz.underlying30, sz30, by30, ze30, Tryz.underlying31, sz31, by31, ze31, Tryz.underlying33, sz33, by33, ze33, fa33_0, fa33_1, fa33_2, fa33_3, fa33_4, fa33_5, fa33_6, fa33_7, fa33_8, fa33_9, Tryz.underlying44, sz44, by44, ze44, Tryz.underlying46, sz46, by46, ze46, Tryz.underlying55, sz55, by55, ze55, fa55_0, fa55_1, Tryz.underlying57, sz57, by57, ze57, fa57_0, fa57_1, fa57_2, fa57_3, fa57_4, fa57_5, fa57_6, Tryz.underlying77, sz77, by77, ze77, fa77_0, fa77_1, fa77_2, Tryz.underlying86, sz86, by86, ze86, fa86_0, fa86_1, fa86_2, Tryz.underlying88, sz88, by88, ze88, fa88_0, fa88_1, fa88_2, fa88_3, Tryz.underlying89, sz89, by89, ze89, fa89_0, fa89_1, fa89_2, Tryz.underlying92, sz92, by92, ze92, fa92_0, fa92_1, fa92_2, fa92_3, Tryz.underlying93, sz93, by93, ze93, Tryz.underlying95, sz95, by95, ze95, fa95_0, fa95_1, fa95_2, Tryz.underlying110, sz110, by110, ze110, fa110_0, fa110_1, go_sem, ↓reduceIte, reduceCtorEq, Nat.reduceEqDiff, Nat.reduceLT, ↓all_qV, Int.reduceToNat, Int.reduceLT, Int.reduceLE, Nat.reduceAdd, Nat.reduceLeDiff, Nat.reduceMul, ev_callG, gcallK_b, gcallK_w, callGc_true, callGc_false, List.forall_mem_cons, List.not_mem_nil, PV.one, AV.one]
  and_intros
  all_goals try first
    | exact ⟨⟨fi, ye, tr, la, lb, lc, ld, le, lf, lg⟩, lv, rfl, q1⟩
    | exact ⟨⟨fi, ye, tr, la, lb, lc, ld, le, lf, lg⟩, rfl, q4, q5, hy⟩
    | exact ⟨⟨fi, ye, tr, la, lb, lc, ld, le, lf, lg⟩, rfl, q2, q3⟩
    | exact fun _ => ⟨⟨fi, ye, tr, la, lb, lc, ld, le, lf, lg⟩, lv, rfl, q1⟩
    | exact fun _ => ⟨⟨fi, ye, tr, la, lb, lc, ld, le, lf, lg⟩, rfl, q4, q5, hy⟩
    | exact fun _ => ⟨⟨fi, ye, tr, la, lb, lc, ld, le, lf, lg⟩, rfl, q2, q3⟩
    | omega | rfl | trivial | (show checkD _ _ _ = true; kernel_rfl)
def changeP (k x : PV) : Prop := ∃ (L : Law) (lv : List (List UInt8)) (c : List UInt8) (y m : Int), k = ckV L lv ∧ x = .agg [.int .i64 1, .str c, .int .i64 y, .int .i64 m] ∧ ckQ L lv ∧ c ∈ L.tree.map hCode ∧ c ∈ lv ∧ (L.first ≤ y ∧ y < L.first + L.years) ∧ (0 ≤ m ∧ m ≤ 1000000000000)
noncomputable def changeS : PSpec := on_pp changeP (fun _ _ => .int .i64 0)
theorem k_changeS_91 {args : List PV} : B5 91 args = amongBS args := rfl
theorem k_changeS_96 {args : List PV} : B5 96 args = leafCS args := rfl
theorem k_changeS_97 {args : List PV} : B5 97 args = inS args := rfl
theorem k_changeS_98 {args : List PV} : B5 98 args = validMS args := rfl
theorem k_changeS_99 {args : List PV} : B5 99 args = hasBS args := rfl
theorem w_changeS : PSound GG 105 changeS := by
  refine PSound.of_wpc (C := cxP Tryz.prog B5 [] 61) (T := plan0) Tryz.func105 rfl rfl rfl (Fit.pure (G := GG) hB5 mixed) (fun args h => ?_)
  unfold changeS at h
  obtain ⟨k, x, rfl, hp⟩ := on_pp_inv h
  refine ⟨by simp [cxP], ?_⟩
  simp only [changeS, on_pp_eq, Tryz.f105, argL, plan0]
  obtain ⟨⟨fi, ye, tr, la, lb, lc, ld, le, lf, lg⟩, lv, c, y, m, rfl, rfl, ⟨q1, q2, q3, q4, q5⟩, hs, hc, hy, hm⟩ := hp
  simp only at q1 q2 q3 q4 q5 hs hy
  have hcon : lv.contains c = true := List.contains_iff_mem.2 hc
  have a1 : amg 1 1 3 = true := by decide
  have e1 : ((1 : Int) == 1) = true := by decide
  have e3 : ((1 : Int) == 2) = false := by decide
  have e4 : ((1 : Int) != 2) = true := by decide
  simp only [ckV, chkV, chkLv, lawTree, map_sOf, List.take_succ_cons, List.take_nil, any_ok hs, hcon, vldM_ok hm, a1, e1, e3, e4, k_changeS_91, amongBS, on_iii_eq, k_changeS_96, leafCS, on_ps_eq, k_changeS_97, inS, on_pi_eq, k_changeS_98, validMS, on_i_eq, k_changeS_99, hasBS, Tryz.underlying1, sz1, by1, ze1, Tryz.underlying2, sz2, by2, ze2, Tryz.underlying3, sz3, by3, ze3, Tryz.underlying4, sz4, by4, ze4, Tryz.underlying9, sz9, by9, ze9, Tryz.underlying25, sz25, by25, ze25, Tryz.underlying26, sz26, by26, ze26, Tryz.underlying27, sz27, by27, ze27, Tryz.underlying28, sz28, by28, ze28, Tryz.underlying29, sz29, by29, ze29, Tryz.underlying30, sz30, by30, ze30, Tryz.underlying31, sz31, by31, ze31, Tryz.underlying33, sz33, by33, ze33, fa33_0, fa33_1, fa33_2, fa33_3, fa33_4, fa33_5, fa33_6, fa33_7, fa33_8, fa33_9, Tryz.underlying44, sz44, by44, ze44, Tryz.underlying46, sz46, by46, ze46, Tryz.underlying55, sz55, by55, ze55, fa55_0, fa55_1, Tryz.underlying57, sz57, by57, ze57, fa57_0, fa57_1, fa57_2, fa57_3, fa57_4, fa57_5, fa57_6, Tryz.underlying77, sz77, by77, ze77, fa77_0, fa77_1, fa77_2, Tryz.underlying86, sz86, by86, ze86, fa86_0, fa86_1, fa86_2, Tryz.underlying88, sz88, by88, ze88, fa88_0, fa88_1, fa88_2, fa88_3, Tryz.underlying89, sz89, by89, ze89, fa89_0, fa89_1, fa89_2, Tryz.underlying92, sz92, by92, ze92, fa92_0, fa92_1, fa92_2, fa92_3, Tryz.underlying93, sz93, by93, ze93, Tryz.underlying95, sz95, by95, ze95, fa95_0, fa95_1, fa95_2, Tryz.underlying110, sz110, by110, ze110, fa110_0, fa110_1, go_sem, ↓reduceIte, reduceCtorEq, Nat.reduceEqDiff, Nat.reduceLT, ↓all_qV, Int.reduceToNat, Int.reduceLT, Int.reduceLE, Nat.reduceAdd, Nat.reduceLeDiff, Nat.reduceMul, ev_callG, gcallK_b, gcallK_w, callGc_true, callGc_false, List.forall_mem_cons, List.not_mem_nil, PV.one, AV.one]
  and_intros
  all_goals try first
    | exact ⟨⟨fi, ye, tr, la, lb, lc, ld, le, lf, lg⟩, lv, rfl, q1⟩
    | exact ⟨⟨fi, ye, tr, la, lb, lc, ld, le, lf, lg⟩, rfl, q4, q5, hy⟩
    | exact ⟨⟨fi, ye, tr, la, lb, lc, ld, le, lf, lg⟩, rfl, q2, q3⟩
    | exact fun _ => ⟨⟨fi, ye, tr, la, lb, lc, ld, le, lf, lg⟩, lv, rfl, q1⟩
    | exact fun _ => ⟨⟨fi, ye, tr, la, lb, lc, ld, le, lf, lg⟩, rfl, q4, q5, hy⟩
    | exact fun _ => ⟨⟨fi, ye, tr, la, lb, lc, ld, le, lf, lg⟩, rfl, q2, q3⟩
    | omega | rfl | trivial | (show checkD _ _ _ = true; kernel_rfl)
noncomputable def B6 (g : FuncId) : PSpec := (putΦ (putΦ (putΦ (putΦ (putΦ (putΦ B5 70 lineS) 73 boundS) 76 earmarkS) 79 condCS) 82 ruleCS) 105 changeS) g
theorem hB6 : TabSound GG B6 := ((((((hB5.put w_lineS).put w_boundS).put w_earmarkS).put w_condCS).put w_ruleCS).put w_changeS)
end Go.AM
