/-
  A part of a proof: see the last text of this claim for what is proved.
-/
import Derived.Test.YtcmkdpdinjkokaaGreatDoorX7d
import Derived.Test.YtcmkdpdinjkokaaGreatDoorZMa
/-! budget: shares, years, amendments -/
namespace Go.AM
open Go Go.Proofs Go.IntWalk
set_option maxRecDepth 100000
set_option maxHeartbeats 2000000
set_option linter.unusedSimpArgs false
set_option linter.unusedVariables false
theorem take_one {l : List PV} {k : Nat} (h : k < l.length) (f : PV → Int) : sumL ((l.take (k + 1)).map f) = sumL ((l.take k).map f) + f (l.getD k default) := by
  rw [List.take_add_one, List.map_append, sumL_append]
  simp [List.getElem?_eq_getElem h, List.getD_eq_getElem?_getD, sumL]
def sharesP (k : PV) : Prop := ∃ L lv, k = ckV L lv ∧ lv.length ≤ 1000 ∧ (∀ s, s ∈ lv → s.length ≤ 1000) ∧ L.d.length ≤ 1000 ∧ (∀ x, x ∈ L.d → isEp x) ∧ ∀ s, s ∈ lv → sumL (L.d.map (shV s)) ≤ 100
noncomputable def sharesCS : PSpec := on_p sharesP (fun _ => .int .i64 0)
theorem k_sharesCS_50 {args : List PV} : B9 50 args = underCS args := rfl
theorem w_sharesCS : PSound GG 77 sharesCS := by
  refine PSound.of_wpc (C := cxP Tryz.prog B9 [] 35) (T := plan0) Tryz.func77 rfl rfl rfl (Fit.pure (G := GG) hB9 mixed) (fun args h => ?_)
  unfold sharesCS at h
  obtain ⟨k, rfl, hp⟩ := on_p_inv h
  refine ⟨by simp [cxP], ?_⟩
  simp only [sharesCS, on_p_eq, Tryz.f77, argL, plan0]
  obtain ⟨⟨fi, ye, tr, la, lb, lc, ld, le, lf, lg⟩, lv, rfl, hl, hls, hdl, hd, hsum⟩ := hp
  simp only at hdl hd hsum
  simp only [ckV, chkV, List.length_map, Tryz.underlying1, sz1, by1, ze1, Tryz.underlying2, sz2, by2, ze2, Tryz.underlying3, sz3, by3, ze3, Tryz.underlying4, sz4, by4, ze4, Tryz.underlying6, sz6, by6, ze6, Tryz.underlying9, sz9, by9, ze9, Tryz.underlying25, sz25, by25, ze25, Tryz.underlying26, sz26, by26, ze26, Tryz.underlying27, sz27, by27, ze27, Tryz.underlying28, sz28, by28, ze28, Tryz.underlying29, sz29, by29, ze29, Tryz.underlying30, sz30, by30, ze30, Tryz.underlying31, sz31, by31, ze31, Tryz.underlying33, sz33, by33, ze33, fa33_0, fa33_1, fa33_2, fa33_3, fa33_4, fa33_5, fa33_6, fa33_7, fa33_8, fa33_9, Tryz.underlying44, sz44, by44, ze44, Tryz.underlying46, sz46, by46, ze46, Tryz.underlying55, sz55, by55, ze55, fa55_0, fa55_1, Tryz.underlying57, sz57, by57, ze57, fa57_0, fa57_1, fa57_2, fa57_3, fa57_4, fa57_5, fa57_6, Tryz.underlying77, sz77, by77, ze77, fa77_0, fa77_1, fa77_2, Tryz.underlying86, sz86, by86, ze86, fa86_0, fa86_1, fa86_2, Tryz.underlying88, sz88, by88, ze88, fa88_0, fa88_1, fa88_2, fa88_3, Tryz.underlying89, sz89, by89, ze89, fa89_0, fa89_1, fa89_2, Tryz.underlying92, sz92, by92, ze92, fa92_0, fa92_1, fa92_2, fa92_3, Tryz.underlying93, sz93, by93, ze93, Tryz.underlying95, sz95, by95, ze95, fa95_0, fa95_1, fa95_2, Tryz.underlying110, sz110, by110, ze110, fa110_0, fa110_1, go_sem, ↓reduceIte, reduceCtorEq, Nat.reduceEqDiff, Nat.reduceLT, ↓all_qV, Int.reduceToNat, Int.reduceLT, Int.reduceLE, Nat.reduceAdd, Nat.reduceLeDiff, Nat.reduceMul]
  refine AWp.loop (T := plan0) (α := Nat) (fun i => ([(1, .ptr 1 0), (9, .pv (.sl (lv.map PV.str))), (10, .pv (.int .i64 lv.length)), (11, .pv (.int .i64 i))], [(1, .cells [.pv (.int .i64 fi), .pv (.int .i64 ye), .pv (.sl tr), .pv (.sl la), .pv (.sl lb), .pv (.sl lc), .pv (.sl ld), .pv (.sl le), .pv (.sl lf), .pv (.sl lg), .pv (.sl (lv.map PV.str))])])) (fun i => i ≤ lv.length) (fun i => lv.length - i)
    ⟨0, Nat.zero_le _, ⟨by simp [fitR, look], by simp [fitH, hget], rfl, rfl, rfl⟩⟩ ?_
  intro i h1
  have hi1 : IntKind.i64.wrap ((i : Int) + 1) = ((i + 1 : Nat) : Int) := by rw [i64_in _ (by omega)]; omega
  by_cases hlt : i < lv.length
  · have c0 : decide ((i : Int) < (lv.length : Int)) = true := by simp; omega
    have hg := getD_strs hlt
    have hsm : lv.getD i [] ∈ lv := by rw [List.getD_eq_getElem?_getD, List.getElem?_eq_getElem hlt]; exact List.getElem_mem _
    have hs1 := hls _ hsm
    have hs2 := hsum _ hsm
    generalize lv.getD i [] = s at hg hs1 hs2
    simp only [c0, hg, List.length_map, Tryz.underlying1, sz1, by1, ze1, Tryz.underlying2, sz2, by2, ze2, Tryz.underlying3, sz3, by3, ze3, Tryz.underlying4, sz4, by4, ze4, Tryz.underlying6, sz6, by6, ze6, Tryz.underlying9, sz9, by9, ze9, Tryz.underlying25, sz25, by25, ze25, Tryz.underlying26, sz26, by26, ze26, Tryz.underlying27, sz27, by27, ze27, Tryz.underlying28, sz28, by28, ze28, Tryz.underlying29, sz29, by29, ze29, Tryz.underlying30, sz30, by30, ze30, Tryz.underlying31, sz31, by31, ze31, Tryz.underlying33, sz33, by33, ze33, fa33_0, fa33_1, fa33_2, fa33_3, fa33_4, fa33_5, fa33_6, fa33_7, fa33_8, fa33_9, Tryz.underlying44, sz44, by44, ze44, Tryz.underlying46, sz46, by46, ze46, Tryz.underlying55, sz55, by55, ze55, fa55_0, fa55_1, Tryz.underlying57, sz57, by57, ze57, fa57_0, fa57_1, fa57_2, fa57_3, fa57_4, fa57_5, fa57_6, Tryz.underlying77, sz77, by77, ze77, fa77_0, fa77_1, fa77_2, Tryz.underlying86, sz86, by86, ze86, fa86_0, fa86_1, fa86_2, Tryz.underlying88, sz88, by88, ze88, fa88_0, fa88_1, fa88_2, fa88_3, Tryz.underlying89, sz89, by89, ze89, fa89_0, fa89_1, fa89_2, Tryz.underlying92, sz92, by92, ze92, fa92_0, fa92_1, fa92_2, fa92_3, Tryz.underlying93, sz93, by93, ze93, Tryz.underlying95, sz95, by95, ze95, fa95_0, fa95_1, fa95_2, Tryz.underlying110, sz110, by110, ze110, fa110_0, fa110_1, plan0, go_sem, ↓reduceIte, reduceCtorEq, Nat.reduceEqDiff, Nat.reduceLT, ↓all_qV, Int.reduceToNat, Int.reduceLT, Int.reduceLE, Nat.reduceAdd, Nat.reduceLeDiff, Nat.reduceMul]
    refine ⟨by omega, ?_⟩
    refine AWp.loop (T := plan0) (α := Nat) (fun j => ([(1, .ptr 1 0), (4, .pv (.str s)), (5, .pv (.int .i64 (sumL ((ld.take j).map (shV s))))), (9, .pv (.sl (lv.map PV.str))), (10, .pv (.int .i64 lv.length)), (11, .pv (.int .i64 i)), (17, .pv (.sl ld)), (18, .pv (.int .i64 ld.length)), (19, .pv (.int .i64 j))], [(1, .cells [.pv (.int .i64 fi), .pv (.int .i64 ye), .pv (.sl tr), .pv (.sl la), .pv (.sl lb), .pv (.sl lc), .pv (.sl ld), .pv (.sl le), .pv (.sl lf), .pv (.sl lg), .pv (.sl (lv.map PV.str))])])) (fun j => j ≤ ld.length) (fun j => ld.length - j)
      ⟨0, Nat.zero_le _, ⟨by simp [fitR, look, sumL], by simp [fitH, hget], rfl, rfl, rfl⟩⟩ ?_
    intro j h2
    have hj1 : IntKind.i64.wrap ((j : Int) + 1) = ((j + 1 : Nat) : Int) := by rw [i64_in _ (by omega)]; omega
    by_cases jlt : j < ld.length
    · have c1 : decide ((j : Int) < (ld.length : Int)) = true := by simp; omega
      obtain ⟨t, c, p, he, ht, hp⟩ := hd _ (getD_mem jlt)
      have hone := take_one jlt (shV s)
      have hb := sh_bound (leaf := s) (ld.take j) (fun x hx => hd x (List.mem_of_mem_take hx))
      have hbl : (ld.take j).length ≤ 1000 := by rw [List.length_take]; omega
      rw [he] at hone
      have hv : shV s (.agg [.str t, .str c, .int .i64 p]) = if undC s t = true then p else 0 := rfl
      rw [hv] at hone
      generalize sumL ((ld.take j).map (shV s)) = acc at hone hb ⊢
      have hw : IntKind.i64.wrap (acc + p) = acc + p := i64_in _ (by omega)
      simp only [c1, he, hj1, hw, List.length_map, List.take_succ_cons, List.take_nil, k_sharesCS_50, underCS, on_ss_eq, Tryz.underlying1, sz1, by1, ze1, Tryz.underlying2, sz2, by2, ze2, Tryz.underlying3, sz3, by3, ze3, Tryz.underlying4, sz4, by4, ze4, Tryz.underlying6, sz6, by6, ze6, Tryz.underlying9, sz9, by9, ze9, Tryz.underlying25, sz25, by25, ze25, Tryz.underlying26, sz26, by26, ze26, Tryz.underlying27, sz27, by27, ze27, Tryz.underlying28, sz28, by28, ze28, Tryz.underlying29, sz29, by29, ze29, Tryz.underlying30, sz30, by30, ze30, Tryz.underlying31, sz31, by31, ze31, Tryz.underlying33, sz33, by33, ze33, fa33_0, fa33_1, fa33_2, fa33_3, fa33_4, fa33_5, fa33_6, fa33_7, fa33_8, fa33_9, Tryz.underlying44, sz44, by44, ze44, Tryz.underlying46, sz46, by46, ze46, Tryz.underlying55, sz55, by55, ze55, fa55_0, fa55_1, Tryz.underlying57, sz57, by57, ze57, fa57_0, fa57_1, fa57_2, fa57_3, fa57_4, fa57_5, fa57_6, Tryz.underlying77, sz77, by77, ze77, fa77_0, fa77_1, fa77_2, Tryz.underlying86, sz86, by86, ze86, fa86_0, fa86_1, fa86_2, Tryz.underlying88, sz88, by88, ze88, fa88_0, fa88_1, fa88_2, fa88_3, Tryz.underlying89, sz89, by89, ze89, fa89_0, fa89_1, fa89_2, Tryz.underlying92, sz92, by92, ze92, fa92_0, fa92_1, fa92_2, fa92_3, Tryz.underlying93, sz93, by93, ze93, Tryz.underlying95, sz95, by95, ze95, fa95_0, fa95_1, fa95_2, Tryz.underlying110, sz110, by110, ze110, fa110_0, fa110_1, plan0, go_sem, ↓reduceIte, reduceCtorEq, Nat.reduceEqDiff, Nat.reduceLT, ↓all_qV, Int.reduceToNat, Int.reduceLT, Int.reduceLE, Nat.reduceAdd, Nat.reduceLeDiff, Nat.reduceMul, ev_callG, gcallK_b, gcallK_w, callGc_true, callGc_false, List.forall_mem_cons, List.not_mem_nil, PV.one, AV.one]
      and_intros
      all_goals try first | omega | trivial
      · intro hu
        rw [if_pos hu] at hone
        refine ⟨j + 1, by omega, by omega, ⟨?_, by simp [fitH, hget], rfl, rfl, rfl⟩⟩
        rw [hone]; simp [fitR, look]
      · intro hu
        rw [if_neg (by rw [hu]; decide), Int.add_zero] at hone
        refine ⟨j + 1, by omega, by omega, ⟨?_, by simp [fitH, hget], rfl, rfl, rfl⟩⟩
        rw [hone]; simp [fitR, look]
    · have c1 : decide ((j : Int) < (ld.length : Int)) = false := by simp; omega
      rw [List.take_of_length_le (by omega : ld.length ≤ j)]
      have c2 : decide ((100 : Int) < sumL (ld.map (shV s))) = false := by simp; omega
      simp only [c1, c2, hi1, List.length_map, Tryz.underlying1, sz1, by1, ze1, Tryz.underlying2, sz2, by2, ze2, Tryz.underlying3, sz3, by3, ze3, Tryz.underlying4, sz4, by4, ze4, Tryz.underlying6, sz6, by6, ze6, Tryz.underlying9, sz9, by9, ze9, Tryz.underlying25, sz25, by25, ze25, Tryz.underlying26, sz26, by26, ze26, Tryz.underlying27, sz27, by27, ze27, Tryz.underlying28, sz28, by28, ze28, Tryz.underlying29, sz29, by29, ze29, Tryz.underlying30, sz30, by30, ze30, Tryz.underlying31, sz31, by31, ze31, Tryz.underlying33, sz33, by33, ze33, fa33_0, fa33_1, fa33_2, fa33_3, fa33_4, fa33_5, fa33_6, fa33_7, fa33_8, fa33_9, Tryz.underlying44, sz44, by44, ze44, Tryz.underlying46, sz46, by46, ze46, Tryz.underlying55, sz55, by55, ze55, fa55_0, fa55_1, Tryz.underlying57, sz57, by57, ze57, fa57_0, fa57_1, fa57_2, fa57_3, fa57_4, fa57_5, fa57_6, Tryz.underlying77, sz77, by77, ze77, fa77_0, fa77_1, fa77_2, Tryz.underlying86, sz86, by86, ze86, fa86_0, fa86_1, fa86_2, Tryz.underlying88, sz88, by88, ze88, fa88_0, fa88_1, fa88_2, fa88_3, Tryz.underlying89, sz89, by89, ze89, fa89_0, fa89_1, fa89_2, Tryz.underlying92, sz92, by92, ze92, fa92_0, fa92_1, fa92_2, fa92_3, Tryz.underlying93, sz93, by93, ze93, Tryz.underlying95, sz95, by95, ze95, fa95_0, fa95_1, fa95_2, Tryz.underlying110, sz110, by110, ze110, fa110_0, fa110_1, plan0, go_sem, ↓reduceIte, reduceCtorEq, Nat.reduceEqDiff, Nat.reduceLT, ↓all_qV, Int.reduceToNat, Int.reduceLT, Int.reduceLE, Nat.reduceAdd, Nat.reduceLeDiff, Nat.reduceMul, ev_callG, gcallK_b, gcallK_w, callGc_true, callGc_false, List.forall_mem_cons, List.not_mem_nil, PV.one, AV.one]
      exact ⟨i + 1, by omega, by omega, ⟨by simp [fitR, look], by simp [fitH, hget], rfl, rfl, rfl⟩⟩
  · have c0 : decide ((i : Int) < (lv.length : Int)) = false := by simp; omega
    simp only [c0, List.length_map, Tryz.underlying1, sz1, by1, ze1, Tryz.underlying2, sz2, by2, ze2, Tryz.underlying3, sz3, by3, ze3, Tryz.underlying4, sz4, by4, ze4, Tryz.underlying6, sz6, by6, ze6, Tryz.underlying9, sz9, by9, ze9, Tryz.underlying25, sz25, by25, ze25, Tryz.underlying26, sz26, by26, ze26, Tryz.underlying27, sz27, by27, ze27, Tryz.underlying28, sz28, by28, ze28, Tryz.underlying29, sz29, by29, ze29, Tryz.underlying30, sz30, by30, ze30, Tryz.underlying31, sz31, by31, ze31, Tryz.underlying33, sz33, by33, ze33, fa33_0, fa33_1, fa33_2, fa33_3, fa33_4, fa33_5, fa33_6, fa33_7, fa33_8, fa33_9, Tryz.underlying44, sz44, by44, ze44, Tryz.underlying46, sz46, by46, ze46, Tryz.underlying55, sz55, by55, ze55, fa55_0, fa55_1, Tryz.underlying57, sz57, by57, ze57, fa57_0, fa57_1, fa57_2, fa57_3, fa57_4, fa57_5, fa57_6, Tryz.underlying77, sz77, by77, ze77, fa77_0, fa77_1, fa77_2, Tryz.underlying86, sz86, by86, ze86, fa86_0, fa86_1, fa86_2, Tryz.underlying88, sz88, by88, ze88, fa88_0, fa88_1, fa88_2, fa88_3, Tryz.underlying89, sz89, by89, ze89, fa89_0, fa89_1, fa89_2, Tryz.underlying92, sz92, by92, ze92, fa92_0, fa92_1, fa92_2, fa92_3, Tryz.underlying93, sz93, by93, ze93, Tryz.underlying95, sz95, by95, ze95, fa95_0, fa95_1, fa95_2, Tryz.underlying110, sz110, by110, ze110, fa110_0, fa110_1, plan0, go_sem, ↓reduceIte, reduceCtorEq, Nat.reduceEqDiff, Nat.reduceLT, ↓all_qV, Int.reduceToNat, Int.reduceLT, Int.reduceLE, Nat.reduceAdd, Nat.reduceLeDiff, Nat.reduceMul]
def yearsP (k : PV) : Prop := ∃ L : Law, k = ckV L [] ∧ (0 ≤ L.first ∧ L.first ≤ 99) ∧ (1 ≤ L.years ∧ L.years ≤ 4) ∧ L.first + L.years ≤ 100 ∧ (∀ e, e ∈ L.tree → isHn e) ∧ L.tree.length ≤ 1000 ∧ (fstF L.tree).2 = 0 ∧ L.a.length ≤ 120 ∧ L.b.length ≤ 60 ∧ L.c.length ≤ 60 ∧ L.d.length ≤ 20 ∧ L.e.length ≤ 20 ∧ L.f.length ≤ 20 ∧ L.g.length ≤ 20 ∧ ∀ x, x ∈ L.g → isA3 x
noncomputable def yearsCS : PSpec := on_p yearsP (fun _ => .int .i64 0)
theorem k_yearsCS_91 {args : List PV} : B9 91 args = amongBS args := rfl
theorem k_yearsCS_92 {args : List PV} : B9 92 args = validCS args := rfl
theorem k_yearsCS_93 {args : List PV} : B9 93 args = largeS args := rfl
theorem k_yearsCS_94 {args : List PV} : B9 94 args = cfaS args := rfl
theorem w_yearsCS : PSound GG 64 yearsCS := by
  refine PSound.of_wpc (C := cxP Tryz.prog B9 [] 78) (T := plan0) Tryz.func64 rfl rfl rfl (Fit.pure (G := GG) hB9 mixed) (fun args h => ?_)
  unfold yearsCS at h
  obtain ⟨k, rfl, hp⟩ := on_p_inv h
  refine ⟨by simp [cxP], ?_⟩
  simp only [yearsCS, on_p_eq, Tryz.f64, argL, plan0]
  obtain ⟨⟨fi, ye, tr, la, lb, lc, ld, le, lf, lg⟩, rfl, h1, h2, h3, h4, h5, h6, h7, h8, h9, h10, h11, h12, h13, h14⟩ := hp
  simp only at h1 h2 h3 h4 h5 h6 h7 h8 h9 h10 h11 h12 h13 h14
  have w1 : IntKind.i64.wrap (fi + ye) = fi + ye := i64_in _ (by omega)
  have c1 : decide ((100 : Int) < fi + ye) = false := by simp; omega
  have c2 : decide ((120 : Int) < (la.length : Int)) = false := by simp; omega
  have c3 : decide ((60 : Int) < (lb.length : Int)) = false := by simp; omega
  have c4 : decide ((60 : Int) < (lc.length : Int)) = false := by simp; omega
  have c5 : decide ((20 : Int) < (ld.length : Int)) = false := by simp; omega
  have c6 : decide ((20 : Int) < (le.length : Int)) = false := by simp; omega
  have c7 : decide ((20 : Int) < (lf.length : Int)) = false := by simp; omega
  have c8 : decide ((20 : Int) < (lg.length : Int)) = false := by simp; omega
  simp only [ckV, chkV, w1, c1, c2, c3, c4, c5, c6, c7, c8, amg_ok h1, amg_ok h2, h6, bne_self_eq_false, List.take_succ_cons, List.take_nil, k_yearsCS_91, amongBS, on_iii_eq, k_yearsCS_92, validCS, on_l_eq, k_yearsCS_93, largeS, on_p_eq, k_yearsCS_94, cfaS, on_lp_eq, Tryz.underlying1, sz1, by1, ze1, Tryz.underlying2, sz2, by2, ze2, Tryz.underlying3, sz3, by3, ze3, Tryz.underlying4, sz4, by4, ze4, Tryz.underlying5, sz5, by5, ze5, Tryz.underlying6, sz6, by6, ze6, Tryz.underlying7, sz7, by7, ze7, fa7_0, fa7_1, fa7_2, fa7_3, Tryz.underlying8, sz8, by8, ze8, fa8_0, fa8_1, fa8_2, fa8_3, Tryz.underlying9, sz9, by9, ze9, Tryz.underlying25, sz25, by25, ze25, Tryz.underlying26, sz26, by26, ze26, Tryz.underlying27, sz27, by27, ze27, Tryz.underlying28, sz28, by28, ze28, Tryz.underlying29, sz29, by29, ze29, Tryz.underlying30, sz30, by30, ze30, Tryz.underlying31, sz31, by31, ze31, Tryz.underlying33, sz33, by33, ze33, fa33_0, fa33_1, fa33_2, fa33_3, fa33_4, fa33_5, fa33_6, fa33_7, fa33_8, fa33_9, Tryz.underlying44, sz44, by44, ze44, Tryz.underlying46, sz46, by46, ze46, Tryz.underlying55, sz55, by55, ze55, fa55_0, fa55_1, Tryz.underlying57, sz57, by57, ze57, fa57_0, fa57_1, fa57_2, fa57_3, fa57_4, fa57_5, fa57_6, Tryz.underlying77, sz77, by77, ze77, fa77_0, fa77_1, fa77_2, Tryz.underlying86, sz86, by86, ze86, fa86_0, fa86_1, fa86_2, Tryz.underlying88, sz88, by88, ze88, fa88_0, fa88_1, fa88_2, fa88_3, Tryz.underlying89, sz89, by89, ze89, fa89_0, fa89_1, fa89_2, Tryz.underlying92, sz92, by92, ze92, fa92_0, fa92_1, fa92_2, fa92_3, Tryz.underlying93, sz93, by93, ze93, Tryz.underlying95, sz95, by95, ze95, fa95_0, fa95_1, fa95_2, Tryz.underlying110, sz110, by110, ze110, fa110_0, fa110_1, Tryz.underlying140, sz140, by140, ze140, go_sem, ↓reduceIte, reduceCtorEq, Nat.reduceEqDiff, Nat.reduceLT, ↓all_qV, Int.reduceToNat, Int.reduceLT, Int.reduceLE, Nat.reduceAdd, Nat.reduceLeDiff, Nat.reduceMul, ev_callG, gcallK_b, gcallK_w, callGc_true, callGc_false, List.forall_mem_cons, List.not_mem_nil, PV.one, AV.one]
  exact ⟨⟨h4, by omega⟩, h14, by omega⟩
def amendP (k : PV) : Prop := ∃ L lv, k = ckV L lv ∧ ckQ L lv ∧ 1 ≤ L.years ∧ (L.g = [] ∨ ∃ d c m, L.g = [.agg [.int .i64 d, .int .i64 1, .sl [.agg [.int .i64 1, .str c, .int .i64 L.first, .int .i64 m]]]] ∧ (0 ≤ d ∧ d ≤ 35990) ∧ c ∈ lv ∧ c ∈ L.tree.map hCode ∧ c.length ≤ 1000 ∧ (0 ≤ m ∧ m ≤ 1000000000000))
noncomputable def amendCS : PSpec := on_p amendP (fun _ => .int .i64 0)
theorem k_amendCS_100 {args : List PV} : B9 100 args = dayBS args := rfl
theorem k_amendCS_101 {args : List PV} : B9 101 args = numberBS args := rfl
theorem k_amendCS_102 {args : List PV} : B9 102 args = amdsS args := rfl
theorem k_amendCS_103 {args : List PV} : B9 103 args = eaXS args := rfl
theorem k_amendCS_104 {args : List PV} : B9 104 args = changesS args := rfl
theorem k_amendCS_105 {args : List PV} : B9 105 args = changeS args := rfl
theorem w_amendCS : PSound GG 83 amendCS := by
  refine PSound.of_wpc (C := cxP Tryz.prog B9 [] 55) (T := plan0) Tryz.func83 rfl rfl rfl (Fit.pure (G := GG) hB9 mixed) (fun args h => ?_)
  unfold amendCS at h
  obtain ⟨k, rfl, hp⟩ := on_p_inv h
  refine ⟨by simp [cxP], ?_⟩
  simp only [amendCS, on_p_eq, Tryz.f83, argL, plan0]
  obtain ⟨⟨fi, ye, tr, la, lb, lc, ld, le, lf, lg⟩, lv, rfl, hq, hy, hg⟩ := hp
  simp only at hy hg
  have hl : lg.length ≤ 1 := by
    rcases hg with h | ⟨d, c, m, h, _⟩ <;> rw [h] <;> simp
  simp only [ckV, chkV, List.length_map, Tryz.underlying1, sz1, by1, ze1, Tryz.underlying2, sz2, by2, ze2, Tryz.underlying3, sz3, by3, ze3, Tryz.underlying4, sz4, by4, ze4, Tryz.underlying9, sz9, by9, ze9, Tryz.underlying25, sz25, by25, ze25, Tryz.underlying26, sz26, by26, ze26, Tryz.underlying27, sz27, by27, ze27, Tryz.underlying28, sz28, by28, ze28, Tryz.underlying29, sz29, by29, ze29, Tryz.underlying30, sz30, by30, ze30, Tryz.underlying31, sz31, by31, ze31, Tryz.underlying33, sz33, by33, ze33, fa33_0, fa33_1, fa33_2, fa33_3, fa33_4, fa33_5, fa33_6, fa33_7, fa33_8, fa33_9, Tryz.underlying44, sz44, by44, ze44, Tryz.underlying46, sz46, by46, ze46, Tryz.underlying55, sz55, by55, ze55, fa55_0, fa55_1, Tryz.underlying57, sz57, by57, ze57, fa57_0, fa57_1, fa57_2, fa57_3, fa57_4, fa57_5, fa57_6, Tryz.underlying77, sz77, by77, ze77, fa77_0, fa77_1, fa77_2, Tryz.underlying86, sz86, by86, ze86, fa86_0, fa86_1, fa86_2, Tryz.underlying88, sz88, by88, ze88, fa88_0, fa88_1, fa88_2, fa88_3, Tryz.underlying89, sz89, by89, ze89, fa89_0, fa89_1, fa89_2, Tryz.underlying92, sz92, by92, ze92, fa92_0, fa92_1, fa92_2, fa92_3, Tryz.underlying93, sz93, by93, ze93, Tryz.underlying95, sz95, by95, ze95, fa95_0, fa95_1, fa95_2, Tryz.underlying110, sz110, by110, ze110, fa110_0, fa110_1, Tryz.underlying147, sz147, by147, ze147, Tryz.underlying148, sz148, by148, ze148, go_sem, ↓reduceIte, reduceCtorEq, Nat.reduceEqDiff, Nat.reduceLT, ↓all_qV, Int.reduceToNat, Int.reduceLT, Int.reduceLE, Nat.reduceAdd, Nat.reduceLeDiff, Nat.reduceMul]
  refine AWp.loop (T := plan0) (α := Nat) (fun i => ([(1, .ptr 1 0), (8, .pv (.sl lg)), (9, .pv (.int .i64 lg.length)), (10, .pv (.int .i64 i))], [(1, .cells [.pv (.int .i64 fi), .pv (.int .i64 ye), .pv (.sl tr), .pv (.sl la), .pv (.sl lb), .pv (.sl lc), .pv (.sl ld), .pv (.sl le), .pv (.sl lf), .pv (.sl lg), .pv (.sl (lv.map PV.str))])])) (fun i => i ≤ lg.length) (fun i => lg.length - i)
    ⟨0, Nat.zero_le _, ⟨by simp [fitR, look], by simp [fitH, hget], rfl, rfl, rfl⟩⟩ ?_
  intro i h1
  by_cases hlt : i < lg.length
  · have e0 : i = 0 := by omega
    subst e0
    rcases hg with h | ⟨d, c, m, h, hd, hc, hct, hcl, hm⟩
    · subst h; simp at hlt
    subst h
    have hch : changeP (ckV ⟨fi, ye, tr, la, lb, lc, ld, le, lf, [.agg [.int .i64 d, .int .i64 1, .sl [.agg [.int .i64 1, .str c, .int .i64 fi, .int .i64 m]]]]⟩ lv) (.agg [.int .i64 1, .str c, .int .i64 fi, .int .i64 m]) :=
      ⟨_, lv, c, fi, m, rfl, rfl, hq, hct, hc, ⟨Int.le_refl _, by simp only; omega⟩, hm⟩
    have hx4 : isX4 (.agg [.int .i64 1, .str c, .int .i64 fi, .int .i64 m]) := ⟨_, _, _, _, rfl, by omega⟩
    have w1 : IntKind.i64.wrap (0 - 1) = -1 := by decide
    have a1 : amg 1 1 1000000 = true := by decide
    have e1 : ((1 : Int) == 0) = false := by decide
    simp only [ckV, chkV] at hch
    have hea : ∀ x, x ∈ [PV.agg [.int .i64 1, .str c, .int .i64 fi, .int .i64 m]] → changeP (.agg [.int .i64 fi, .int .i64 ye, .sl tr, .sl la, .sl lb, .sl lc, .sl ld, .sl le, .sl lf, .sl [.agg [.int .i64 d, .int .i64 1, .sl [.agg [.int .i64 1, .str c, .int .i64 fi, .int .i64 m]]]], .sl (lv.map PV.str)]) x := fun x hx => by
      rw [List.mem_singleton] at hx; subst hx; exact hch
    have c0 : decide ((0 : Int) < 1) = true := by decide
    simp only [c0, w1, neg1', a1, e1, amg_ok hd, decide_true, decide_false, bne_self_eq_false, makeFuncA, List.length_cons, List.length_nil, List.take_succ_cons, List.take_nil, k_amendCS_100, dayBS, on_i_eq, k_amendCS_101, numberBS, k_amendCS_102, amdsS, on_pp_eq, k_amendCS_103, eaXS, on_lpp_eq, k_amendCS_104, changesS, k_amendCS_105, changeS, Tryz.underlying1, sz1, by1, ze1, Tryz.underlying2, sz2, by2, ze2, Tryz.underlying3, sz3, by3, ze3, Tryz.underlying4, sz4, by4, ze4, Tryz.underlying9, sz9, by9, ze9, Tryz.underlying25, sz25, by25, ze25, Tryz.underlying26, sz26, by26, ze26, Tryz.underlying27, sz27, by27, ze27, Tryz.underlying28, sz28, by28, ze28, Tryz.underlying29, sz29, by29, ze29, Tryz.underlying30, sz30, by30, ze30, Tryz.underlying31, sz31, by31, ze31, Tryz.underlying33, sz33, by33, ze33, fa33_0, fa33_1, fa33_2, fa33_3, fa33_4, fa33_5, fa33_6, fa33_7, fa33_8, fa33_9, Tryz.underlying44, sz44, by44, ze44, Tryz.underlying46, sz46, by46, ze46, Tryz.underlying55, sz55, by55, ze55, fa55_0, fa55_1, Tryz.underlying57, sz57, by57, ze57, fa57_0, fa57_1, fa57_2, fa57_3, fa57_4, fa57_5, fa57_6, Tryz.underlying77, sz77, by77, ze77, fa77_0, fa77_1, fa77_2, Tryz.underlying86, sz86, by86, ze86, fa86_0, fa86_1, fa86_2, Tryz.underlying88, sz88, by88, ze88, fa88_0, fa88_1, fa88_2, fa88_3, Tryz.underlying89, sz89, by89, ze89, fa89_0, fa89_1, fa89_2, Tryz.underlying92, sz92, by92, ze92, fa92_0, fa92_1, fa92_2, fa92_3, Tryz.underlying93, sz93, by93, ze93, Tryz.underlying95, sz95, by95, ze95, fa95_0, fa95_1, fa95_2, Tryz.underlying110, sz110, by110, ze110, fa110_0, fa110_1, Tryz.underlying147, sz147, by147, ze147, Tryz.underlying148, sz148, by148, ze148, plan0, go_sem, ↓reduceIte, reduceCtorEq, Nat.reduceEqDiff, Nat.reduceLT, ↓all_qV, Int.reduceToNat, Int.reduceLT, Int.reduceLE, Nat.reduceAdd, Nat.reduceLeDiff, Nat.reduceMul, ev_callG, gcallK_b, gcallK_w, callGc_true, callGc_false, List.forall_mem_cons, List.not_mem_nil, PV.one, AV.one]
    refine ⟨by kernel_rfl, ⟨⟨_, rfl, hch⟩, hx4, fun i hi => by omega⟩, 1, Nat.le_refl _, by omega, ⟨?_, by simp [fitH, hget], rfl, rfl, rfl⟩⟩
    simp [fitR, look, show IntKind.i64.wrap (0 + 1) = 1 by decide, show IntKind.i64.wrap 1 = 1 by decide]
  · have c0 : decide ((i : Int) < (lg.length : Int)) = false := by simp; omega
    simp only [c0, Tryz.underlying1, sz1, by1, ze1, Tryz.underlying2, sz2, by2, ze2, Tryz.underlying3, sz3, by3, ze3, Tryz.underlying4, sz4, by4, ze4, Tryz.underlying9, sz9, by9, ze9, Tryz.underlying25, sz25, by25, ze25, Tryz.underlying26, sz26, by26, ze26, Tryz.underlying27, sz27, by27, ze27, Tryz.underlying28, sz28, by28, ze28, Tryz.underlying29, sz29, by29, ze29, Tryz.underlying30, sz30, by30, ze30, Tryz.underlying31, sz31, by31, ze31, Tryz.underlying33, sz33, by33, ze33, fa33_0, fa33_1, fa33_2, fa33_3, fa33_4, fa33_5, fa33_6, fa33_7, fa33_8, fa33_9, Tryz.underlying44, sz44, by44, ze44, Tryz.underlying46, sz46, by46, ze46, Tryz.underlying55, sz55, by55, ze55, fa55_0, fa55_1, Tryz.underlying57, sz57, by57, ze57, fa57_0, fa57_1, fa57_2, fa57_3, fa57_4, fa57_5, fa57_6, Tryz.underlying77, sz77, by77, ze77, fa77_0, fa77_1, fa77_2, Tryz.underlying86, sz86, by86, ze86, fa86_0, fa86_1, fa86_2, Tryz.underlying88, sz88, by88, ze88, fa88_0, fa88_1, fa88_2, fa88_3, Tryz.underlying89, sz89, by89, ze89, fa89_0, fa89_1, fa89_2, Tryz.underlying92, sz92, by92, ze92, fa92_0, fa92_1, fa92_2, fa92_3, Tryz.underlying93, sz93, by93, ze93, Tryz.underlying95, sz95, by95, ze95, fa95_0, fa95_1, fa95_2, Tryz.underlying110, sz110, by110, ze110, fa110_0, fa110_1, Tryz.underlying147, sz147, by147, ze147, Tryz.underlying148, sz148, by148, ze148, plan0, go_sem, ↓reduceIte, reduceCtorEq, Nat.reduceEqDiff, Nat.reduceLT, ↓all_qV, Int.reduceToNat, Int.reduceLT, Int.reduceLE, Nat.reduceAdd, Nat.reduceLeDiff, Nat.reduceMul]
noncomputable def C0 (g : FuncId) : PSpec := (putΦ (putΦ (putΦ B9 77 sharesCS) 64 yearsCS) 83 amendCS) g
theorem hC0 : TabSound GG C0 := (((hB9.put w_sharesCS).put w_yearsCS).put w_amendCS)
end Go.AM
