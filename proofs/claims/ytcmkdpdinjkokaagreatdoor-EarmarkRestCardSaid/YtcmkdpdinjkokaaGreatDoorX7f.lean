/-
  A part of a proof: see the last text of this claim for what is proved.
-/
import Derived.Test.YtcmkdpdinjkokaaGreatDoorX7e
import Derived.Test.YtcmkdpdinjkokaaGreatDoorZMa
/-! budget.Valid: a made law is valid -/
namespace Go.AM
open Go Go.Proofs Go.IntWalk
set_option maxRecDepth 100000
set_option maxHeartbeats 4000000
set_option linter.unusedSimpArgs false
set_option linter.unusedVariables false
theorem LawK.amdI {l : Law} (h : LawK l) : l.g.length ≤ 1 ∧ ∀ x, x ∈ l.g → isA3 x := by
  rcases h.am with e | ⟨d, c, m, e, _⟩
  · rw [e]; exact ⟨by simp, by simp⟩
  · rw [e]
    refine ⟨by simp, fun x hx => ?_⟩
    rw [List.mem_singleton] at hx
    subst hx
    exact ⟨_, _, _, rfl, by simp⟩
theorem Law.ok.years {l : Law} (h : l.ok) : yearsP (ckV l []) := by
  have hk := h.k
  have h45 := tree_len hk.tc
  have h9 := hk.nine
  have h1 := hk.na
  have h2 := hk.nb
  have h3 := hk.nc
  have h4 := hk.nd
  have h5 := hk.nf
  have h6 := hk.co.1
  have h7 := hk.amdI
  have h8 := hk.yr
  obtain ⟨g1, g2, _⟩ := h
  exact ⟨l, rfl, by omega, by omega, by omega, hk.nm.isHn, by omega, tree_valid hk.tc hk.nm, by omega, by omega, by omega, by omega, by omega, by omega, by omega, h7.2⟩
theorem Law.ok.shares {l : Law} (h : l.ok) : sharesP (ckV l l.lv) := by
  have hk := h.k
  have h4 := hk.nd
  have h9 := hk.nine
  have h10 := hk.lvlen
  refine ⟨l, l.lv, rfl, by omega, fun s hs => ?_, by omega, hk.shI, fun s hs => ?_⟩
  · have := hk.len (hk.code hs); omega
  · have := hk.sh s hs; omega
theorem Law.ok.amend {l : Law} (h : l.ok) : amendP (ckV l l.lv) := by
  have hk := h.k
  refine ⟨l, l.lv, rfl, h.ckQ, h.2.1.1, ?_⟩
  rcases hk.am with e | ⟨d, c, m, e, h1, h2, h3⟩
  · exact .inl e
  · have hc := hk.mem h2
    have := hk.len (hk.code hc)
    exact .inr ⟨d, c, m, e, by omega, hc, hk.code hc, by omega, by omega⟩
noncomputable def validLS : PSpec := on_p (fun l => ∃ L : Law, l = L.v ∧ L.ok) (fun _ => .int .i64 0)
theorem k_validLS_64 {args : List PV} : C0 64 args = yearsCS args := rfl
theorem k_validLS_65 {args : List PV} : C0 65 args = lvS args := rfl
theorem k_validLS_66 {args : List PV} : C0 66 args = anyS args := rfl
theorem k_validLS_67 {args : List PV} : C0 67 args = orES args := rfl
theorem k_validLS_68 {args : List PV} : C0 68 args = eaLS args := rfl
theorem k_validLS_69 {args : List PV} : C0 69 args = linesS args := rfl
theorem k_validLS_70 {args : List PV} : C0 70 args = lineS args := rfl
theorem k_validLS_71 {args : List PV} : C0 71 args = eaBS args := rfl
theorem k_validLS_72 {args : List PV} : C0 72 args = boundsS args := rfl
theorem k_validLS_73 {args : List PV} : C0 73 args = boundS args := rfl
theorem k_validLS_74 {args : List PV} : C0 74 args = eaES args := rfl
theorem k_validLS_75 {args : List PV} : C0 75 args = earmarksS args := rfl
theorem k_validLS_76 {args : List PV} : C0 76 args = earmarkS args := rfl
theorem k_validLS_77 {args : List PV} : C0 77 args = sharesCS args := rfl
theorem k_validLS_78 {args : List PV} : C0 78 args = eaCS args := rfl
theorem k_validLS_79 {args : List PV} : C0 79 args = condCS args := rfl
theorem k_validLS_80 {args : List PV} : C0 80 args = eaRS args := rfl
theorem k_validLS_81 {args : List PV} : C0 81 args = rulesS args := rfl
theorem k_validLS_82 {args : List PV} : C0 82 args = ruleCS args := rfl
theorem k_validLS_83 {args : List PV} : C0 83 args = amendCS args := rfl
theorem w_validLS : PSound GG 51 validLS := by
  refine PSound.of_wpc (C := cxP Tryz.prog C0 [] 54) (T := plan0) Tryz.func51 rfl rfl rfl (Fit.pure (G := GG) hC0 mixed) (fun args h => ?_)
  unfold validLS at h
  obtain ⟨x, rfl, hp⟩ := on_p_inv h
  refine ⟨by simp [cxP], ?_⟩
  simp only [validLS, on_p_eq, Tryz.f51, argL, plan0]
  obtain ⟨L, rfl, hok⟩ := hp
  have hk := hok.k
  have hq := hok.ckQ
  have hY := hok.years
  have hSh := hok.shares
  have hAm := hok.amend
  have hLi := hk.line hq
  have hLi2 := hk.lineI
  have hLi3 := hk.lineO
  obtain ⟨hBo1, hBo2, hBo3⟩ := bnd_ok hk hq hok.2.1.1 hk.ce
  obtain ⟨hFl1, hFl2, hFl3⟩ := bnd_ok hk hq hok.2.1.1 hk.fl
  have hEa1 := hk.earP' hq
  have hEa2 := hk.earI
  have hEa3 := hk.earO'
  have hCo1 := hk.con hok.2.2.2.1 hq
  have hCo2 := hk.conI
  have hRu1 := hk.rul hq
  have hRu2 := hk.rulI
  have hRu3 := hk.rulO'
  have h45 := tree_len hk.tc
  have hn9 := hk.nine
  have n1 := hk.na
  have n2 := hk.nb
  have n3 := hk.nc
  have n4 := hk.nd
  have n5 := hk.nf
  have n6 := hk.co.1
  have hH := hok.2.2.1.isH
  clear hq hk hok
  obtain ⟨fi, ye, tr, la, lb, lc, ld, le, lf, lg⟩ := L
  simp only [ckV, chkV, Law.lv, List.map_nil] at hY hSh hAm hLi hLi2 hLi3 hBo1 hBo2 hBo3 hFl1 hFl2 hFl3 hEa1 hEa2 hEa3 hCo1 hCo2 hRu1 hRu2 hRu3 h45 hn9 n1 n2 n3 n4 n5 n6 hH
  have hCo3 : ∀ i, i + 1 < le.length → anyO (le.getD i default) (le.getD (i + 1) default) < 0 := fun i hi => (show (-1 : Int) < 0 by decide)
  generalize hlv : lvC (tr.map hCode) [] = lv at hSh hAm hLi hBo1 hFl1 hEa1 hCo1 hRu1
  simp only [Law.v, lawV, hlv, makeFuncA, bne_self_eq_false, List.length_cons, List.length_nil, List.take_succ_cons, List.take_nil, k_validLS_64, yearsCS, on_p_eq, k_validLS_65, lvS, on_ls_eq, k_validLS_66, anyS, on_pp_eq, k_validLS_67, orES, on_l_eq, k_validLS_68, eaLS, on_lpp_eq, k_validLS_69, linesS, k_validLS_70, lineS, k_validLS_71, eaBS, k_validLS_72, boundsS, k_validLS_73, boundS, k_validLS_74, eaES, k_validLS_75, earmarksS, k_validLS_76, earmarkS, k_validLS_77, sharesCS, k_validLS_78, eaCS, k_validLS_79, condCS, k_validLS_80, eaRS, k_validLS_81, rulesS, k_validLS_82, ruleCS, k_validLS_83, amendCS, Tryz.underlying1, sz1, by1, ze1, Tryz.underlying2, sz2, by2, ze2, Tryz.underlying3, sz3, by3, ze3, Tryz.underlying4, sz4, by4, ze4, Tryz.underlying5, sz5, by5, ze5, Tryz.underlying6, sz6, by6, ze6, Tryz.underlying7, sz7, by7, ze7, fa7_0, fa7_1, fa7_2, fa7_3, Tryz.underlying8, sz8, by8, ze8, fa8_0, fa8_1, fa8_2, fa8_3, Tryz.underlying9, sz9, by9, ze9, Tryz.underlying25, sz25, by25, ze25, Tryz.underlying26, sz26, by26, ze26, Tryz.underlying27, sz27, by27, ze27, Tryz.underlying28, sz28, by28, ze28, Tryz.underlying29, sz29, by29, ze29, Tryz.underlying30, sz30, by30, ze30, Tryz.underlying31, sz31, by31, ze31, Tryz.underlying33, sz33, by33, ze33, fa33_0, fa33_1, fa33_2, fa33_3, fa33_4, fa33_5, fa33_6, fa33_7, fa33_8, fa33_9, Tryz.underlying44, sz44, by44, ze44, Tryz.underlying46, sz46, by46, ze46, Tryz.underlying55, sz55, by55, ze55, fa55_0, fa55_1, Tryz.underlying57, sz57, by57, ze57, fa57_0, fa57_1, fa57_2, fa57_3, fa57_4, fa57_5, fa57_6, Tryz.underlying77, sz77, by77, ze77, fa77_0, fa77_1, fa77_2, Tryz.underlying86, sz86, by86, ze86, fa86_0, fa86_1, fa86_2, Tryz.underlying88, sz88, by88, ze88, fa88_0, fa88_1, fa88_2, fa88_3, Tryz.underlying89, sz89, by89, ze89, fa89_0, fa89_1, fa89_2, Tryz.underlying92, sz92, by92, ze92, fa92_0, fa92_1, fa92_2, fa92_3, Tryz.underlying93, sz93, by93, ze93, Tryz.underlying95, sz95, by95, ze95, fa95_0, fa95_1, fa95_2, Tryz.underlying110, sz110, by110, ze110, fa110_0, fa110_1, Tryz.underlying112, sz112, by112, ze112, Tryz.underlying115, sz115, by115, ze115, Tryz.underlying116, sz116, by116, ze116, Tryz.underlying118, sz118, by118, ze118, Tryz.underlying119, sz119, by119, ze119, Tryz.underlying121, sz121, by121, ze121, Tryz.underlying122, sz122, by122, ze122, Tryz.underlying124, sz124, by124, ze124, Tryz.underlying126, sz126, by126, ze126, Tryz.underlying127, sz127, by127, ze127, Tryz.underlying143, sz143, by143, ze143, go_sem, ↓reduceIte, reduceCtorEq, Nat.reduceEqDiff, Nat.reduceLT, ↓all_qV, Int.reduceToNat, Int.reduceLT, Int.reduceLE, Nat.reduceAdd, Nat.reduceLeDiff, Nat.reduceMul, ev_callG, gcallK_b, gcallK_w, callGc_true, callGc_false, List.forall_mem_cons, List.not_mem_nil, PV.one, AV.one]
  and_intros
  all_goals try first
    | exact ⟨[0, 0, 0, 0, 0, 0, 0, 0], rfl, by simp⟩ | exact hY | exact hH | exact hSh | exact hAm
    | exact ⟨_, rfl, hLi⟩ | exact ⟨_, rfl, hBo1⟩ | exact ⟨_, rfl, hFl1⟩ | exact ⟨_, rfl, hEa1⟩ | exact ⟨_, rfl, hCo1⟩ | exact ⟨_, rfl, hRu1⟩
    | assumption | omega | (show checkD _ _ _ = true; kernel_rfl) | rfl
noncomputable def C1 (g : FuncId) : PSpec := (putΦ C0 51 validLS) g
theorem hC1 : TabSound GG C1 := (hC0.put w_validLS)
end Go.AM
