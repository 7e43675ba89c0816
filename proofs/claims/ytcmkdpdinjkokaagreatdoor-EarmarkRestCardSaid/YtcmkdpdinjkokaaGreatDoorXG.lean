/-
  A part of a proof: see the last text of this claim for what is proved.
-/
import Derived.Test.YtcmkdpdinjkokaaGreatDoorX7f
import Derived.Test.YtcmkdpdinjkokaaGreatDoorZMa
namespace Go.AM
open Go Go.Proofs Go.IntWalk
set_option maxRecDepth 100000
set_option maxHeartbeats 2000000
set_option linter.unusedSimpArgs false
set_option linter.unusedVariables false
def on_plsii (p : PV → List PV → List UInt8 → Int → Int → Prop) (f : PV → List PV → List UInt8 → Int → Int → PV) : PSpec
  | [a0, .sl a1, .str a2, .int .i64 a3, .int .i64 a4] => (p a0 a1 a2 a3 a4, f a0 a1 a2 a3 a4)
  | _ => (False, default)
theorem on_plsii_eq {p : PV → List PV → List UInt8 → Int → Int → Prop} {f : PV → List PV → List UInt8 → Int → Int → PV} {a0 : PV} {a1 : List PV} {a2 : List UInt8} {a3 : Int} {a4 : Int} : on_plsii p f [a0, .sl a1, .str a2, .int .i64 a3, .int .i64 a4] = (p a0 a1 a2 a3 a4, f a0 a1 a2 a3 a4) := rfl
theorem on_plsii_inv {p : PV → List PV → List UInt8 → Int → Int → Prop} {f : PV → List PV → List UInt8 → Int → Int → PV} {args : List PV} (h : (on_plsii p f args).1) : ∃ a0 : PV, ∃ a1 : List PV, ∃ a2 : List UInt8, ∃ a3 : Int, ∃ a4 : Int, args = [a0, .sl a1, .str a2, .int .i64 a3, .int .i64 a4] ∧ p a0 a1 a2 a3 a4 := by
  unfold on_plsii at h
  split at h
  · exact ⟨_, _, _, _, _, rfl, h⟩
  · exact h.elim
noncomputable def leafBS : PSpec := on_ps (fun l _ => ∃ L : Law, l = L.v ∧ (∀ e, e ∈ L.tree → isH e) ∧ L.tree.length ≤ 1000) (fun l s => .bool ((lvC ((lawTree l).map hCode) []).contains s))
theorem k_leafBS_65 {args : List PV} : C1 65 args = lvS args := rfl
theorem k_leafBS_106 {args : List PV} : C1 106 args = containsS args := rfl
theorem w_leafBS : PSound GG 84 leafBS := by
  refine PSound.of_wpc (C := cxP Tryz.prog C1 [] 10) (T := plan0) Tryz.func84 rfl rfl rfl (Fit.pure (G := GG) hC1 mixed) (fun args h => ?_)
  unfold leafBS at h
  obtain ⟨l, s, rfl, hp⟩ := on_ps_inv h
  refine ⟨by simp [cxP], ?_⟩
  simp only [leafBS, on_ps_eq, Tryz.f84, argL, plan0]
  obtain ⟨⟨fi, ye, tr, la, lb, lc, ld, le, lf, lg⟩, rfl, h1, h2⟩ := hp
  simp only at h1 h2
  have hl : (lvC (tr.map hCode) []).length ≤ tr.length := by
    have := List.length_filter_le (fun c => isCode c && (tr.map hCode).all (fun x => !(parC x == c)) && ([] == ([] : List UInt8) || undC c [])) (tr.map hCode)
    rw [List.length_map] at this
    exact this
  simp only [Law.v, lawV, lawTree, map_sOf, List.length_map, List.length_nil, List.take_succ_cons, List.take_nil, k_leafBS_65, lvS, on_ls_eq, k_leafBS_106, containsS, Tryz.underlying2, sz2, by2, ze2, Tryz.underlying3, sz3, by3, ze3, Tryz.underlying4, sz4, by4, ze4, Tryz.underlying9, sz9, by9, ze9, Tryz.underlying25, sz25, by25, ze25, Tryz.underlying26, sz26, by26, ze26, Tryz.underlying27, sz27, by27, ze27, Tryz.underlying28, sz28, by28, ze28, Tryz.underlying29, sz29, by29, ze29, Tryz.underlying30, sz30, by30, ze30, Tryz.underlying31, sz31, by31, ze31, Tryz.underlying33, sz33, by33, ze33, fa33_0, fa33_1, fa33_2, fa33_3, fa33_4, fa33_5, fa33_6, fa33_7, fa33_8, fa33_9, Tryz.underlying44, sz44, by44, ze44, Tryz.underlying55, sz55, by55, ze55, fa55_0, fa55_1, Tryz.underlying57, sz57, by57, ze57, fa57_0, fa57_1, fa57_2, fa57_3, fa57_4, fa57_5, fa57_6, Tryz.underlying77, sz77, by77, ze77, fa77_0, fa77_1, fa77_2, Tryz.underlying86, sz86, by86, ze86, fa86_0, fa86_1, fa86_2, Tryz.underlying88, sz88, by88, ze88, fa88_0, fa88_1, fa88_2, fa88_3, Tryz.underlying89, sz89, by89, ze89, fa89_0, fa89_1, fa89_2, Tryz.underlying92, sz92, by92, ze92, fa92_0, fa92_1, fa92_2, fa92_3, Tryz.underlying93, sz93, by93, ze93, Tryz.underlying95, sz95, by95, ze95, fa95_0, fa95_1, fa95_2, go_sem, ↓reduceIte, reduceCtorEq, Nat.reduceEqDiff, Nat.reduceLT, ↓all_qV, Int.reduceToNat, Int.reduceLT, Int.reduceLE, Nat.reduceAdd, Nat.reduceLeDiff, Nat.reduceMul, ev_callG, gcallK_b, gcallK_w, callGc_true, callGc_false, List.forall_mem_cons, List.not_mem_nil, PV.one, AV.one]
  exact ⟨⟨h1, by omega⟩, ⟨_, rfl⟩, by omega⟩
noncomputable def C2 (g : FuncId) : PSpec := (putΦ C1 84 leafBS) g
theorem hC2 : TabSound GG C2 := (hC1.put w_leafBS)
/-- A receipt of a leaf of a law. -/
def okRec (L : Law) (x : PV) : Prop := ∃ n d c a, x = .agg [.int .i64 n, .int .i64 d, .str c, .int .i64 a] ∧ (1 ≤ n ∧ n ≤ 1000000) ∧ (0 ≤ d ∧ d ≤ 35990) ∧ c ∈ L.lv ∧ c.length ≤ 1000 ∧ a ≠ 0 ∧ (-2000 ≤ a ∧ a ≤ 2000)
def okRecs (L : Law) (r : List PV) : Prop := r.length ≤ 100 ∧ (∀ x, x ∈ r → okRec L x) ∧ r.Pairwise recLt
theorem okRecs.isR {L : Law} {r : List PV} (h : okRecs L r) : ∀ x, x ∈ r → isR x := fun x hx => by
  obtain ⟨n, d, c, a, rfl, _, _, _, h1, _⟩ := h.2.1 x hx
  exact ⟨n, d, c, a, rfl, by omega⟩
noncomputable def wrongS : PSpec := on_pp (fun l x => ∃ L : Law, l = L.v ∧ (∀ e, e ∈ L.tree → isH e) ∧ L.tree.length ≤ 1000 ∧ okRec L x) (fun _ _ => .int .i64 0)
theorem k_wrongS_49 {args : List PV} : C2 49 args = amtS args := rfl
theorem k_wrongS_84 {args : List PV} : C2 84 args = leafBS args := rfl
theorem w_wrongS : PSound GG 52 wrongS := by
  refine PSound.of_wpc (C := cxP Tryz.prog C2 [] 41) (T := plan0) Tryz.func52 rfl rfl rfl (Fit.pure (G := GG) hC2 mixed) (fun args h => ?_)
  unfold wrongS at h
  obtain ⟨l, x, rfl, hp⟩ := on_pp_inv h
  refine ⟨by simp [cxP], ?_⟩
  simp only [wrongS, on_pp_eq, Tryz.f52, argL, plan0]
  obtain ⟨⟨fi, ye, tr, la, lb, lc, ld, le, lf, lg⟩, rfl, h1, h2, n, d, c, a, rfl, hn, hd, hc, hcl, ha, ha2⟩ := hp
  simp only [Law.lv] at h1 h2 hc
  have hcon : (lvC (tr.map hCode) []).contains c = true := List.contains_iff_mem.2 hc
  have c1 : decide (n < 1) = false := by simp; omega
  have c2 : decide (1000000 < n) = false := by simp; omega
  have c3 : decide (d < 0) = false := by simp; omega
  have c4 : decide (35990 < d) = false := by simp; omega
  have c5 : (a == 0) = false := by simpa using ha
  have c6 : amt a = true := by unfold amt; simp; omega
  simp only [Law.v, lawV, lawTree, hcon, c1, c2, c3, c4, c5, c6, List.take_succ_cons, List.take_nil, k_wrongS_49, amtS, on_i_eq, k_wrongS_84, leafBS, on_ps_eq, Tryz.underlying1, sz1, by1, ze1, Tryz.underlying2, sz2, by2, ze2, Tryz.underlying3, sz3, by3, ze3, Tryz.underlying4, sz4, by4, ze4, Tryz.underlying9, sz9, by9, ze9, Tryz.underlying25, sz25, by25, ze25, Tryz.underlying26, sz26, by26, ze26, Tryz.underlying27, sz27, by27, ze27, Tryz.underlying28, sz28, by28, ze28, Tryz.underlying29, sz29, by29, ze29, Tryz.underlying30, sz30, by30, ze30, Tryz.underlying31, sz31, by31, ze31, Tryz.underlying33, sz33, by33, ze33, fa33_0, fa33_1, fa33_2, fa33_3, fa33_4, fa33_5, fa33_6, fa33_7, fa33_8, fa33_9, Tryz.underlying41, sz41, by41, ze41, fa41_0, fa41_1, fa41_2, fa41_3, Tryz.underlying46, sz46, by46, ze46, Tryz.underlying55, sz55, by55, ze55, fa55_0, fa55_1, Tryz.underlying57, sz57, by57, ze57, fa57_0, fa57_1, fa57_2, fa57_3, fa57_4, fa57_5, fa57_6, Tryz.underlying77, sz77, by77, ze77, fa77_0, fa77_1, fa77_2, Tryz.underlying86, sz86, by86, ze86, fa86_0, fa86_1, fa86_2, Tryz.underlying88, sz88, by88, ze88, fa88_0, fa88_1, fa88_2, fa88_3, Tryz.underlying89, sz89, by89, ze89, fa89_0, fa89_1, fa89_2, Tryz.underlying92, sz92, by92, ze92, fa92_0, fa92_1, fa92_2, fa92_3, Tryz.underlying93, sz93, by93, ze93, Tryz.underlying95, sz95, by95, ze95, fa95_0, fa95_1, fa95_2, go_sem, ↓reduceIte, reduceCtorEq, Nat.reduceEqDiff, Nat.reduceLT, ↓all_qV, Int.reduceToNat, Int.reduceLT, Int.reduceLE, Nat.reduceAdd, Nat.reduceLeDiff, Nat.reduceMul, ev_callG, gcallK_b, gcallK_w, callGc_true, callGc_false, List.forall_mem_cons, List.not_mem_nil, PV.one, AV.one]
  exact ⟨⟨fi, ye, tr, la, lb, lc, ld, le, lf, lg⟩, rfl, h1, h2⟩
noncomputable def C3 (g : FuncId) : PSpec := (putΦ C2 52 wrongS) g
theorem hC3 : TabSound GG C3 := (hC2.put w_wrongS)
def recO (x y : PV) : Int := orF [cmpI (rDay x) (rDay y), cmpI (rNum x) (rNum y)]
theorem recO_lt {x y : PV} (h : recLt x y) : recO x y < 0 := by
  obtain ⟨h1, h2⟩ := h
  unfold recO orF cmpI
  by_cases h3 : rDay x < rDay y
  · rw [decide_eq_true h3]
    show (-1 : Int) < 0
    decide
  · have h4 : ¬ rDay y < rDay x := by omega
    rw [decide_eq_false h3, decide_eq_false h4]
    simp [orF, h2]
noncomputable def checkS : PSpec := on_pl (fun l r => ∃ L : Law, l = L.v ∧ L.ok ∧ okRecs L r) (fun _ _ => .int .i64 0)
theorem k_checkS_51 {args : List PV} : C3 51 args = validLS args := rfl
theorem k_checkS_52 {args : List PV} : C3 52 args = wrongS args := rfl
theorem k_checkS_53 {args : List PV} : C3 53 args = orS args := rfl
theorem k_checkS_54 {args : List PV} : C3 54 args = cmpIS args := rfl
theorem w_checkS : PSound GG 37 checkS := by
  refine PSound.of_wpc (C := cxP Tryz.prog C3 [] 56) (T := plan0) Tryz.func37 rfl rfl rfl (Fit.pure (G := GG) hC3 mixed) (fun args h => ?_)
  unfold checkS at h
  obtain ⟨l, rs, rfl, hp⟩ := on_pl_inv h
  refine ⟨by simp [cxP], ?_⟩
  simp only [checkS, on_pl_eq, Tryz.f37, argL, plan0]
  obtain ⟨L, rfl, hok, hr⟩ := hp
  have hV : ∃ L' : Law, L.v = L'.v ∧ L'.ok := ⟨L, rfl, hok⟩
  have hW : ∀ x, x ∈ rs → ∃ L' : Law, L.v = L'.v ∧ (∀ e, e ∈ L'.tree → isH e) ∧ L'.tree.length ≤ 1000 ∧ okRec L' x := fun x hx => ⟨L, rfl, hok.ckQ.2.1, hok.ckQ.2.2.1, hr.2.1 x hx⟩
  obtain ⟨hl, hx1, hpw⟩ := hr
  obtain ⟨fi, ye, tr, la, lb, lc, ld, le, lf, lg⟩ := L
  have hl1 : decide ((100 : Int) < (rs.length : Int)) = false := by simp; omega
  simp only [Law.v, lawV] at hV hW
  simp only [Law.v, lawV, hl1, bne_self_eq_false, List.take_succ_cons, List.take_nil, k_checkS_51, validLS, on_p_eq, k_checkS_52, wrongS, on_pp_eq, k_checkS_53, orS, on_l_eq, k_checkS_54, cmpIS, on_ii_eq, Tryz.underlying1, sz1, by1, ze1, Tryz.underlying2, sz2, by2, ze2, Tryz.underlying3, sz3, by3, ze3, Tryz.underlying4, sz4, by4, ze4, Tryz.underlying9, sz9, by9, ze9, Tryz.underlying22, sz22, by22, ze22, Tryz.underlying25, sz25, by25, ze25, Tryz.underlying26, sz26, by26, ze26, Tryz.underlying27, sz27, by27, ze27, Tryz.underlying28, sz28, by28, ze28, Tryz.underlying29, sz29, by29, ze29, Tryz.underlying30, sz30, by30, ze30, Tryz.underlying31, sz31, by31, ze31, Tryz.underlying33, sz33, by33, ze33, fa33_0, fa33_1, fa33_2, fa33_3, fa33_4, fa33_5, fa33_6, fa33_7, fa33_8, fa33_9, Tryz.underlying35, sz35, by35, ze35, Tryz.underlying41, sz41, by41, ze41, fa41_0, fa41_1, fa41_2, fa41_3, Tryz.underlying46, sz46, by46, ze46, Tryz.underlying55, sz55, by55, ze55, fa55_0, fa55_1, Tryz.underlying57, sz57, by57, ze57, fa57_0, fa57_1, fa57_2, fa57_3, fa57_4, fa57_5, fa57_6, Tryz.underlying77, sz77, by77, ze77, fa77_0, fa77_1, fa77_2, Tryz.underlying86, sz86, by86, ze86, fa86_0, fa86_1, fa86_2, Tryz.underlying88, sz88, by88, ze88, fa88_0, fa88_1, fa88_2, fa88_3, Tryz.underlying89, sz89, by89, ze89, fa89_0, fa89_1, fa89_2, Tryz.underlying92, sz92, by92, ze92, fa92_0, fa92_1, fa92_2, fa92_3, Tryz.underlying93, sz93, by93, ze93, Tryz.underlying95, sz95, by95, ze95, fa95_0, fa95_1, fa95_2, go_sem, ↓reduceIte, reduceCtorEq, Nat.reduceEqDiff, Nat.reduceLT, ↓all_qV, Int.reduceToNat, Int.reduceLT, Int.reduceLE, Nat.reduceAdd, Nat.reduceLeDiff, Nat.reduceMul, ev_callG, gcallK_b, gcallK_w, callGc_true, callGc_false, List.forall_mem_cons, List.not_mem_nil, PV.one, AV.one]
  refine ⟨hV, ?_⟩
  refine AWp.loop (T := plan0) (α := Nat) (fun i => ([(1, .pv (.sl rs)), (2, .ptr 2 0), (17, .pv (.sl rs)), (18, .pv (.int .i64 rs.length)), (19, .pv (.int .i64 i))], [(2, .cells [.pv (.int .i64 fi), .pv (.int .i64 ye), .pv (.sl tr), .pv (.sl la), .pv (.sl lb), .pv (.sl lc), .pv (.sl ld), .pv (.sl le), .pv (.sl lf), .pv (.sl lg)])])) (fun i => i ≤ rs.length) (fun i => rs.length - i)
    ⟨0, Nat.zero_le _, ⟨by simp [fitR, look], by simp [fitH, hget], rfl, rfl, rfl⟩⟩ ?_
  intro i h1
  have hi1 : IntKind.i64.wrap ((i : Int) + 1) = ((i + 1 : Nat) : Int) := by rw [i64_in _ (by omega)]; omega
  by_cases hlt : i < rs.length
  · have hgm := getD_mem hlt
    have hw := hW _ hgm
    have hx := hx1 _ hgm
    obtain ⟨x, hg⟩ : ∃ x, rs.getD i default = x := ⟨_, rfl⟩
    rw [hg] at hw hx
    obtain ⟨n, d, c, a, rfl, hn, hd, hc, hcl, ha, ha2⟩ := hx
    cases i with
    | zero =>
      have c0 : decide ((0 : Int) < (rs.length : Int)) = true := by simp; omega
      have w1 : IntKind.i64.wrap (0 - 1) = -1 := by decide
      simp only [c0, decide_false, bne_self_eq_false, w1, neg1', hg, hi1, List.take_succ_cons, List.take_nil, k_checkS_51, validLS, on_p_eq, k_checkS_52, wrongS, on_pp_eq, k_checkS_53, orS, on_l_eq, k_checkS_54, cmpIS, on_ii_eq, Tryz.underlying1, sz1, by1, ze1, Tryz.underlying2, sz2, by2, ze2, Tryz.underlying3, sz3, by3, ze3, Tryz.underlying4, sz4, by4, ze4, Tryz.underlying9, sz9, by9, ze9, Tryz.underlying22, sz22, by22, ze22, Tryz.underlying25, sz25, by25, ze25, Tryz.underlying26, sz26, by26, ze26, Tryz.underlying27, sz27, by27, ze27, Tryz.underlying28, sz28, by28, ze28, Tryz.underlying29, sz29, by29, ze29, Tryz.underlying30, sz30, by30, ze30, Tryz.underlying31, sz31, by31, ze31, Tryz.underlying33, sz33, by33, ze33, fa33_0, fa33_1, fa33_2, fa33_3, fa33_4, fa33_5, fa33_6, fa33_7, fa33_8, fa33_9, Tryz.underlying35, sz35, by35, ze35, Tryz.underlying41, sz41, by41, ze41, fa41_0, fa41_1, fa41_2, fa41_3, Tryz.underlying46, sz46, by46, ze46, Tryz.underlying55, sz55, by55, ze55, fa55_0, fa55_1, Tryz.underlying57, sz57, by57, ze57, fa57_0, fa57_1, fa57_2, fa57_3, fa57_4, fa57_5, fa57_6, Tryz.underlying77, sz77, by77, ze77, fa77_0, fa77_1, fa77_2, Tryz.underlying86, sz86, by86, ze86, fa86_0, fa86_1, fa86_2, Tryz.underlying88, sz88, by88, ze88, fa88_0, fa88_1, fa88_2, fa88_3, Tryz.underlying89, sz89, by89, ze89, fa89_0, fa89_1, fa89_2, Tryz.underlying92, sz92, by92, ze92, fa92_0, fa92_1, fa92_2, fa92_3, Tryz.underlying93, sz93, by93, ze93, Tryz.underlying95, sz95, by95, ze95, fa95_0, fa95_1, fa95_2, plan0, go_sem, ↓reduceIte, reduceCtorEq, Nat.reduceEqDiff, Nat.reduceLT, ↓all_qV, Int.reduceToNat, Int.reduceLT, Int.reduceLE, Nat.reduceAdd, Nat.reduceLeDiff, Nat.reduceMul, ev_callG, gcallK_b, gcallK_w, callGc_true, callGc_false, List.forall_mem_cons, List.not_mem_nil, PV.one, AV.one]
      and_intros
      all_goals try first | exact hw | omega | trivial | (show checkD _ _ _ = true; kernel_rfl)
      all_goals exact ⟨0 + 1, by omega, by omega, ⟨by simp [fitR, look, show IntKind.i64.wrap (0 + 1) = 1 by decide, show IntKind.i64.wrap 1 = 1 by decide], by simp [fitH, hget], rfl, rfl, rfl⟩⟩
    | succ j =>
      have c0 : decide (((j + 1 : Nat) : Int) < (rs.length : Int)) = true := by simp; omega
      have c1 : decide ((0 : Int) < ((j + 1 : Nat) : Int)) = true := by simp
      have w1 : IntKind.i64.wrap (((j + 1 : Nat) : Int) - 1) = (j : Int) := by rw [i64_in _ (by omega)]; omega
      have hz1 := hx1 _ (getD_mem (show j < rs.length by omega))
      have ho := recO_lt (pw_getD hpw (show j < j + 1 by omega) hlt)
      obtain ⟨z, hz⟩ : ∃ z, rs.getD j default = z := ⟨_, rfl⟩
      rw [hz] at hz1 ho
      rw [hg] at ho
      obtain ⟨n', d', c', a', rfl, _⟩ := hz1
      have ho : orF [cmpI d' d, cmpI n' n] < 0 := ho
      have co : decide ((0 : Int) ≤ orF [cmpI d' d, cmpI n' n]) = false := by simp; omega
      have hn2 : ∀ a b : Int, List.map nOf [.int .i64 a, .int .i64 b] = [a, b] := fun _ _ => rfl
      simp only [c0, c1, bne_self_eq_false, w1, hg, hz, co, hi1, nOf, List.take_succ_cons, List.take_nil, k_checkS_51, validLS, on_p_eq, k_checkS_52, wrongS, on_pp_eq, k_checkS_53, orS, on_l_eq, k_checkS_54, cmpIS, on_ii_eq, Tryz.underlying1, sz1, by1, ze1, Tryz.underlying2, sz2, by2, ze2, Tryz.underlying3, sz3, by3, ze3, Tryz.underlying4, sz4, by4, ze4, Tryz.underlying9, sz9, by9, ze9, Tryz.underlying22, sz22, by22, ze22, Tryz.underlying25, sz25, by25, ze25, Tryz.underlying26, sz26, by26, ze26, Tryz.underlying27, sz27, by27, ze27, Tryz.underlying28, sz28, by28, ze28, Tryz.underlying29, sz29, by29, ze29, Tryz.underlying30, sz30, by30, ze30, Tryz.underlying31, sz31, by31, ze31, Tryz.underlying33, sz33, by33, ze33, fa33_0, fa33_1, fa33_2, fa33_3, fa33_4, fa33_5, fa33_6, fa33_7, fa33_8, fa33_9, Tryz.underlying35, sz35, by35, ze35, Tryz.underlying41, sz41, by41, ze41, fa41_0, fa41_1, fa41_2, fa41_3, Tryz.underlying46, sz46, by46, ze46, Tryz.underlying55, sz55, by55, ze55, fa55_0, fa55_1, Tryz.underlying57, sz57, by57, ze57, fa57_0, fa57_1, fa57_2, fa57_3, fa57_4, fa57_5, fa57_6, Tryz.underlying77, sz77, by77, ze77, fa77_0, fa77_1, fa77_2, Tryz.underlying86, sz86, by86, ze86, fa86_0, fa86_1, fa86_2, Tryz.underlying88, sz88, by88, ze88, fa88_0, fa88_1, fa88_2, fa88_3, Tryz.underlying89, sz89, by89, ze89, fa89_0, fa89_1, fa89_2, Tryz.underlying92, sz92, by92, ze92, fa92_0, fa92_1, fa92_2, fa92_3, Tryz.underlying93, sz93, by93, ze93, Tryz.underlying95, sz95, by95, ze95, fa95_0, fa95_1, fa95_2, plan0, go_sem, ↓reduceIte, reduceCtorEq, Nat.reduceEqDiff, Nat.reduceLT, ↓all_qV, Int.reduceToNat, Int.reduceLT, Int.reduceLE, Nat.reduceAdd, Nat.reduceLeDiff, Nat.reduceMul, ev_callG, gcallK_b, gcallK_w, callGc_true, callGc_false, List.forall_mem_cons, List.not_mem_nil, PV.one, AV.one]
      and_intros
      all_goals try first | exact hw | exact ⟨[cmpI d' d, cmpI n' n], rfl, by simp⟩ | exact fun _ => ⟨[cmpI d' d, cmpI n' n], rfl, by simp⟩ | omega | trivial | (show checkD _ _ _ = true; kernel_rfl)
      all_goals exact ⟨j + 1 + 1, by omega, by omega, ⟨by simp [fitR, look], by simp [fitH, hget], rfl, rfl, rfl⟩⟩
  · have c0 : decide ((i : Int) < (rs.length : Int)) = false := by simp; omega
    simp only [c0, Tryz.underlying1, sz1, by1, ze1, Tryz.underlying2, sz2, by2, ze2, Tryz.underlying3, sz3, by3, ze3, Tryz.underlying4, sz4, by4, ze4, Tryz.underlying9, sz9, by9, ze9, Tryz.underlying22, sz22, by22, ze22, Tryz.underlying25, sz25, by25, ze25, Tryz.underlying26, sz26, by26, ze26, Tryz.underlying27, sz27, by27, ze27, Tryz.underlying28, sz28, by28, ze28, Tryz.underlying29, sz29, by29, ze29, Tryz.underlying30, sz30, by30, ze30, Tryz.underlying31, sz31, by31, ze31, Tryz.underlying33, sz33, by33, ze33, fa33_0, fa33_1, fa33_2, fa33_3, fa33_4, fa33_5, fa33_6, fa33_7, fa33_8, fa33_9, Tryz.underlying35, sz35, by35, ze35, Tryz.underlying41, sz41, by41, ze41, fa41_0, fa41_1, fa41_2, fa41_3, Tryz.underlying46, sz46, by46, ze46, Tryz.underlying55, sz55, by55, ze55, fa55_0, fa55_1, Tryz.underlying57, sz57, by57, ze57, fa57_0, fa57_1, fa57_2, fa57_3, fa57_4, fa57_5, fa57_6, Tryz.underlying77, sz77, by77, ze77, fa77_0, fa77_1, fa77_2, Tryz.underlying86, sz86, by86, ze86, fa86_0, fa86_1, fa86_2, Tryz.underlying88, sz88, by88, ze88, fa88_0, fa88_1, fa88_2, fa88_3, Tryz.underlying89, sz89, by89, ze89, fa89_0, fa89_1, fa89_2, Tryz.underlying92, sz92, by92, ze92, fa92_0, fa92_1, fa92_2, fa92_3, Tryz.underlying93, sz93, by93, ze93, Tryz.underlying95, sz95, by95, ze95, fa95_0, fa95_1, fa95_2, plan0, go_sem, ↓reduceIte, reduceCtorEq, Nat.reduceEqDiff, Nat.reduceLT, ↓all_qV, Int.reduceToNat, Int.reduceLT, Int.reduceLE, Nat.reduceAdd, Nat.reduceLeDiff, Nat.reduceMul]
noncomputable def C4 (g : FuncId) : PSpec := (putΦ C3 37 checkS) g
theorem hC4 : TabSound GG C4 := (hC3.put w_checkS)
/-! ### Open and Blocked -/
def lawE : PV → List PV
  | .agg [_, _, _, _, _, _, _, .sl e, _, _] => e
  | _ => []
def holdB (c : PV) (rs : List PV) (d : Int) : Bool := (relF c rs).2 && decide ((relF c rs).1 ≤ d)
/-- The numbers of the conditions that do not hold. -/
def openL (rs : List PV) (d : Int) : List PV → Int → List Int
  | [], _ => []
  | c :: r, i => bif holdB c rs d then openL rs d r (i + 1) else i :: openL rs d r (i + 1)
theorem ConP.isC {lv : List PV} {f y : Int} {x : PV} (h : ConP lv f y x) : isC' x := by
  obtain ⟨c, y, am, k, d, s, l, rfl, _, _, _, h4⟩ := h
  refine ⟨c, y, am, k, d, s, l, rfl, ?_⟩
  rcases h4 with ⟨_, _, h, _⟩ | ⟨_, _, h, _⟩ <;> subst h <;> simp
noncomputable def openS : PSpec := on_pli (fun l rs _ => ∃ L : Law, l = L.v ∧ L.ok ∧ okRecs L rs) (fun l rs d => .tup [.sl ((openL rs d (lawE l) 0).map intV), .int .i64 0])
theorem k_openS_18 {args : List PV} : C4 18 args = holdsS args := rfl
theorem k_openS_37 {args : List PV} : C4 37 args = checkS args := rfl
theorem w_openS : PSound GG 21 openS := by
  refine PSound.of_wpc (C := cxP Tryz.prog C4 [] 37) (T := plan0) Tryz.func21 rfl rfl rfl (Fit.pure (G := GG) hC4 mixed) (fun args h => ?_)
  unfold openS at h
  obtain ⟨l, rs, dd, rfl, hp⟩ := on_pli_inv h
  refine ⟨by simp [cxP], ?_⟩
  simp only [openS, on_pli_eq, Tryz.f21, argL, plan0]
  obtain ⟨L, rfl, hok, hr⟩ := hp
  have hV : ∃ L' : Law, L.v = L'.v ∧ L'.ok ∧ okRecs L' rs := ⟨L, rfl, hok, hr⟩
  have hco := hok.k.co
  have hR := hr.isR
  have hrl := hr.1
  obtain ⟨fi, ye, tr, la, lb, lc, ld, le, lf, lg⟩ := L
  simp only [Law.v, lawV] at hV hco
  simp only [Law.v, lawV, lawE, bne_self_eq_false, List.take_succ_cons, List.take_nil, k_openS_18, holdsS, on_pli_eq, k_openS_37, checkS, on_pl_eq, Tryz.underlying1, sz1, by1, ze1, Tryz.underlying2, sz2, by2, ze2, Tryz.underlying3, sz3, by3, ze3, Tryz.underlying4, sz4, by4, ze4, Tryz.underlying6, sz6, by6, ze6, Tryz.underlying7, sz7, by7, ze7, fa7_0, fa7_1, fa7_2, fa7_3, Tryz.underlying9, sz9, by9, ze9, Tryz.underlying22, sz22, by22, ze22, Tryz.underlying25, sz25, by25, ze25, Tryz.underlying26, sz26, by26, ze26, Tryz.underlying27, sz27, by27, ze27, Tryz.underlying28, sz28, by28, ze28, Tryz.underlying29, sz29, by29, ze29, Tryz.underlying30, sz30, by30, ze30, Tryz.underlying31, sz31, by31, ze31, Tryz.underlying33, sz33, by33, ze33, fa33_0, fa33_1, fa33_2, fa33_3, fa33_4, fa33_5, fa33_6, fa33_7, fa33_8, fa33_9, Tryz.underlying35, sz35, by35, ze35, Tryz.underlying41, sz41, by41, ze41, fa41_0, fa41_1, fa41_2, fa41_3, Tryz.underlying46, sz46, by46, ze46, Tryz.underlying55, sz55, by55, ze55, fa55_0, fa55_1, Tryz.underlying57, sz57, by57, ze57, fa57_0, fa57_1, fa57_2, fa57_3, fa57_4, fa57_5, fa57_6, Tryz.underlying77, sz77, by77, ze77, fa77_0, fa77_1, fa77_2, Tryz.underlying86, sz86, by86, ze86, fa86_0, fa86_1, fa86_2, Tryz.underlying88, sz88, by88, ze88, fa88_0, fa88_1, fa88_2, fa88_3, Tryz.underlying89, sz89, by89, ze89, fa89_0, fa89_1, fa89_2, Tryz.underlying92, sz92, by92, ze92, fa92_0, fa92_1, fa92_2, fa92_3, Tryz.underlying93, sz93, by93, ze93, Tryz.underlying95, sz95, by95, ze95, fa95_0, fa95_1, fa95_2, go_sem, ↓reduceIte, reduceCtorEq, Nat.reduceEqDiff, Nat.reduceLT, ↓all_qV, Int.reduceToNat, Int.reduceLT, Int.reduceLE, Nat.reduceAdd, Nat.reduceLeDiff, Nat.reduceMul, ev_callG, gcallK_b, gcallK_w, callGc_true, callGc_false, List.forall_mem_cons, List.not_mem_nil, PV.one, AV.one]
  refine ⟨hV, ?_⟩
  refine AWp.adoptS (s := 9) (κ := 8000) (k := 1) (by simp [look]) (by simp [hget]) (by decide) ?_
  refine AWp.loop (T := plan0) (α := Nat × List Int) (fun y => ([(1, .pv (.sl rs)), (2, .pv (.int .i64 dd)), (3, .ptr 3 0), (9, .rs 8000 y.2.length), (19, .pv (.sl le)), (20, .pv (.int .i64 le.length)), (21, .pv (.int .i64 y.1))], [(3, .cells [.pv (.int .i64 fi), .pv (.int .i64 ye), .pv (.sl tr), .pv (.sl la), .pv (.sl lb), .pv (.sl lc), .pv (.sl ld), .pv (.sl le), .pv (.sl lf), .pv (.sl lg)]), (8000, .row 1 (y.2.map intV))]))
    (fun y => y.1 ≤ le.length ∧ y.2.length ≤ y.1 ∧ openL rs dd le 0 = y.2 ++ openL rs dd (le.drop y.1) y.1) (fun y => le.length - y.1)
    ⟨(0, []), ⟨Nat.zero_le _, Nat.zero_le _, by simp⟩, ⟨by simp [fitR, look, upd], by simp [fitH, hget, hset], rfl, rfl, rfl⟩⟩ ?_
  rintro ⟨i, acc⟩ ⟨h1, h3, h2⟩
  simp only at h1 h2 h3
  have hi1 : IntKind.i64.wrap ((i : Int) + 1) = ((i + 1 : Nat) : Int) := by rw [i64_in _ (by omega)]; omega
  have tk : (acc.map intV).take acc.length = acc.map intV := List.take_of_length_le (by simp)
  by_cases hlt : i < le.length
  · have c0 : decide ((i : Int) < (le.length : Int)) = true := by simp; omega
    have hdr : le.drop i = le.getD i default :: le.drop (i + 1) := by rw [List.drop_eq_getElem_cons hlt]; simp [List.getD_eq_getElem?_getD, hlt]
    have hcm := hco.2 _ (getD_mem hlt)
    rw [hdr, openL] at h2
    obtain ⟨x, hg⟩ : ∃ x, le.getD i default = x := ⟨_, rfl⟩
    rw [hg] at hcm h2
    have hC := hcm.isC
    obtain ⟨c, y, am, k, d, s, l, rfl, _⟩ := hcm
    have hb : ((relF (.agg [.str c, .int .i64 y, .int .i64 am, .int .i64 k, .int .i64 d, .str s, .int .i64 l]) rs).2 && decide ((relF (.agg [.str c, .int .i64 y, .int .i64 am, .int .i64 k, .int .i64 d, .str s, .int .i64 l]) rs).1 ≤ dd)) = holdB (.agg [.str c, .int .i64 y, .int .i64 am, .int .i64 k, .int .i64 d, .str s, .int .i64 l]) rs dd := rfl
    generalize hB : holdB (.agg [.str c, .int .i64 y, .int .i64 am, .int .i64 k, .int .i64 d, .str s, .int .i64 l]) rs dd = B at hb h2
    simp only [c0, hg, hi1, hb, tk, List.length_map, List.take_succ_cons, List.take_nil, k_openS_18, holdsS, on_pli_eq, k_openS_37, checkS, on_pl_eq, Tryz.underlying1, sz1, by1, ze1, Tryz.underlying2, sz2, by2, ze2, Tryz.underlying3, sz3, by3, ze3, Tryz.underlying4, sz4, by4, ze4, Tryz.underlying6, sz6, by6, ze6, Tryz.underlying7, sz7, by7, ze7, fa7_0, fa7_1, fa7_2, fa7_3, Tryz.underlying9, sz9, by9, ze9, Tryz.underlying22, sz22, by22, ze22, Tryz.underlying25, sz25, by25, ze25, Tryz.underlying26, sz26, by26, ze26, Tryz.underlying27, sz27, by27, ze27, Tryz.underlying28, sz28, by28, ze28, Tryz.underlying29, sz29, by29, ze29, Tryz.underlying30, sz30, by30, ze30, Tryz.underlying31, sz31, by31, ze31, Tryz.underlying33, sz33, by33, ze33, fa33_0, fa33_1, fa33_2, fa33_3, fa33_4, fa33_5, fa33_6, fa33_7, fa33_8, fa33_9, Tryz.underlying35, sz35, by35, ze35, Tryz.underlying41, sz41, by41, ze41, fa41_0, fa41_1, fa41_2, fa41_3, Tryz.underlying46, sz46, by46, ze46, Tryz.underlying55, sz55, by55, ze55, fa55_0, fa55_1, Tryz.underlying57, sz57, by57, ze57, fa57_0, fa57_1, fa57_2, fa57_3, fa57_4, fa57_5, fa57_6, Tryz.underlying77, sz77, by77, ze77, fa77_0, fa77_1, fa77_2, Tryz.underlying86, sz86, by86, ze86, fa86_0, fa86_1, fa86_2, Tryz.underlying88, sz88, by88, ze88, fa88_0, fa88_1, fa88_2, fa88_3, Tryz.underlying89, sz89, by89, ze89, fa89_0, fa89_1, fa89_2, Tryz.underlying92, sz92, by92, ze92, fa92_0, fa92_1, fa92_2, fa92_3, Tryz.underlying93, sz93, by93, ze93, Tryz.underlying95, sz95, by95, ze95, fa95_0, fa95_1, fa95_2, plan0, go_sem, ↓reduceIte, reduceCtorEq, Nat.reduceEqDiff, Nat.reduceLT, ↓all_qV, Int.reduceToNat, Int.reduceLT, Int.reduceLE, Nat.reduceAdd, Nat.reduceLeDiff, Nat.reduceMul, ev_callG, gcallK_b, gcallK_w, callGc_true, callGc_false, List.forall_mem_cons, List.not_mem_nil, PV.one, AV.one]
    refine ⟨⟨by omega, by omega⟩, ⟨hC, hR, by omega⟩, fun h9 => ⟨rfl, Nat.le_refl _, by omega, by simp only [maxLen]; omega, (i + 1, acc ++ [(i : Int)]), ⟨by simp only; omega, by simp; omega, ?_⟩, by simp only; omega, ⟨by simp [fitR, look], by simp [fitH, hget, intV], rfl, rfl, rfl⟩⟩,
      fun h9 => ⟨(i + 1, acc), ⟨by simp only; omega, by simp only; omega, ?_⟩, by simp only; omega, ⟨by simp [fitR, look], by simp [fitH, hget], rfl, rfl, rfl⟩⟩⟩
    · have : B = false := by simpa using h9
      rw [h2, this, cond_false]; simp
    · have : B = true := by simpa using h9
      rw [h2, this, cond_true]; simp
  · have c0 : decide ((i : Int) < (le.length : Int)) = false := by simp; omega
    rw [List.drop_eq_nil_of_le (by omega), openL, List.append_nil] at h2
    simp only [c0, tk, List.length_map, Tryz.underlying1, sz1, by1, ze1, Tryz.underlying2, sz2, by2, ze2, Tryz.underlying3, sz3, by3, ze3, Tryz.underlying4, sz4, by4, ze4, Tryz.underlying6, sz6, by6, ze6, Tryz.underlying7, sz7, by7, ze7, fa7_0, fa7_1, fa7_2, fa7_3, Tryz.underlying9, sz9, by9, ze9, Tryz.underlying22, sz22, by22, ze22, Tryz.underlying25, sz25, by25, ze25, Tryz.underlying26, sz26, by26, ze26, Tryz.underlying27, sz27, by27, ze27, Tryz.underlying28, sz28, by28, ze28, Tryz.underlying29, sz29, by29, ze29, Tryz.underlying30, sz30, by30, ze30, Tryz.underlying31, sz31, by31, ze31, Tryz.underlying33, sz33, by33, ze33, fa33_0, fa33_1, fa33_2, fa33_3, fa33_4, fa33_5, fa33_6, fa33_7, fa33_8, fa33_9, Tryz.underlying35, sz35, by35, ze35, Tryz.underlying41, sz41, by41, ze41, fa41_0, fa41_1, fa41_2, fa41_3, Tryz.underlying46, sz46, by46, ze46, Tryz.underlying55, sz55, by55, ze55, fa55_0, fa55_1, Tryz.underlying57, sz57, by57, ze57, fa57_0, fa57_1, fa57_2, fa57_3, fa57_4, fa57_5, fa57_6, Tryz.underlying77, sz77, by77, ze77, fa77_0, fa77_1, fa77_2, Tryz.underlying86, sz86, by86, ze86, fa86_0, fa86_1, fa86_2, Tryz.underlying88, sz88, by88, ze88, fa88_0, fa88_1, fa88_2, fa88_3, Tryz.underlying89, sz89, by89, ze89, fa89_0, fa89_1, fa89_2, Tryz.underlying92, sz92, by92, ze92, fa92_0, fa92_1, fa92_2, fa92_3, Tryz.underlying93, sz93, by93, ze93, Tryz.underlying95, sz95, by95, ze95, fa95_0, fa95_1, fa95_2, plan0, go_sem, ↓reduceIte, reduceCtorEq, Nat.reduceEqDiff, Nat.reduceLT, ↓all_qV, Int.reduceToNat, Int.reduceLT, Int.reduceLE, Nat.reduceAdd, Nat.reduceLeDiff, Nat.reduceMul]
    rw [h2]
    exact ⟨Nat.le_refl _, rfl⟩
noncomputable def C5 (g : FuncId) : PSpec := (putΦ C4 21 openS) g
theorem hC5 : TabSound GG C5 := (hC4.put w_openS)
end Go.AM
namespace Go.AM
open Go Go.Proofs Go.IntWalk
set_option maxRecDepth 100000
set_option maxHeartbeats 2000000
set_option linter.unusedSimpArgs false
set_option linter.unusedVariables false
theorem take_oneI {l : List Int} {k : Nat} (h : k < l.length) (f : Int → Int) : sumL ((l.take (k + 1)).map f) = sumL ((l.take k).map f) + f (l.getD k 0) := by
  rw [List.take_add_one, List.map_append, sumL_append]
  simp [List.getElem?_eq_getElem h, List.getD_eq_getElem?_getD, sumL]
theorem openL_mem {rs : List PV} {d : Int} : ∀ {e : List PV} {i k : Int}, k ∈ openL rs d e i → i ≤ k ∧ k < i + e.length
  | [], i, k, h => by cases h
  | c :: r, i, k, h => by
    unfold openL at h
    cases hb : holdB c rs d with
    | true =>
      rw [hb, cond_true] at h
      have := openL_mem h
      simp only [List.length_cons]; omega
    | false =>
      rw [hb, cond_false] at h
      rcases List.mem_cons.1 h with rfl | h
      · simp only [List.length_cons]; omega
      · have := openL_mem h
        simp only [List.length_cons]; omega
theorem openL_len {rs : List PV} {d : Int} : ∀ {e : List PV} {i : Int}, (openL rs d e i).length ≤ e.length
  | [], i => Nat.le_refl _
  | c :: r, i => by
    unfold openL
    have := openL_len (rs := rs) (d := d) (e := r) (i := i + 1)
    cases holdB c rs d with
    | true => rw [cond_true, List.length_cons]; omega
    | false => rw [cond_false, List.length_cons, List.length_cons]; omega
def conCode : PV → List UInt8
  | .agg [.str c, _, _, _, _, _, _] => c
  | _ => []
def conAm : PV → Int
  | .agg [_, _, .int _ a, _, _, _, _] => a
  | _ => 0
/-- What a condition blocks of a code and a year. -/
def blV (code : List UInt8) (y : Int) (c : PV) : Int := if (conCode c == code && conYear c == y) = true then conAm c else 0
def blkF (rs : List PV) (code : List UInt8) (y d : Int) (e : List PV) : Int := sumL ((openL rs d e 0).map fun k => blV code y (e.getD k.toNat default))
theorem ConP.bl {lv : List PV} {f yy : Int} {x : PV} (h : ConP lv f yy x) (code : List UInt8) (y : Int) : 0 ≤ blV code y x ∧ blV code y x ≤ 200 := by
  obtain ⟨c, y', am, k, d, s, l, rfl, _, _, h3, _⟩ := h
  unfold blV
  split
  · exact h3
  · omega
theorem sumL_boundI {f : Int → Int} {B : Int} : ∀ l : List Int, (∀ x, x ∈ l → 0 ≤ f x ∧ f x ≤ B) → 0 ≤ sumL (l.map f) ∧ sumL (l.map f) ≤ B * (l.length : Int)
  | [], _ => by simp [sumL]
  | x :: r, h => by
    have h1 := sumL_boundI (f := f) (B := B) r (fun y hy => h y (List.mem_cons_of_mem _ hy))
    have h2 := h x List.mem_cons_self
    simp only [List.map_cons, sumL, List.length_cons]
    have : B * ((r.length + 1 : Nat) : Int) = B * r.length + B := by rw [Int.natCast_add, Int.mul_add]; simp
    rw [this]; omega
noncomputable def blockedS : PSpec := on_plsii (fun l rs _ _ _ => ∃ L : Law, l = L.v ∧ L.ok ∧ okRecs L rs) (fun l rs code y d => .tup [.int .i64 (blkF rs code y d (lawE l)), .int .i64 0])
theorem k_blockedS_21 {args : List PV} : C5 21 args = openS args := rfl
theorem w_blockedS : PSound GG 17 blockedS := by
  refine PSound.of_wpc (C := cxP Tryz.prog C5 [] 53) (T := plan0) Tryz.func17 rfl rfl rfl (Fit.pure (G := GG) hC5 mixed) (fun args h => ?_)
  unfold blockedS at h
  obtain ⟨l, rs, code, yr, dd, rfl, hp⟩ := on_plsii_inv h
  refine ⟨by simp [cxP], ?_⟩
  simp only [blockedS, on_plsii_eq, Tryz.f17, argL, plan0]
  obtain ⟨L, rfl, hok, hr⟩ := hp
  have hV : ∃ L' : Law, L.v = L'.v ∧ L'.ok ∧ okRecs L' rs := ⟨L, rfl, hok, hr⟩
  have hco := hok.k.co
  obtain ⟨⟨fi, ye, tr, la, lb, lc, ld, le, lf, lg⟩, hL⟩ : ∃ L', L = L' := ⟨L, rfl⟩
  subst hL
  simp only [Law.v, lawV] at hV hco
  obtain ⟨op, hop⟩ : ∃ op, openL rs dd le 0 = op := ⟨_, rfl⟩
  have hmem : ∀ k, k ∈ op → 0 ≤ k ∧ k < (le.length : Int) := fun k hk => by
    rw [← hop] at hk
    have := openL_mem hk
    omega
  have holn : op.length ≤ 3 := by
    rw [← hop]; exact Nat.le_trans openL_len hco.1
  have hbv : ∀ k, k ∈ op → 0 ≤ blV code yr (le.getD k.toNat default) ∧ blV code yr (le.getD k.toNat default) ≤ 200 := fun k hk => by
    have h1 := hmem k hk
    exact (hco.2 _ (getD_mem (show k.toNat < le.length by omega))).bl code yr
  have hres : blkF rs code yr dd le = sumL (op.map fun k => blV code yr (le.getD k.toNat default)) := by unfold blkF; rw [hop]
  simp only [Law.v, lawV, lawE, hres, hop, bne_self_eq_false, List.length_map, List.take_succ_cons, List.take_nil, k_blockedS_21, openS, on_pli_eq, Tryz.underlying1, sz1, by1, ze1, Tryz.underlying2, sz2, by2, ze2, Tryz.underlying3, sz3, by3, ze3, Tryz.underlying4, sz4, by4, ze4, Tryz.underlying6, sz6, by6, ze6, Tryz.underlying7, sz7, by7, ze7, fa7_0, fa7_1, fa7_2, fa7_3, Tryz.underlying9, sz9, by9, ze9, Tryz.underlying22, sz22, by22, ze22, Tryz.underlying25, sz25, by25, ze25, Tryz.underlying26, sz26, by26, ze26, Tryz.underlying27, sz27, by27, ze27, Tryz.underlying28, sz28, by28, ze28, Tryz.underlying29, sz29, by29, ze29, Tryz.underlying30, sz30, by30, ze30, Tryz.underlying31, sz31, by31, ze31, Tryz.underlying33, sz33, by33, ze33, fa33_0, fa33_1, fa33_2, fa33_3, fa33_4, fa33_5, fa33_6, fa33_7, fa33_8, fa33_9, Tryz.underlying35, sz35, by35, ze35, Tryz.underlying41, sz41, by41, ze41, fa41_0, fa41_1, fa41_2, fa41_3, Tryz.underlying46, sz46, by46, ze46, Tryz.underlying55, sz55, by55, ze55, fa55_0, fa55_1, Tryz.underlying57, sz57, by57, ze57, fa57_0, fa57_1, fa57_2, fa57_3, fa57_4, fa57_5, fa57_6, Tryz.underlying61, sz61, by61, ze61, Tryz.underlying77, sz77, by77, ze77, fa77_0, fa77_1, fa77_2, Tryz.underlying86, sz86, by86, ze86, fa86_0, fa86_1, fa86_2, Tryz.underlying88, sz88, by88, ze88, fa88_0, fa88_1, fa88_2, fa88_3, Tryz.underlying89, sz89, by89, ze89, fa89_0, fa89_1, fa89_2, Tryz.underlying92, sz92, by92, ze92, fa92_0, fa92_1, fa92_2, fa92_3, Tryz.underlying93, sz93, by93, ze93, Tryz.underlying95, sz95, by95, ze95, fa95_0, fa95_1, fa95_2, go_sem, ↓reduceIte, reduceCtorEq, Nat.reduceEqDiff, Nat.reduceLT, ↓all_qV, Int.reduceToNat, Int.reduceLT, Int.reduceLE, Nat.reduceAdd, Nat.reduceLeDiff, Nat.reduceMul, ev_callG, gcallK_b, gcallK_w, callGc_true, callGc_false, List.forall_mem_cons, List.not_mem_nil, PV.one, AV.one]
  refine ⟨hV, ?_⟩
  refine AWp.loop (T := plan0) (α := Nat) (fun i => ([(2, .pv (.str code)), (3, .pv (.int .i64 yr)), (5, .ptr 5 0), (13, .pv (.int .i64 0)), (14, .pv (.int .i64 (sumL ((op.take i).map fun k => blV code yr (le.getD k.toNat default))))), (25, .pv (.sl (op.map intV))), (26, .pv (.int .i64 op.length)), (27, .pv (.int .i64 i))], [(5, .cells [.pv (.int .i64 fi), .pv (.int .i64 ye), .pv (.sl tr), .pv (.sl la), .pv (.sl lb), .pv (.sl lc), .pv (.sl ld), .pv (.sl le), .pv (.sl lf), .pv (.sl lg)])]))
    (fun i => i ≤ op.length) (fun i => op.length - i)
    ⟨0, Nat.zero_le _, ⟨by simp [fitR, look, sumL], by simp [fitH, hget], rfl, rfl, rfl⟩⟩ ?_
  intro i h1
  have hi1 : IntKind.i64.wrap ((i : Int) + 1) = ((i + 1 : Nat) : Int) := by rw [i64_in _ (by omega)]; omega
  by_cases hlt : i < op.length
  · have c0 : decide ((i : Int) < (op.length : Int)) = true := by simp; omega
    have hg := getD_intV hlt
    have hkm : op.getD i 0 ∈ op := by rw [List.getD_eq_getElem?_getD, List.getElem?_eq_getElem hlt]; exact List.getElem_mem _
    have hone := take_oneI hlt (fun k => blV code yr (le.getD k.toNat default))
    have hb := sumL_boundI (f := fun k => blV code yr (le.getD k.toNat default)) (B := 200) (op.take i) (fun x hx => hbv x (List.mem_of_mem_take hx))
    have hbl : (op.take i).length ≤ 3 := by rw [List.length_take]; omega
    have hk1 := hmem _ hkm
    have hk2 := hbv _ hkm
    obtain ⟨k, hk⟩ := Int.eq_ofNat_of_zero_le hk1.1
    rw [hk] at hg hone hk1 hk2
    have hcm := hco.2 _ (getD_mem (show k < le.length by omega))
    have htn : ((k : Nat) : Int).toNat = k := by omega
    rw [htn] at hone hk2
    obtain ⟨x, hx⟩ : ∃ x, le.getD k default = x := ⟨_, rfl⟩
    rw [hx] at hcm hone hk2
    obtain ⟨c, y, am, kd, d, s, l, rfl, _, _, ham, _⟩ := hcm
    have hbe : blV code yr (.agg [.str c, .int .i64 y, .int .i64 am, .int .i64 kd, .int .i64 d, .str s, .int .i64 l]) = if (c == code && y == yr) = true then am else 0 := rfl
    rw [hbe] at hone hk2
    generalize sumL ((op.take i).map fun k => blV code yr (le.getD k.toNat default)) = acc at hone hb ⊢
    have hw : IntKind.i64.wrap (acc + am) = acc + am := i64_in _ (by omega)
    simp only [c0, hg, hx, hi1, hw, htn, List.length_map, List.take_succ_cons, List.take_nil, k_blockedS_21, openS, on_pli_eq, Tryz.underlying1, sz1, by1, ze1, Tryz.underlying2, sz2, by2, ze2, Tryz.underlying3, sz3, by3, ze3, Tryz.underlying4, sz4, by4, ze4, Tryz.underlying6, sz6, by6, ze6, Tryz.underlying7, sz7, by7, ze7, fa7_0, fa7_1, fa7_2, fa7_3, Tryz.underlying9, sz9, by9, ze9, Tryz.underlying22, sz22, by22, ze22, Tryz.underlying25, sz25, by25, ze25, Tryz.underlying26, sz26, by26, ze26, Tryz.underlying27, sz27, by27, ze27, Tryz.underlying28, sz28, by28, ze28, Tryz.underlying29, sz29, by29, ze29, Tryz.underlying30, sz30, by30, ze30, Tryz.underlying31, sz31, by31, ze31, Tryz.underlying33, sz33, by33, ze33, fa33_0, fa33_1, fa33_2, fa33_3, fa33_4, fa33_5, fa33_6, fa33_7, fa33_8, fa33_9, Tryz.underlying35, sz35, by35, ze35, Tryz.underlying41, sz41, by41, ze41, fa41_0, fa41_1, fa41_2, fa41_3, Tryz.underlying46, sz46, by46, ze46, Tryz.underlying55, sz55, by55, ze55, fa55_0, fa55_1, Tryz.underlying57, sz57, by57, ze57, fa57_0, fa57_1, fa57_2, fa57_3, fa57_4, fa57_5, fa57_6, Tryz.underlying61, sz61, by61, ze61, Tryz.underlying77, sz77, by77, ze77, fa77_0, fa77_1, fa77_2, Tryz.underlying86, sz86, by86, ze86, fa86_0, fa86_1, fa86_2, Tryz.underlying88, sz88, by88, ze88, fa88_0, fa88_1, fa88_2, fa88_3, Tryz.underlying89, sz89, by89, ze89, fa89_0, fa89_1, fa89_2, Tryz.underlying92, sz92, by92, ze92, fa92_0, fa92_1, fa92_2, fa92_3, Tryz.underlying93, sz93, by93, ze93, Tryz.underlying95, sz95, by95, ze95, fa95_0, fa95_1, fa95_2, plan0, go_sem, ↓reduceIte, reduceCtorEq, Nat.reduceEqDiff, Nat.reduceLT, ↓all_qV, Int.reduceToNat, Int.reduceLT, Int.reduceLE, Nat.reduceAdd, Nat.reduceLeDiff, Nat.reduceMul, ev_callG, gcallK_b, gcallK_w, callGc_true, callGc_false, List.forall_mem_cons, List.not_mem_nil, PV.one, AV.one]
    and_intros
    all_goals try first | omega | trivial
    · intro h9
      refine ⟨i + 1, by omega, by omega, ⟨?_, by simp [fitH, hget], rfl, rfl, rfl⟩⟩
      rw [if_pos h9] at hone
      rw [hone]; simp [fitR, look]
    · intro h9
      refine ⟨i + 1, by omega, by omega, ⟨?_, by simp [fitH, hget], rfl, rfl, rfl⟩⟩
      rw [if_neg (by rw [h9]; decide), Int.add_zero] at hone
      rw [hone]; simp [fitR, look]
  · have c0 : decide ((i : Int) < (op.length : Int)) = false := by simp; omega
    rw [List.take_of_length_le (by omega : op.length ≤ i)]
    simp only [c0, List.length_map, Tryz.underlying1, sz1, by1, ze1, Tryz.underlying2, sz2, by2, ze2, Tryz.underlying3, sz3, by3, ze3, Tryz.underlying4, sz4, by4, ze4, Tryz.underlying6, sz6, by6, ze6, Tryz.underlying7, sz7, by7, ze7, fa7_0, fa7_1, fa7_2, fa7_3, Tryz.underlying9, sz9, by9, ze9, Tryz.underlying22, sz22, by22, ze22, Tryz.underlying25, sz25, by25, ze25, Tryz.underlying26, sz26, by26, ze26, Tryz.underlying27, sz27, by27, ze27, Tryz.underlying28, sz28, by28, ze28, Tryz.underlying29, sz29, by29, ze29, Tryz.underlying30, sz30, by30, ze30, Tryz.underlying31, sz31, by31, ze31, Tryz.underlying33, sz33, by33, ze33, fa33_0, fa33_1, fa33_2, fa33_3, fa33_4, fa33_5, fa33_6, fa33_7, fa33_8, fa33_9, Tryz.underlying35, sz35, by35, ze35, Tryz.underlying41, sz41, by41, ze41, fa41_0, fa41_1, fa41_2, fa41_3, Tryz.underlying46, sz46, by46, ze46, Tryz.underlying55, sz55, by55, ze55, fa55_0, fa55_1, Tryz.underlying57, sz57, by57, ze57, fa57_0, fa57_1, fa57_2, fa57_3, fa57_4, fa57_5, fa57_6, Tryz.underlying61, sz61, by61, ze61, Tryz.underlying77, sz77, by77, ze77, fa77_0, fa77_1, fa77_2, Tryz.underlying86, sz86, by86, ze86, fa86_0, fa86_1, fa86_2, Tryz.underlying88, sz88, by88, ze88, fa88_0, fa88_1, fa88_2, fa88_3, Tryz.underlying89, sz89, by89, ze89, fa89_0, fa89_1, fa89_2, Tryz.underlying92, sz92, by92, ze92, fa92_0, fa92_1, fa92_2, fa92_3, Tryz.underlying93, sz93, by93, ze93, Tryz.underlying95, sz95, by95, ze95, fa95_0, fa95_1, fa95_2, plan0, go_sem, ↓reduceIte, reduceCtorEq, Nat.reduceEqDiff, Nat.reduceLT, ↓all_qV, Int.reduceToNat, Int.reduceLT, Int.reduceLE, Nat.reduceAdd, Nat.reduceLeDiff, Nat.reduceMul]
noncomputable def C6 (g : FuncId) : PSpec := (putΦ C5 17 blockedS) g
theorem hC6 : TabSound GG C6 := (hC5.put w_blockedS)
end Go.AM
