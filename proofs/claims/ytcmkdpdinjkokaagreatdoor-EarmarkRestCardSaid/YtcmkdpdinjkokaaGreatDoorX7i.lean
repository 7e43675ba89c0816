/-
  A part of a proof: see the last text of this claim for what is proved.
-/
import Derived.Test.YtcmkdpdinjkokaaGreatDoorXG
import Derived.Test.YtcmkdpdinjkokaaGreatDoorZMa
/-! Shares, Earned, Rest; In, lastDay, leaf; the document's Received -/
namespace Go.AM
open Go Go.Proofs Go.IntWalk
set_option maxRecDepth 100000
set_option maxHeartbeats 2000000
set_option linter.unusedSimpArgs false
set_option linter.unusedVariables false
def totB (n : Int) : Bool := decide (-1000000000000000 ≤ n) && decide (n ≤ 1000000000000000)
noncomputable def totS : PSpec := on_i (fun _ => True) (fun n => .bool (totB n))
theorem w_totS : PSound GG 45 totS := by
  refine PSound.of_wpc (C := cxP Tryz.prog C6 [] 9) (T := plan0) Tryz.func45 rfl rfl rfl (Fit.pure (G := GG) hC6 mixed) (fun args h => ?_)
  unfold totS at h
  obtain ⟨n, rfl, hp⟩ := on_i_inv h
  refine ⟨by simp [cxP], ?_⟩
  simp only [totS, on_i_eq, Tryz.f45, argL, plan0]
  simp only [Tryz.underlying3, sz3, by3, ze3, Tryz.underlying4, sz4, by4, ze4, go_sem, ↓reduceIte, reduceCtorEq, Nat.reduceEqDiff, Nat.reduceLT, ↓all_qV, Int.reduceToNat, Int.reduceLT, Int.reduceLE, Nat.reduceAdd, Nat.reduceLeDiff, Nat.reduceMul]
  rfl
noncomputable def C7 (g : FuncId) : PSpec := (putΦ C6 45 totS) g
theorem hC7 : TabSound GG C7 := (hC6.put w_totS)
/-- Numbers whose sums are totals. -/
def smallL (l : List Int) : Prop := l.length ≤ 1000 ∧ ∀ x, x ∈ l → -100000000000 ≤ x ∧ x ≤ 100000000000
theorem smallL.sum {l : List Int} (h : ∀ x, x ∈ l → -100000000000 ≤ x ∧ x ≤ 100000000000) : -(100000000000 * (l.length : Int)) ≤ sumL l ∧ sumL l ≤ 100000000000 * (l.length : Int) := by
  induction l with
  | nil => simp [sumL]
  | cons x r ih =>
    have h1 := ih (fun y hy => h y (List.mem_cons_of_mem _ hy))
    have h2 := h x List.mem_cons_self
    simp only [sumL, List.length_cons]
    omega
theorem totB_ok {n : Int} (h : -1000000000000000 ≤ n ∧ n ≤ 1000000000000000) : totB n = true := by unfold totB; simp; omega
noncomputable def msS : PSpec := on_l (fun es => ∃ l : List Int, es = l.map intV ∧ smallL l) (fun es => .tup [.int .i64 (sumL (es.map nOf)), .int .i64 0])
theorem k_msS_45 {args : List PV} : C7 45 args = totS args := rfl
theorem w_msS : PSound GG 33 msS := by
  refine PSound.of_wpc (C := cxP Tryz.prog C7 [] 28) (T := plan0) Tryz.func33 rfl rfl rfl (Fit.pure (G := GG) hC7 mixed) (fun args h => ?_)
  unfold msS at h
  obtain ⟨es, rfl, hp⟩ := on_l_inv h
  refine ⟨by simp [cxP], ?_⟩
  simp only [msS, on_l_eq, Tryz.f33, argL, plan0]
  obtain ⟨l, rfl, hl, hb⟩ := hp
  have hno : ∀ l : List Int, (l.map intV).map nOf = l := fun l => by simp [List.map_map, Function.comp_def, nOf, intV]
  simp only [hno, List.length_map, Tryz.underlying3, sz3, by3, ze3, Tryz.underlying4, sz4, by4, ze4, Tryz.underlying22, sz22, by22, ze22, Tryz.underlying46, sz46, by46, ze46, go_sem, ↓reduceIte, reduceCtorEq, Nat.reduceEqDiff, Nat.reduceLT, ↓all_qV, Int.reduceToNat, Int.reduceLT, Int.reduceLE, Nat.reduceAdd, Nat.reduceLeDiff, Nat.reduceMul]
  refine AWp.loop (T := plan0) (α := Nat) (fun i => ([(4, .pv (.int .i64 (sumL (l.take i)))), (7, .pv (.sl (l.map intV))), (8, .pv (.int .i64 l.length)), (9, .pv (.int .i64 i))], [])) (fun i => i ≤ l.length) (fun i => l.length - i)
    ⟨0, Nat.zero_le _, ⟨by simp [fitR, look, sumL], trivial, rfl, rfl, rfl⟩⟩ ?_
  intro i h1
  have hi1 : IntKind.i64.wrap ((i : Int) + 1) = ((i + 1 : Nat) : Int) := by rw [i64_in _ (by omega)]; omega
  by_cases hlt : i < l.length
  · have c0 : decide ((i : Int) < (l.length : Int)) = true := by simp; omega
    have k1 := getD_intV hlt
    have hm : l.getD i 0 ∈ l := by rw [List.getD_eq_getElem?_getD, List.getElem?_eq_getElem hlt]; exact List.getElem_mem _
    have hx := hb _ hm
    have h2 : sumL (l.take (i + 1)) = sumL (l.take i) + l.getD i 0 := by
      rw [List.take_add_one, sumL_append]
      simp [List.getElem?_eq_getElem hlt, List.getD_eq_getElem?_getD, sumL]
    have h3 := smallL.sum (l := l.take i) (fun x hx => hb x (List.mem_of_mem_take hx))
    have h4 : (l.take i).length ≤ 1000 := by rw [List.length_take]; omega
    generalize l.getD i 0 = n at h2 k1 hx
    generalize sumL (l.take i) = acc at h2 h3 ⊢
    have hw : IntKind.i64.wrap (acc + n) = acc + n := i64_in _ (by omega)
    have t1 : totB n = true := totB_ok (by omega)
    have t2 : totB (acc + n) = true := totB_ok (by omega)
    simp only [c0, k1, hi1, hw, t1, t2, List.length_map, k_msS_45, totS, on_i_eq, Tryz.underlying3, sz3, by3, ze3, Tryz.underlying4, sz4, by4, ze4, Tryz.underlying22, sz22, by22, ze22, Tryz.underlying46, sz46, by46, ze46, plan0, go_sem, ↓reduceIte, reduceCtorEq, Nat.reduceEqDiff, Nat.reduceLT, ↓all_qV, Int.reduceToNat, Int.reduceLT, Int.reduceLE, Nat.reduceAdd, Nat.reduceLeDiff, Nat.reduceMul, ev_callG, gcallK_b, gcallK_w, callGc_true, callGc_false, List.forall_mem_cons, List.not_mem_nil, PV.one, AV.one]
    refine ⟨⟨by omega, by omega⟩, i + 1, by omega, by omega, ⟨?_, trivial, rfl, rfl, rfl⟩⟩
    rw [h2]; simp [fitR, look]
  · have c0 : decide ((i : Int) < (l.length : Int)) = false := by simp; omega
    rw [List.take_of_length_le (by omega)]
    simp only [c0, Tryz.underlying3, sz3, by3, ze3, Tryz.underlying4, sz4, by4, ze4, Tryz.underlying22, sz22, by22, ze22, Tryz.underlying46, sz46, by46, ze46, plan0, go_sem, ↓reduceIte, reduceCtorEq, Nat.reduceEqDiff, Nat.reduceLT, ↓all_qV, Int.reduceToNat, Int.reduceLT, Int.reduceLE, Nat.reduceAdd, Nat.reduceLeDiff, Nat.reduceMul]
noncomputable def C8 (g : FuncId) : PSpec := (putΦ C7 33 msS) g
theorem hC8 : TabSound GG C8 := (hC7.put w_msS)
noncomputable def addS : PSpec := on_ii (fun a b => (-100000000000 ≤ a ∧ a ≤ 100000000000) ∧ (-100000000000 ≤ b ∧ b ≤ 100000000000)) (fun a b => .tup [.int .i64 (a + b), .int .i64 0])
theorem k_addS_33 {args : List PV} : C8 33 args = msS args := rfl
theorem w_addS : PSound GG 39 addS := by
  refine PSound.of_wpc (C := cxP Tryz.prog C8 [] 12) (T := plan0) Tryz.func39 rfl rfl rfl (Fit.pure (G := GG) hC8 mixed) (fun args h => ?_)
  unfold addS at h
  obtain ⟨a, b, rfl, hp⟩ := on_ii_inv h
  refine ⟨by simp [cxP], ?_⟩
  simp only [addS, on_ii_eq, Tryz.f39, argL, plan0]
  obtain ⟨h1, h2⟩ := hp
  have e : sumL [a, b] = a + b := by simp [sumL]
  have hl : ∃ l : List Int, [PV.int .i64 a, PV.int .i64 b] = l.map intV ∧ smallL l := ⟨[a, b], rfl, by simp, fun x hx => by
    simp only [List.mem_cons, List.not_mem_nil, or_false] at hx
    rcases hx with rfl | rfl
    · exact h1
    · exact h2⟩
  simp only [nOf, e, List.length_cons, List.length_nil, k_addS_33, msS, on_l_eq, Tryz.underlying1, sz1, by1, ze1, Tryz.underlying2, sz2, by2, ze2, Tryz.underlying3, sz3, by3, ze3, Tryz.underlying22, sz22, by22, ze22, Tryz.underlying46, sz46, by46, ze46, Tryz.underlying47, sz47, by47, ze47, go_sem, ↓reduceIte, reduceCtorEq, Nat.reduceEqDiff, Nat.reduceLT, ↓all_qV, Int.reduceToNat, Int.reduceLT, Int.reduceLE, Nat.reduceAdd, Nat.reduceLeDiff, Nat.reduceMul, ev_callG, gcallK_b, gcallK_w, callGc_true, callGc_false, List.forall_mem_cons, List.not_mem_nil, PV.one, AV.one]
  exact hl
noncomputable def C9 (g : FuncId) : PSpec := (putΦ C8 39 addS) g
theorem hC9 : TabSound GG C9 := (hC8.put w_addS)
/-! ### Shares -/
def lawD : PV → List PV
  | .agg [_, _, _, _, _, _, .sl d, _, _, _] => d
  | _ => []
/-- The share of an earmark. -/
def shA (rs : List PV) (y d : Int) (x : PV) : Int := (if recF rs (srcOf x) y d < 0 then 0 else recF rs (srcOf x) y d) * pctOf x / 100
theorem shr_eq {p n : Int} (h1 : 0 ≤ p) (h2 : p ≤ 100) (h3 : n ≤ 1000000000000000) : shrF p n = ((if n < 0 then 0 else n) * p / 100, 0) := by
  unfold shrF
  rw [if_neg]
  simp only [Bool.or_eq_true, decide_eq_true_eq]
  omega
noncomputable def sharesES : PSpec := on_plii (fun l rs _ _ => ∃ L : Law, l = L.v ∧ L.ok ∧ okRecs L rs) (fun l rs y d => .tup [.sl ((lawD l).map fun x => intV (shA rs y d x)), .int .i64 0])
theorem k_sharesES_34 {args : List PV} : C9 34 args = shareS args := rfl
theorem k_sharesES_37 {args : List PV} : C9 37 args = checkS args := rfl
theorem w_sharesES : PSound GG 23 sharesES := by
  refine PSound.of_wpc (C := cxP Tryz.prog C9 [] 46) (T := plan0) Tryz.func23 rfl rfl rfl (Fit.pure (G := GG) hC9 mixed) (fun args h => ?_)
  unfold sharesES at h
  obtain ⟨l, rs, yr, dd, rfl, hp⟩ := on_plii_inv h
  refine ⟨by simp [cxP], ?_⟩
  simp only [sharesES, on_plii_eq, Tryz.f23, argL, plan0]
  obtain ⟨L, rfl, hok, hr⟩ := hp
  have hV : ∃ L' : Law, L.v = L'.v ∧ L'.ok ∧ okRecs L' rs := ⟨L, rfl, hok, hr⟩
  have hea := hok.k.shI
  have hR := hr.isR
  have hrl := hr.1
  have hdl := hok.k.nd
  have h9 := hok.k.nine
  obtain ⟨⟨fi, ye, tr, la, lb, lc, ld, le, lf, lg⟩, hL⟩ : ∃ L', L = L' := ⟨L, rfl⟩
  subst hL
  simp only [Law.v, lawV] at hV hea hdl h9
  simp only [Law.v, lawV, lawD, bne_self_eq_false, List.take_succ_cons, List.take_nil, k_sharesES_34, shareS, on_plii_eq, k_sharesES_37, checkS, on_pl_eq, Tryz.underlying1, sz1, by1, ze1, Tryz.underlying3, sz3, by3, ze3, Tryz.underlying4, sz4, by4, ze4, Tryz.underlying6, sz6, by6, ze6, Tryz.underlying9, sz9, by9, ze9, Tryz.underlying22, sz22, by22, ze22, Tryz.underlying25, sz25, by25, ze25, Tryz.underlying26, sz26, by26, ze26, Tryz.underlying27, sz27, by27, ze27, Tryz.underlying28, sz28, by28, ze28, Tryz.underlying29, sz29, by29, ze29, Tryz.underlying30, sz30, by30, ze30, Tryz.underlying31, sz31, by31, ze31, Tryz.underlying33, sz33, by33, ze33, fa33_0, fa33_1, fa33_2, fa33_3, fa33_4, fa33_5, fa33_6, fa33_7, fa33_8, fa33_9, Tryz.underlying35, sz35, by35, ze35, Tryz.underlying41, sz41, by41, ze41, fa41_0, fa41_1, fa41_2, fa41_3, Tryz.underlying46, sz46, by46, ze46, Tryz.underlying47, sz47, by47, ze47, Tryz.underlying55, sz55, by55, ze55, fa55_0, fa55_1, Tryz.underlying57, sz57, by57, ze57, fa57_0, fa57_1, fa57_2, fa57_3, fa57_4, fa57_5, fa57_6, Tryz.underlying77, sz77, by77, ze77, fa77_0, fa77_1, fa77_2, Tryz.underlying86, sz86, by86, ze86, fa86_0, fa86_1, fa86_2, Tryz.underlying88, sz88, by88, ze88, fa88_0, fa88_1, fa88_2, fa88_3, Tryz.underlying89, sz89, by89, ze89, fa89_0, fa89_1, fa89_2, Tryz.underlying92, sz92, by92, ze92, fa92_0, fa92_1, fa92_2, fa92_3, Tryz.underlying93, sz93, by93, ze93, Tryz.underlying95, sz95, by95, ze95, fa95_0, fa95_1, fa95_2, go_sem, ↓reduceIte, reduceCtorEq, Nat.reduceEqDiff, Nat.reduceLT, ↓all_qV, Int.reduceToNat, Int.reduceLT, Int.reduceLE, Nat.reduceAdd, Nat.reduceLeDiff, Nat.reduceMul, ev_callG, gcallK_b, gcallK_w, callGc_true, callGc_false, List.forall_mem_cons, List.not_mem_nil, PV.one, AV.one]
  refine ⟨hV, ?_⟩
  refine AWp.adoptS (s := 11) (κ := 8000) (k := 1) (by simp [look]) (by simp [hget]) (by decide) ?_
  refine AWp.loop (T := plan0) (α := Nat) (fun i => ([(1, .pv (.sl rs)), (2, .pv (.int .i64 yr)), (3, .pv (.int .i64 dd)), (4, .ptr 4 0), (11, .rs 8000 i), (23, .pv (.sl ld)), (24, .pv (.int .i64 ld.length)), (25, .pv (.int .i64 i))], [(4, .cells [.pv (.int .i64 fi), .pv (.int .i64 ye), .pv (.sl tr), .pv (.sl la), .pv (.sl lb), .pv (.sl lc), .pv (.sl ld), .pv (.sl le), .pv (.sl lf), .pv (.sl lg)]), (8000, .row 1 ((ld.take i).map fun x => intV (shA rs yr dd x)))]))
    (fun i => i ≤ ld.length) (fun i => ld.length - i)
    ⟨0, Nat.zero_le _, ⟨by simp [fitR, look, upd], by simp [fitH, hget, hset], rfl, rfl, rfl⟩⟩ ?_
  intro i h1
  have hi1 : IntKind.i64.wrap ((i : Int) + 1) = ((i + 1 : Nat) : Int) := by rw [i64_in _ (by omega)]; omega
  have tkl : ((ld.take i).map fun x => intV (shA rs yr dd x)).length = i := by rw [List.length_map, List.length_take]; omega
  have tk : ((ld.take i).map fun x => intV (shA rs yr dd x)).take i = (ld.take i).map fun x => intV (shA rs yr dd x) := List.take_of_length_le (by omega)
  by_cases hlt : i < ld.length
  · have c0 : decide ((i : Int) < (ld.length : Int)) = true := by simp; omega
    obtain ⟨s, c, p, he, hs, hp⟩ := hea _ (getD_mem hlt)
    have hst := take_succ_getD hlt
    rw [he] at hst
    have hn := recF_le rs s yr dd
    have hsh := shr_eq hp.1 hp.2 hn.2
    have hA : shA rs yr dd (.agg [.str s, .str c, .int .i64 p]) = (if recF rs s yr dd < 0 then 0 else recF rs s yr dd) * p / 100 := rfl
    rw [← hA] at hsh
    have hE : ∃ s1 c1 p1, PV.agg [.str s, .str c, .int .i64 p] = earV s1 c1 p1 ∧ s1.length ≤ 1000000000000 := ⟨s, c, p, rfl, by omega⟩
    have ep : pctOf (.agg [.str s, .str c, .int .i64 p]) = p := rfl
    have es : srcOf (.agg [.str s, .str c, .int .i64 p]) = s := rfl
    simp only [c0, he, hi1, ep, es, hsh, bne_self_eq_false, tk, tkl, List.length_map, List.take_succ_cons, List.take_nil, k_sharesES_34, shareS, on_plii_eq, k_sharesES_37, checkS, on_pl_eq, Tryz.underlying1, sz1, by1, ze1, Tryz.underlying3, sz3, by3, ze3, Tryz.underlying4, sz4, by4, ze4, Tryz.underlying6, sz6, by6, ze6, Tryz.underlying9, sz9, by9, ze9, Tryz.underlying22, sz22, by22, ze22, Tryz.underlying25, sz25, by25, ze25, Tryz.underlying26, sz26, by26, ze26, Tryz.underlying27, sz27, by27, ze27, Tryz.underlying28, sz28, by28, ze28, Tryz.underlying29, sz29, by29, ze29, Tryz.underlying30, sz30, by30, ze30, Tryz.underlying31, sz31, by31, ze31, Tryz.underlying33, sz33, by33, ze33, fa33_0, fa33_1, fa33_2, fa33_3, fa33_4, fa33_5, fa33_6, fa33_7, fa33_8, fa33_9, Tryz.underlying35, sz35, by35, ze35, Tryz.underlying41, sz41, by41, ze41, fa41_0, fa41_1, fa41_2, fa41_3, Tryz.underlying46, sz46, by46, ze46, Tryz.underlying47, sz47, by47, ze47, Tryz.underlying55, sz55, by55, ze55, fa55_0, fa55_1, Tryz.underlying57, sz57, by57, ze57, fa57_0, fa57_1, fa57_2, fa57_3, fa57_4, fa57_5, fa57_6, Tryz.underlying77, sz77, by77, ze77, fa77_0, fa77_1, fa77_2, Tryz.underlying86, sz86, by86, ze86, fa86_0, fa86_1, fa86_2, Tryz.underlying88, sz88, by88, ze88, fa88_0, fa88_1, fa88_2, fa88_3, Tryz.underlying89, sz89, by89, ze89, fa89_0, fa89_1, fa89_2, Tryz.underlying92, sz92, by92, ze92, fa92_0, fa92_1, fa92_2, fa92_3, Tryz.underlying93, sz93, by93, ze93, Tryz.underlying95, sz95, by95, ze95, fa95_0, fa95_1, fa95_2, plan0, go_sem, ↓reduceIte, reduceCtorEq, Nat.reduceEqDiff, Nat.reduceLT, ↓all_qV, Int.reduceToNat, Int.reduceLT, Int.reduceLE, Nat.reduceAdd, Nat.reduceLeDiff, Nat.reduceMul, ev_callG, gcallK_b, gcallK_w, callGc_true, callGc_false, List.forall_mem_cons, List.not_mem_nil, PV.one, AV.one]
    refine ⟨⟨by omega, by omega⟩, ⟨hE, hR, by omega⟩, rfl, by omega, by omega, by simp only [maxLen]; omega, i + 1, by omega, by omega, ⟨by simp [fitR, look], ?_, rfl, rfl, rfl⟩⟩
    rw [hst, List.map_append]
    simp [fitH, hget, intV]
  · have c0 : decide ((i : Int) < (ld.length : Int)) = false := by simp; omega
    have e1 : ld.take i = ld := List.take_of_length_le (by omega)
    rw [e1] at tk tkl ⊢
    simp only [c0, tk, tkl, List.length_map, Tryz.underlying1, sz1, by1, ze1, Tryz.underlying3, sz3, by3, ze3, Tryz.underlying4, sz4, by4, ze4, Tryz.underlying6, sz6, by6, ze6, Tryz.underlying9, sz9, by9, ze9, Tryz.underlying22, sz22, by22, ze22, Tryz.underlying25, sz25, by25, ze25, Tryz.underlying26, sz26, by26, ze26, Tryz.underlying27, sz27, by27, ze27, Tryz.underlying28, sz28, by28, ze28, Tryz.underlying29, sz29, by29, ze29, Tryz.underlying30, sz30, by30, ze30, Tryz.underlying31, sz31, by31, ze31, Tryz.underlying33, sz33, by33, ze33, fa33_0, fa33_1, fa33_2, fa33_3, fa33_4, fa33_5, fa33_6, fa33_7, fa33_8, fa33_9, Tryz.underlying35, sz35, by35, ze35, Tryz.underlying41, sz41, by41, ze41, fa41_0, fa41_1, fa41_2, fa41_3, Tryz.underlying46, sz46, by46, ze46, Tryz.underlying47, sz47, by47, ze47, Tryz.underlying55, sz55, by55, ze55, fa55_0, fa55_1, Tryz.underlying57, sz57, by57, ze57, fa57_0, fa57_1, fa57_2, fa57_3, fa57_4, fa57_5, fa57_6, Tryz.underlying77, sz77, by77, ze77, fa77_0, fa77_1, fa77_2, Tryz.underlying86, sz86, by86, ze86, fa86_0, fa86_1, fa86_2, Tryz.underlying88, sz88, by88, ze88, fa88_0, fa88_1, fa88_2, fa88_3, Tryz.underlying89, sz89, by89, ze89, fa89_0, fa89_1, fa89_2, Tryz.underlying92, sz92, by92, ze92, fa92_0, fa92_1, fa92_2, fa92_3, Tryz.underlying93, sz93, by93, ze93, Tryz.underlying95, sz95, by95, ze95, fa95_0, fa95_1, fa95_2, plan0, go_sem, ↓reduceIte, reduceCtorEq, Nat.reduceEqDiff, Nat.reduceLT, ↓all_qV, Int.reduceToNat, Int.reduceLT, Int.reduceLE, Nat.reduceAdd, Nat.reduceLeDiff, Nat.reduceMul]
    exact Nat.le_refl _
noncomputable def D0 (g : FuncId) : PSpec := (putΦ C9 23 sharesES) g
theorem hD0 : TabSound GG D0 := (hC9.put w_sharesES)
end Go.AM
