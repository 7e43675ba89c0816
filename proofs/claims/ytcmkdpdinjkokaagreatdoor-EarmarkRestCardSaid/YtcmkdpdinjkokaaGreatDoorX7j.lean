/-
  A part of a proof: see the last text of this claim for what is proved.
-/
import Derived.Test.YtcmkdpdinjkokaaGreatDoorX7i
import Derived.Test.YtcmkdpdinjkokaaGreatDoorZMa
/-! Earned, Rest; In, lastDay, leaf; the document's Received -/
namespace Go.AM
open Go Go.Proofs Go.IntWalk
set_option maxRecDepth 100000
set_option maxHeartbeats 2000000
set_option linter.unusedSimpArgs false
set_option linter.unusedVariables false
theorem sumL_bd {α : Type} {f : α → Int} {B : Int} : ∀ l : List α, (∀ x, x ∈ l → -B ≤ f x ∧ f x ≤ B) → -(B * (l.length : Int)) ≤ sumL (l.map f) ∧ sumL (l.map f) ≤ B * (l.length : Int)
  | [], _ => by simp [sumL]
  | x :: r, h => by
    have h1 := sumL_bd (f := f) (B := B) r (fun y hy => h y (List.mem_cons_of_mem _ hy))
    have h2 := h x List.mem_cons_self
    simp only [List.map_cons, sumL, List.length_cons]
    have : B * ((r.length + 1 : Nat) : Int) = B * r.length + B := by rw [Int.natCast_add, Int.mul_add]; simp
    rw [this]; omega
theorem cntR_sign (src : List UInt8) (y d n dd : Int) (c : List UInt8) (a : Int) : cntR src y d (.agg [.int .i64 n, .int .i64 dd, .str c, .int .i64 a]) = a ∨ cntR src y d (.agg [.int .i64 n, .int .i64 dd, .str c, .int .i64 a]) = 0 := by
  unfold cntR
  simp only
  split
  · exact .inl rfl
  · exact .inr rfl
theorem cnt_bd {L : Law} {x : PV} (h : okRec L x) (src : List UInt8) (y d : Int) : -2000 ≤ cntR src y d x ∧ cntR src y d x ≤ 2000 := by
  obtain ⟨n, dd, c, a, rfl, _, _, _, _, _, ha⟩ := h
  rcases cntR_sign src y d n dd c a with e | e <;> rw [e]
  · exact ha
  · omega
theorem okRecs.bd {L : Law} {rs : List PV} (h : okRecs L rs) (src : List UInt8) (y d : Int) : -200000 ≤ recF rs src y d ∧ recF rs src y d ≤ 200000 := by
  have hl := h.1
  rw [recF_all (by omega)]
  have := sumL_bd (f := cntR src y d) (B := 2000) rs (fun x hx => cnt_bd (h.2.1 x hx) src y d)
  omega
theorem shA_bd {L : Law} {rs : List PV} (h : okRecs L rs) {x : PV} (hx : isEp x) (y d : Int) : 0 ≤ shA rs y d x ∧ shA rs y d x ≤ 200000 := by
  obtain ⟨s, c, p, rfl, _, hp⟩ := hx
  have hb := h.bd s y d
  have e : shA rs y d (.agg [.str s, .str c, .int .i64 p]) = (if recF rs s y d < 0 then 0 else recF rs s y d) * p / 100 := rfl
  rw [e]
  generalize recF rs s y d = n at hb
  have hn : 0 ≤ (if n < 0 then 0 else n) ∧ (if n < 0 then 0 else n) ≤ 200000 := by split <;> omega
  generalize (if n < 0 then 0 else n) = m at hn
  have h1 : 0 ≤ m * p := Int.mul_nonneg hn.1 hp.1
  have h2 : m * p ≤ m * 100 := Int.mul_le_mul_of_nonneg_left hp.2 hn.1
  omega
theorem getD_mapP {f : PV → PV} {l : List PV} {i : Nat} (h : i < l.length) : (l.map f).getD i default = f (l.getD i default) := by
  simp [List.getD_eq_getElem?_getD, List.getElem?_eq_getElem h]
/-- What is earned by a code. -/
def ernF (rs : List PV) (y d : Int) (code : List UInt8) (l : List PV) : Int := sumL ((l.filter (fun x => earC x == code)).map (shA rs y d))
noncomputable def earnedS : PSpec := on_plsii (fun l rs _ _ _ => ∃ L : Law, l = L.v ∧ L.ok ∧ okRecs L rs) (fun l rs code y d => .tup [.int .i64 (ernF rs y d code (lawD l)), .int .i64 0])
theorem k_earnedS_23 {args : List PV} : D0 23 args = sharesES args := rfl
theorem k_earnedS_33 {args : List PV} : D0 33 args = msS args := rfl
theorem w_earnedS : PSound GG 12 earnedS := by
  refine PSound.of_wpc (C := cxP Tryz.prog D0 [] 52) (T := plan0) Tryz.func12 rfl rfl rfl (Fit.pure (G := GG) hD0 mixed) (fun args h => ?_)
  unfold earnedS at h
  obtain ⟨l, rs, code, yr, dd, rfl, hp⟩ := on_plsii_inv h
  refine ⟨by simp [cxP], ?_⟩
  simp only [earnedS, on_plsii_eq, Tryz.f12, argL, plan0]
  obtain ⟨L, rfl, hok, hr⟩ := hp
  have hV : ∃ L' : Law, L.v = L'.v ∧ L'.ok ∧ okRecs L' rs := ⟨L, rfl, hok, hr⟩
  have hea := hok.k.shI
  have hdl := hok.k.nd
  have h9 := hok.k.nine
  have hbd := fun x (hx : x ∈ L.d) => shA_bd hr (hea x hx) yr dd
  obtain ⟨⟨fi, ye, tr, la, lb, lc, ld, le, lf, lg⟩, hL⟩ : ∃ L', L = L' := ⟨L, rfl⟩
  subst hL
  simp only [Law.v, lawV] at hV hea hdl h9 hbd
  simp only [Law.v, lawV, lawD, bne_self_eq_false, List.length_map, List.take_succ_cons, List.take_nil, k_earnedS_23, sharesES, on_plii_eq, k_earnedS_33, msS, on_l_eq, Tryz.underlying1, sz1, by1, ze1, Tryz.underlying3, sz3, by3, ze3, Tryz.underlying4, sz4, by4, ze4, Tryz.underlying6, sz6, by6, ze6, Tryz.underlying9, sz9, by9, ze9, Tryz.underlying22, sz22, by22, ze22, Tryz.underlying25, sz25, by25, ze25, Tryz.underlying26, sz26, by26, ze26, Tryz.underlying27, sz27, by27, ze27, Tryz.underlying28, sz28, by28, ze28, Tryz.underlying29, sz29, by29, ze29, Tryz.underlying30, sz30, by30, ze30, Tryz.underlying31, sz31, by31, ze31, Tryz.underlying33, sz33, by33, ze33, fa33_0, fa33_1, fa33_2, fa33_3, fa33_4, fa33_5, fa33_6, fa33_7, fa33_8, fa33_9, Tryz.underlying35, sz35, by35, ze35, Tryz.underlying41, sz41, by41, ze41, fa41_0, fa41_1, fa41_2, fa41_3, Tryz.underlying46, sz46, by46, ze46, Tryz.underlying47, sz47, by47, ze47, Tryz.underlying55, sz55, by55, ze55, fa55_0, fa55_1, Tryz.underlying57, sz57, by57, ze57, fa57_0, fa57_1, fa57_2, fa57_3, fa57_4, fa57_5, fa57_6, Tryz.underlying61, sz61, by61, ze61, Tryz.underlying77, sz77, by77, ze77, fa77_0, fa77_1, fa77_2, Tryz.underlying86, sz86, by86, ze86, fa86_0, fa86_1, fa86_2, Tryz.underlying88, sz88, by88, ze88, fa88_0, fa88_1, fa88_2, fa88_3, Tryz.underlying89, sz89, by89, ze89, fa89_0, fa89_1, fa89_2, Tryz.underlying92, sz92, by92, ze92, fa92_0, fa92_1, fa92_2, fa92_3, Tryz.underlying93, sz93, by93, ze93, Tryz.underlying95, sz95, by95, ze95, fa95_0, fa95_1, fa95_2, go_sem, ↓reduceIte, reduceCtorEq, Nat.reduceEqDiff, Nat.reduceLT, ↓all_qV, Int.reduceToNat, Int.reduceLT, Int.reduceLE, Nat.reduceAdd, Nat.reduceLeDiff, Nat.reduceMul, ev_callG, gcallK_b, gcallK_w, callGc_true, callGc_false, List.forall_mem_cons, List.not_mem_nil, PV.one, AV.one]
  refine ⟨hV, ?_⟩
  refine AWp.adoptS (s := 14) (κ := 8000) (k := 1) (by simp [look]) (by simp [hget]) (by decide) ?_
  refine AWp.loop (T := plan0) (α := Nat × List PV) (fun y => ([(2, .pv (.str code)), (5, .ptr 5 0), (12, .pv (.sl (ld.map fun x => intV (shA rs yr dd x)))), (14, .rs 8000 y.2.length), (29, .pv (.sl ld)), (30, .pv (.int .i64 ld.length)), (31, .pv (.int .i64 y.1))], [(5, .cells [.pv (.int .i64 fi), .pv (.int .i64 ye), .pv (.sl tr), .pv (.sl la), .pv (.sl lb), .pv (.sl lc), .pv (.sl ld), .pv (.sl le), .pv (.sl lf), .pv (.sl lg)]), (8000, .row 1 y.2)]))
    (fun y => y.1 ≤ ld.length ∧ y.2.length ≤ y.1 ∧ y.2 = ((ld.take y.1).filter (fun x => earC x == code)).map (fun x => intV (shA rs yr dd x))) (fun y => ld.length - y.1)
    ⟨(0, []), ⟨Nat.zero_le _, Nat.zero_le _, rfl⟩, ⟨by simp [fitR, look, upd], by simp [fitH, hget, hset], rfl, rfl, rfl⟩⟩ ?_
  rintro ⟨i, acc⟩ ⟨h1, h3, h2⟩
  simp only at h1 h2 h3
  have hi1 : IntKind.i64.wrap ((i : Int) + 1) = ((i + 1 : Nat) : Int) := by rw [i64_in _ (by omega)]; omega
  have tk : acc.take acc.length = acc := List.take_length
  by_cases hlt : i < ld.length
  · have c0 : decide ((i : Int) < (ld.length : Int)) = true := by simp; omega
    obtain ⟨s, c, p, he, hs, hp⟩ := hea _ (getD_mem hlt)
    have hst := take_succ_getD hlt
    have hgm := getD_mapP (f := fun x => intV (shA rs yr dd x)) hlt
    rw [he] at hst hgm
    have hgm : (ld.map fun x => intV (shA rs yr dd x)).getD i default = .int .i64 (shA rs yr dd (.agg [.str s, .str c, .int .i64 p])) := hgm
    have hE : earC (.agg [.str s, .str c, .int .i64 p]) = c := rfl
    have hstep : ((ld.take (i + 1)).filter (fun x => earC x == code)).map (fun x => intV (shA rs yr dd x)) = acc ++ (if (c == code) = true then [intV (shA rs yr dd (.agg [.str s, .str c, .int .i64 p]))] else []) := by
      rw [hst, List.filter_append, List.map_append, h2]
      congr 1
      by_cases h9 : (c == code) = true
      · simp only [List.filter_cons, hE, h9, if_true, List.filter_nil, List.map_cons, List.map_nil]
      · simp only [List.filter_cons, hE, h9, if_false, Bool.false_eq_true, List.filter_nil, List.map_nil]
    generalize shA rs yr dd (.agg [.str s, .str c, .int .i64 p]) = v at hstep hgm
    simp only [c0, he, hgm, hi1, tk, List.length_map, List.take_succ_cons, List.take_nil, k_earnedS_23, sharesES, on_plii_eq, k_earnedS_33, msS, on_l_eq, Tryz.underlying1, sz1, by1, ze1, Tryz.underlying3, sz3, by3, ze3, Tryz.underlying4, sz4, by4, ze4, Tryz.underlying6, sz6, by6, ze6, Tryz.underlying9, sz9, by9, ze9, Tryz.underlying22, sz22, by22, ze22, Tryz.underlying25, sz25, by25, ze25, Tryz.underlying26, sz26, by26, ze26, Tryz.underlying27, sz27, by27, ze27, Tryz.underlying28, sz28, by28, ze28, Tryz.underlying29, sz29, by29, ze29, Tryz.underlying30, sz30, by30, ze30, Tryz.underlying31, sz31, by31, ze31, Tryz.underlying33, sz33, by33, ze33, fa33_0, fa33_1, fa33_2, fa33_3, fa33_4, fa33_5, fa33_6, fa33_7, fa33_8, fa33_9, Tryz.underlying35, sz35, by35, ze35, Tryz.underlying41, sz41, by41, ze41, fa41_0, fa41_1, fa41_2, fa41_3, Tryz.underlying46, sz46, by46, ze46, Tryz.underlying47, sz47, by47, ze47, Tryz.underlying55, sz55, by55, ze55, fa55_0, fa55_1, Tryz.underlying57, sz57, by57, ze57, fa57_0, fa57_1, fa57_2, fa57_3, fa57_4, fa57_5, fa57_6, Tryz.underlying61, sz61, by61, ze61, Tryz.underlying77, sz77, by77, ze77, fa77_0, fa77_1, fa77_2, Tryz.underlying86, sz86, by86, ze86, fa86_0, fa86_1, fa86_2, Tryz.underlying88, sz88, by88, ze88, fa88_0, fa88_1, fa88_2, fa88_3, Tryz.underlying89, sz89, by89, ze89, fa89_0, fa89_1, fa89_2, Tryz.underlying92, sz92, by92, ze92, fa92_0, fa92_1, fa92_2, fa92_3, Tryz.underlying93, sz93, by93, ze93, Tryz.underlying95, sz95, by95, ze95, fa95_0, fa95_1, fa95_2, plan0, go_sem, ↓reduceIte, reduceCtorEq, Nat.reduceEqDiff, Nat.reduceLT, ↓all_qV, Int.reduceToNat, Int.reduceLT, Int.reduceLE, Nat.reduceAdd, Nat.reduceLeDiff, Nat.reduceMul, ev_callG, gcallK_b, gcallK_w, callGc_true, callGc_false, List.forall_mem_cons, List.not_mem_nil, PV.one, AV.one]
    refine ⟨⟨by omega, by omega⟩, fun h9 => ⟨⟨by omega, by omega⟩, rfl, Nat.le_refl _, by omega, by simp only [maxLen]; omega, (i + 1, acc ++ [.int .i64 v]), ⟨by simp only; omega, by simp; omega, ?_⟩, by simp only; omega, ⟨by simp [fitR, look], by simp [fitH, hget], rfl, rfl, rfl⟩⟩,
      fun h9 => ⟨(i + 1, acc), ⟨by simp only; omega, by simp only; omega, ?_⟩, by simp only; omega, ⟨by simp [fitR, look], by simp [fitH, hget], rfl, rfl, rfl⟩⟩⟩
    · rw [if_pos h9] at hstep; exact hstep.symm
    · rw [if_neg (by rw [h9]; decide), List.append_nil] at hstep; exact hstep.symm
  · have c0 : decide ((i : Int) < (ld.length : Int)) = false := by simp; omega
    have e1 : ld.take i = ld := List.take_of_length_le (by omega)
    rw [e1] at h2
    have hsm : ∃ l : List Int, acc = l.map intV ∧ smallL l := by
      refine ⟨(ld.filter (fun x => earC x == code)).map (shA rs yr dd), by rw [h2, List.map_map]; rfl, ?_, fun x hx => ?_⟩
      · have := congrArg List.length h2
        rw [List.length_map] at this
        rw [List.length_map, ← this]; omega
      · obtain ⟨e, he, rfl⟩ := List.mem_map.1 hx
        have := hbd e (List.mem_filter.1 he).1
        omega
    have hno : acc.map nOf = (ld.filter (fun x => earC x == code)).map (shA rs yr dd) := by
      rw [h2, List.map_map]; rfl
    simp only [c0, tk, hno, List.length_map, k_earnedS_23, sharesES, on_plii_eq, k_earnedS_33, msS, on_l_eq, Tryz.underlying1, sz1, by1, ze1, Tryz.underlying3, sz3, by3, ze3, Tryz.underlying4, sz4, by4, ze4, Tryz.underlying6, sz6, by6, ze6, Tryz.underlying9, sz9, by9, ze9, Tryz.underlying22, sz22, by22, ze22, Tryz.underlying25, sz25, by25, ze25, Tryz.underlying26, sz26, by26, ze26, Tryz.underlying27, sz27, by27, ze27, Tryz.underlying28, sz28, by28, ze28, Tryz.underlying29, sz29, by29, ze29, Tryz.underlying30, sz30, by30, ze30, Tryz.underlying31, sz31, by31, ze31, Tryz.underlying33, sz33, by33, ze33, fa33_0, fa33_1, fa33_2, fa33_3, fa33_4, fa33_5, fa33_6, fa33_7, fa33_8, fa33_9, Tryz.underlying35, sz35, by35, ze35, Tryz.underlying41, sz41, by41, ze41, fa41_0, fa41_1, fa41_2, fa41_3, Tryz.underlying46, sz46, by46, ze46, Tryz.underlying47, sz47, by47, ze47, Tryz.underlying55, sz55, by55, ze55, fa55_0, fa55_1, Tryz.underlying57, sz57, by57, ze57, fa57_0, fa57_1, fa57_2, fa57_3, fa57_4, fa57_5, fa57_6, Tryz.underlying61, sz61, by61, ze61, Tryz.underlying77, sz77, by77, ze77, fa77_0, fa77_1, fa77_2, Tryz.underlying86, sz86, by86, ze86, fa86_0, fa86_1, fa86_2, Tryz.underlying88, sz88, by88, ze88, fa88_0, fa88_1, fa88_2, fa88_3, Tryz.underlying89, sz89, by89, ze89, fa89_0, fa89_1, fa89_2, Tryz.underlying92, sz92, by92, ze92, fa92_0, fa92_1, fa92_2, fa92_3, Tryz.underlying93, sz93, by93, ze93, Tryz.underlying95, sz95, by95, ze95, fa95_0, fa95_1, fa95_2, plan0, go_sem, ↓reduceIte, reduceCtorEq, Nat.reduceEqDiff, Nat.reduceLT, ↓all_qV, Int.reduceToNat, Int.reduceLT, Int.reduceLE, Nat.reduceAdd, Nat.reduceLeDiff, Nat.reduceMul, ev_callG, gcallK_b, gcallK_w, callGc_true, callGc_false, List.forall_mem_cons, List.not_mem_nil, PV.one, AV.one]
    first | exact ⟨⟨Nat.le_refl _, hsm⟩, rfl⟩ | exact ⟨Nat.le_refl _, hsm⟩ | exact ⟨hsm, rfl⟩ | exact hsm
noncomputable def D1 (g : FuncId) : PSpec := (putΦ D0 12 earnedS) g
theorem hD1 : TabSound GG D1 := (hD0.put w_earnedS)
/-- What is left of what was received. -/
def restF (rs : List PV) (y d : Int) (L : List (List UInt8)) (e : List PV) : Int := sumL ((chC L []).map fun c => recF rs c y d) - sumL (e.map (shA rs y d))
noncomputable def restS : PSpec := on_plii (fun l rs _ _ => ∃ L : Law, l = L.v ∧ L.ok ∧ okRecs L rs) (fun l rs y d => .tup [.int .i64 (restF rs y d ((lawTree l).map hCode) (lawD l)), .int .i64 0])
theorem k_restS_23 {args : List PV} : D1 23 args = sharesES args := rfl
theorem k_restS_33 {args : List PV} : D1 33 args = msS args := rfl
theorem k_restS_36 {args : List PV} : D1 36 args = receivedS args := rfl
theorem k_restS_38 {args : List PV} : D1 38 args = chS args := rfl
theorem k_restS_39 {args : List PV} : D1 39 args = addS args := rfl
theorem w_restS : PSound GG 24 restS := by
  refine PSound.of_wpc (C := cxP Tryz.prog D1 [] 67) (T := plan0) Tryz.func24 rfl rfl rfl (Fit.pure (G := GG) hD1 mixed) (fun args h => ?_)
  unfold restS at h
  obtain ⟨l, rs, yr, dd, rfl, hp⟩ := on_plii_inv h
  refine ⟨by simp [cxP], ?_⟩
  simp only [restS, on_plii_eq, Tryz.f24, argL, plan0]
  obtain ⟨L, rfl, hok, hr⟩ := hp
  have hV : ∃ L' : Law, L.v = L'.v ∧ L'.ok ∧ okRecs L' rs := ⟨L, rfl, hok, hr⟩
  have hea := hok.k.shI
  have hdl := hok.k.nd
  have h9 := hok.k.nine
  have hH := hok.2.2.1.isH
  have h45 := tree_len hok.k.tc
  have hbd := fun x (hx : x ∈ L.d) => shA_bd hr (hea x hx) yr dd
  have hrb := fun c => hr.bd c yr dd
  have hR := hr.isR
  have hrl := hr.1
  have hSX : ∀ c, c ∈ L.tree.map hCode → c.length ≤ 100 := fun c hc => hok.k.len hc
  obtain ⟨⟨fi, ye, tr, la, lb, lc, ld, le, lf, lg⟩, hL⟩ : ∃ L', L = L' := ⟨L, rfl⟩
  subst hL
  simp only [Law.v, lawV] at hV hea hdl h9 hbd hH h45 hSX
  have hchl : (chC (tr.map hCode) []).length ≤ 45 := by
    have : (chC (tr.map hCode) []).length ≤ (tr.map hCode).length := List.length_filter_le _ _
    rw [List.length_map] at this; omega
  have hchm : ∀ c, c ∈ chC (tr.map hCode) [] → c.length ≤ 100 := fun c hc => hSX c (List.mem_filter.1 hc).1
  have hrest : restF rs yr dd (tr.map hCode) ld = sumL ((chC (tr.map hCode) []).map fun c => recF rs c yr dd) - sumL (ld.map (shA rs yr dd)) := rfl
  obtain ⟨ch, hch⟩ : ∃ ch, chC (tr.map hCode) [] = ch := ⟨_, rfl⟩
  rw [hch] at hchl hchm hrest
  have hno : ∀ l : List Int, (l.map intV).map nOf = l := fun l => by simp [List.map_map, Function.comp_def, nOf, intV]
  have hmm : ∀ e : List PV, (e.map fun x => intV (shA rs yr dd x)) = (e.map (shA rs yr dd)).map intV := fun e => by rw [List.map_map]; rfl
  simp only [Law.v, lawV, lawD, lawTree, hrest, hch, bne_self_eq_false, List.length_map, List.length_nil, List.take_succ_cons, List.take_nil, k_restS_23, sharesES, on_plii_eq, k_restS_33, msS, on_l_eq, k_restS_36, receivedS, on_lsii_eq, k_restS_38, chS, on_ls_eq, k_restS_39, addS, on_ii_eq, Tryz.underlying1, sz1, by1, ze1, Tryz.underlying2, sz2, by2, ze2, Tryz.underlying3, sz3, by3, ze3, Tryz.underlying4, sz4, by4, ze4, Tryz.underlying9, sz9, by9, ze9, Tryz.underlying22, sz22, by22, ze22, Tryz.underlying25, sz25, by25, ze25, Tryz.underlying26, sz26, by26, ze26, Tryz.underlying27, sz27, by27, ze27, Tryz.underlying28, sz28, by28, ze28, Tryz.underlying29, sz29, by29, ze29, Tryz.underlying30, sz30, by30, ze30, Tryz.underlying31, sz31, by31, ze31, Tryz.underlying33, sz33, by33, ze33, fa33_0, fa33_1, fa33_2, fa33_3, fa33_4, fa33_5, fa33_6, fa33_7, fa33_8, fa33_9, Tryz.underlying35, sz35, by35, ze35, Tryz.underlying41, sz41, by41, ze41, fa41_0, fa41_1, fa41_2, fa41_3, Tryz.underlying44, sz44, by44, ze44, Tryz.underlying46, sz46, by46, ze46, Tryz.underlying47, sz47, by47, ze47, Tryz.underlying55, sz55, by55, ze55, fa55_0, fa55_1, Tryz.underlying57, sz57, by57, ze57, fa57_0, fa57_1, fa57_2, fa57_3, fa57_4, fa57_5, fa57_6, Tryz.underlying61, sz61, by61, ze61, Tryz.underlying77, sz77, by77, ze77, fa77_0, fa77_1, fa77_2, Tryz.underlying86, sz86, by86, ze86, fa86_0, fa86_1, fa86_2, Tryz.underlying88, sz88, by88, ze88, fa88_0, fa88_1, fa88_2, fa88_3, Tryz.underlying89, sz89, by89, ze89, fa89_0, fa89_1, fa89_2, Tryz.underlying92, sz92, by92, ze92, fa92_0, fa92_1, fa92_2, fa92_3, Tryz.underlying93, sz93, by93, ze93, Tryz.underlying95, sz95, by95, ze95, fa95_0, fa95_1, fa95_2, go_sem, ↓reduceIte, reduceCtorEq, Nat.reduceEqDiff, Nat.reduceLT, ↓all_qV, Int.reduceToNat, Int.reduceLT, Int.reduceLE, Nat.reduceAdd, Nat.reduceLeDiff, Nat.reduceMul, ev_callG, gcallK_b, gcallK_w, callGc_true, callGc_false, List.forall_mem_cons, List.not_mem_nil, PV.one, AV.one]
  refine ⟨hV, ⟨hH, by omega⟩, ?_⟩
  refine AWp.adoptS (s := 12) (κ := 8000) (k := 1) (by simp [look]) (by simp [hget]) (by decide) ?_
  refine AWp.loop (T := plan0) (α := Nat) (fun i => ([(1, .pv (.sl rs)), (2, .pv (.int .i64 yr)), (3, .pv (.int .i64 dd)), (10, .pv (.sl (ld.map fun x => intV (shA rs yr dd x)))), (12, .rs 8000 i), (30, .pv (.sl (ch.map PV.str))), (31, .pv (.int .i64 ch.length)), (32, .pv (.int .i64 i))], [(8000, .row 1 (((ch.take i).map fun c => recF rs c yr dd).map intV))]))
    (fun i => i ≤ ch.length) (fun i => ch.length - i)
    ⟨0, Nat.zero_le _, ⟨by simp [fitR, look, upd], by simp [fitH, hget, hset], rfl, rfl, rfl⟩⟩ ?_
  intro i h1
  have hi1 : IntKind.i64.wrap ((i : Int) + 1) = ((i + 1 : Nat) : Int) := by rw [i64_in _ (by omega)]; omega
  have tkl : ((ch.take i).map fun c => recF rs c yr dd).length = i := by rw [List.length_map, List.length_take]; omega
  have tkl2 : (((ch.take i).map fun c => recF rs c yr dd).map intV).length = i := by rw [List.length_map, tkl]
  have tk : (((ch.take i).map fun c => recF rs c yr dd).map intV).take i = ((ch.take i).map fun c => recF rs c yr dd).map intV := List.take_of_length_le (by omega)
  by_cases hlt : i < ch.length
  · have c0 : decide ((i : Int) < (ch.length : Int)) = true := by simp; omega
    have hg := getD_strs hlt
    have hm : ch.getD i [] ∈ ch := by rw [List.getD_eq_getElem?_getD, List.getElem?_eq_getElem hlt]; exact List.getElem_mem _
    have hcl := hchm _ hm
    have hst : ch.take (i + 1) = ch.take i ++ [ch.getD i []] := by rw [List.take_add_one, List.getD_eq_getElem?_getD, List.getElem?_eq_getElem hlt]; rfl
    generalize ch.getD i [] = c at hg hcl hst
    simp only [c0, hg, hi1, tk, tkl2, List.length_map, List.take_succ_cons, List.take_nil, k_restS_23, sharesES, on_plii_eq, k_restS_33, msS, on_l_eq, k_restS_36, receivedS, on_lsii_eq, k_restS_38, chS, on_ls_eq, k_restS_39, addS, on_ii_eq, Tryz.underlying1, sz1, by1, ze1, Tryz.underlying2, sz2, by2, ze2, Tryz.underlying3, sz3, by3, ze3, Tryz.underlying4, sz4, by4, ze4, Tryz.underlying9, sz9, by9, ze9, Tryz.underlying22, sz22, by22, ze22, Tryz.underlying25, sz25, by25, ze25, Tryz.underlying26, sz26, by26, ze26, Tryz.underlying27, sz27, by27, ze27, Tryz.underlying28, sz28, by28, ze28, Tryz.underlying29, sz29, by29, ze29, Tryz.underlying30, sz30, by30, ze30, Tryz.underlying31, sz31, by31, ze31, Tryz.underlying33, sz33, by33, ze33, fa33_0, fa33_1, fa33_2, fa33_3, fa33_4, fa33_5, fa33_6, fa33_7, fa33_8, fa33_9, Tryz.underlying35, sz35, by35, ze35, Tryz.underlying41, sz41, by41, ze41, fa41_0, fa41_1, fa41_2, fa41_3, Tryz.underlying44, sz44, by44, ze44, Tryz.underlying46, sz46, by46, ze46, Tryz.underlying47, sz47, by47, ze47, Tryz.underlying55, sz55, by55, ze55, fa55_0, fa55_1, Tryz.underlying57, sz57, by57, ze57, fa57_0, fa57_1, fa57_2, fa57_3, fa57_4, fa57_5, fa57_6, Tryz.underlying61, sz61, by61, ze61, Tryz.underlying77, sz77, by77, ze77, fa77_0, fa77_1, fa77_2, Tryz.underlying86, sz86, by86, ze86, fa86_0, fa86_1, fa86_2, Tryz.underlying88, sz88, by88, ze88, fa88_0, fa88_1, fa88_2, fa88_3, Tryz.underlying89, sz89, by89, ze89, fa89_0, fa89_1, fa89_2, Tryz.underlying92, sz92, by92, ze92, fa92_0, fa92_1, fa92_2, fa92_3, Tryz.underlying93, sz93, by93, ze93, Tryz.underlying95, sz95, by95, ze95, fa95_0, fa95_1, fa95_2, plan0, go_sem, ↓reduceIte, reduceCtorEq, Nat.reduceEqDiff, Nat.reduceLT, ↓all_qV, Int.reduceToNat, Int.reduceLT, Int.reduceLE, Nat.reduceAdd, Nat.reduceLeDiff, Nat.reduceMul, ev_callG, gcallK_b, gcallK_w, callGc_true, callGc_false, List.forall_mem_cons, List.not_mem_nil, PV.one, AV.one]
    refine ⟨⟨by omega, by omega⟩, ⟨hR, by omega, by omega⟩, rfl, by omega, by omega, by simp only [maxLen]; omega, i + 1, by omega, by omega, ⟨by simp [fitR, look], ?_, rfl, rfl, rfl⟩⟩
    rw [hst, List.map_append, List.map_append]
    simp [fitH, hget, intV]
  · have c0 : decide ((i : Int) < (ch.length : Int)) = false := by simp; omega
    have e1 : ch.take i = ch := List.take_of_length_le (by omega)
    rw [e1] at tk tkl tkl2 ⊢
    have hs1 : ∀ x, x ∈ ch.map (fun c => recF rs c yr dd) → -200000 ≤ x ∧ x ≤ 200000 := fun x hx => by
      obtain ⟨c, _, rfl⟩ := List.mem_map.1 hx
      exact hrb c
    have hs2 : ∀ x, x ∈ ld.map (shA rs yr dd) → 0 ≤ x ∧ x ≤ 200000 := fun x hx => by
      obtain ⟨c, hc, rfl⟩ := List.mem_map.1 hx
      exact hbd c hc
    have hsm1 : ∃ l : List Int, (ch.map fun c => recF rs c yr dd).map intV = l.map intV ∧ smallL l := ⟨_, rfl, by rw [List.length_map]; omega, fun x hx => by have := hs1 x hx; omega⟩
    have hsm2 : ∃ l : List Int, (ld.map (shA rs yr dd)).map intV = l.map intV ∧ smallL l := ⟨_, rfl, by rw [List.length_map]; omega, fun x hx => by have := hs2 x hx; omega⟩
    have hS1 := sumL_bd (f := fun c => recF rs c yr dd) (B := 200000) ch (fun c hc => hrb c)
    have hS2 := sumL_bd (f := shA rs yr dd) (B := 200000) ld (fun c hc => by have := hbd c hc; omega)
    have hrv := hrest
    obtain ⟨S1, hS1e⟩ : ∃ S1, sumL (ch.map fun c => recF rs c yr dd) = S1 := ⟨_, rfl⟩
    obtain ⟨S2, hS2e⟩ : ∃ S2, sumL (ld.map (shA rs yr dd)) = S2 := ⟨_, rfl⟩
    rw [hS1e] at hS1
    rw [hS2e] at hS2
    have hw : IntKind.i64.wrap (0 - S2) = -S2 := by rw [i64_in _ (by omega)]; omega
    have hw' : IntKind.i64.wrap (-S2) = -S2 := i64_in _ (by omega)
    have hsub : S1 + -S2 = S1 - S2 := by omega
    simp only [c0, tk, tkl2, hno, hmm, hS1e, hS2e, hw, hw', hsub, bne_self_eq_false, List.length_map, List.take_succ_cons, List.take_nil, k_restS_23, sharesES, on_plii_eq, k_restS_33, msS, on_l_eq, k_restS_36, receivedS, on_lsii_eq, k_restS_38, chS, on_ls_eq, k_restS_39, addS, on_ii_eq, Tryz.underlying1, sz1, by1, ze1, Tryz.underlying2, sz2, by2, ze2, Tryz.underlying3, sz3, by3, ze3, Tryz.underlying4, sz4, by4, ze4, Tryz.underlying9, sz9, by9, ze9, Tryz.underlying22, sz22, by22, ze22, Tryz.underlying25, sz25, by25, ze25, Tryz.underlying26, sz26, by26, ze26, Tryz.underlying27, sz27, by27, ze27, Tryz.underlying28, sz28, by28, ze28, Tryz.underlying29, sz29, by29, ze29, Tryz.underlying30, sz30, by30, ze30, Tryz.underlying31, sz31, by31, ze31, Tryz.underlying33, sz33, by33, ze33, fa33_0, fa33_1, fa33_2, fa33_3, fa33_4, fa33_5, fa33_6, fa33_7, fa33_8, fa33_9, Tryz.underlying35, sz35, by35, ze35, Tryz.underlying41, sz41, by41, ze41, fa41_0, fa41_1, fa41_2, fa41_3, Tryz.underlying44, sz44, by44, ze44, Tryz.underlying46, sz46, by46, ze46, Tryz.underlying47, sz47, by47, ze47, Tryz.underlying55, sz55, by55, ze55, fa55_0, fa55_1, Tryz.underlying57, sz57, by57, ze57, fa57_0, fa57_1, fa57_2, fa57_3, fa57_4, fa57_5, fa57_6, Tryz.underlying61, sz61, by61, ze61, Tryz.underlying77, sz77, by77, ze77, fa77_0, fa77_1, fa77_2, Tryz.underlying86, sz86, by86, ze86, fa86_0, fa86_1, fa86_2, Tryz.underlying88, sz88, by88, ze88, fa88_0, fa88_1, fa88_2, fa88_3, Tryz.underlying89, sz89, by89, ze89, fa89_0, fa89_1, fa89_2, Tryz.underlying92, sz92, by92, ze92, fa92_0, fa92_1, fa92_2, fa92_3, Tryz.underlying93, sz93, by93, ze93, Tryz.underlying95, sz95, by95, ze95, fa95_0, fa95_1, fa95_2, plan0, go_sem, ↓reduceIte, reduceCtorEq, Nat.reduceEqDiff, Nat.reduceLT, ↓all_qV, Int.reduceToNat, Int.reduceLT, Int.reduceLE, Nat.reduceAdd, Nat.reduceLeDiff, Nat.reduceMul, ev_callG, gcallK_b, gcallK_w, callGc_true, callGc_false, List.forall_mem_cons, List.not_mem_nil, PV.one, AV.one]
    and_intros
    all_goals first | exact hsm1 | exact hsm2 | omega | rfl
noncomputable def D2 (g : FuncId) : PSpec := (putΦ D1 24 restS) g
theorem hD2 : TabSound GG D2 := (hD1.put w_restS)
/-! ### In, lastDay, leaf -/
noncomputable def mkInS : PSpec := on_li (fun es _ => (∃ l : List Int, es = l.map intV) ∧ es.length ≤ 1000000) (fun es n => .bool ((es.map nOf).contains n))
theorem w_mkInS : PSound GG 22 mkInS := by
  refine PSound.of_wpc (C := cxP Tryz.prog D2 [] 17) (T := plan0) Tryz.func22 rfl rfl rfl (Fit.pure (G := GG) hD2 mixed) (fun args h => ?_)
  unfold mkInS at h
  obtain ⟨es, n, rfl, hp⟩ := on_li_inv h
  refine ⟨by simp [cxP], ?_⟩
  simp only [mkInS, on_li_eq, Tryz.f22, argL, plan0]
  obtain ⟨⟨l, rfl⟩, hl⟩ := hp
  rw [List.length_map] at hl
  have hno : ∀ l : List Int, (l.map intV).map nOf = l := fun l => by simp [List.map_map, Function.comp_def, nOf, intV]
  simp only [hno, List.length_map, Tryz.underlying3, sz3, by3, ze3, Tryz.underlying4, sz4, by4, ze4, Tryz.underlying22, sz22, by22, ze22, go_sem, ↓reduceIte, reduceCtorEq, Nat.reduceEqDiff, Nat.reduceLT, ↓all_qV, Int.reduceToNat, Int.reduceLT, Int.reduceLE, Nat.reduceAdd, Nat.reduceLeDiff, Nat.reduceMul]
  refine AWp.loop (T := plan0) (α := Nat) (fun i => ([(1, .pv (.int .i64 n)), (7, .pv (.sl (l.map intV))), (8, .pv (.int .i64 l.length)), (9, .pv (.int .i64 i))], [])) (fun i => i ≤ l.length ∧ (l.drop i).contains n = l.contains n) (fun i => l.length - i)
    ⟨0, ⟨Nat.zero_le _, rfl⟩, ⟨by simp [fitR, look], trivial, rfl, rfl, rfl⟩⟩ ?_
  rintro i ⟨h1, h2⟩
  have hi1 : IntKind.i64.wrap ((i : Int) + 1) = ((i + 1 : Nat) : Int) := by rw [i64_in _ (by omega)]; omega
  by_cases hlt : i < l.length
  · have c0 : decide ((i : Int) < (l.length : Int)) = true := by simp; omega
    have hg := getD_intV hlt
    have hd : l.drop i = l.getD i 0 :: l.drop (i + 1) := by rw [List.drop_eq_getElem_cons hlt]; simp [List.getD_eq_getElem?_getD, hlt]
    rw [hd, List.contains_cons] at h2
    simp only [c0, hg, hi1, List.length_map, Tryz.underlying3, sz3, by3, ze3, Tryz.underlying4, sz4, by4, ze4, Tryz.underlying22, sz22, by22, ze22, plan0, go_sem, ↓reduceIte, reduceCtorEq, Nat.reduceEqDiff, Nat.reduceLT, ↓all_qV, Int.reduceToNat, Int.reduceLT, Int.reduceLE, Nat.reduceAdd, Nat.reduceLeDiff, Nat.reduceMul]
    and_intros
    all_goals try first | omega | trivial
    · intro h9
      rw [h9, Bool.true_or] at h2
      rw [← h2]
    · intro h9
      rw [h9, Bool.false_or] at h2
      exact ⟨i + 1, ⟨by omega, h2⟩, by omega, ⟨by simp [fitR, look], trivial, rfl, rfl, rfl⟩⟩
  · have c0 : decide ((i : Int) < (l.length : Int)) = false := by simp; omega
    rw [List.drop_eq_nil_of_le (by omega)] at h2
    simp only [c0, List.length_map, Tryz.underlying3, sz3, by3, ze3, Tryz.underlying4, sz4, by4, ze4, Tryz.underlying22, sz22, by22, ze22, plan0, go_sem, ↓reduceIte, reduceCtorEq, Nat.reduceEqDiff, Nat.reduceLT, ↓all_qV, Int.reduceToNat, Int.reduceLT, Int.reduceLE, Nat.reduceAdd, Nat.reduceLeDiff, Nat.reduceMul]
    rw [← h2]; rfl
def lastD (rs : List PV) : Int := if rs.length = 0 then 0 else rDay (rs.getD (rs.length - 1) default)
noncomputable def lastDS : PSpec := on_l (fun rs => (∀ x, x ∈ rs → isR x) ∧ rs.length ≤ 1000000) (fun rs => .int .i64 (lastD rs))
theorem w_lastDS : PSound GG 14 lastDS := by
  refine PSound.of_wpc (C := cxP Tryz.prog D2 [] 13) (T := plan0) Tryz.func14 rfl rfl rfl (Fit.pure (G := GG) hD2 mixed) (fun args h => ?_)
  unfold lastDS at h
  obtain ⟨rs, rfl, hp⟩ := on_l_inv h
  refine ⟨by simp [cxP], ?_⟩
  simp only [lastDS, on_l_eq, Tryz.f14, argL, plan0]
  obtain ⟨hR, hl⟩ := hp
  by_cases h0 : rs.length = 0
  · have c0 : ((rs.length : Int) == 0) = true := by rw [h0]; rfl
    have e : lastD rs = 0 := if_pos h0
    simp only [c0, e, Tryz.underlying1, sz1, by1, ze1, Tryz.underlying3, sz3, by3, ze3, Tryz.underlying4, sz4, by4, ze4, Tryz.underlying9, sz9, by9, ze9, Tryz.underlying35, sz35, by35, ze35, Tryz.underlying41, sz41, by41, ze41, fa41_0, fa41_1, fa41_2, fa41_3, go_sem, ↓reduceIte, reduceCtorEq, Nat.reduceEqDiff, Nat.reduceLT, ↓all_qV, Int.reduceToNat, Int.reduceLT, Int.reduceLE, Nat.reduceAdd, Nat.reduceLeDiff, Nat.reduceMul]
  · have c0 : ((rs.length : Int) == 0) = false := by simpa using h0
    have w1 : IntKind.i64.wrap ((rs.length : Int) - 1) = ((rs.length - 1 : Nat) : Int) := by rw [i64_in _ (by omega)]; omega
    obtain ⟨n, d, c, a, he, _⟩ := hR _ (getD_mem (show rs.length - 1 < rs.length by omega))
    have he : rs.getD (rs.length - 1) default = .agg [.int .i64 n, .int .i64 d, .str c, .int .i64 a] := he
    have e : lastD rs = d := by unfold lastD; rw [if_neg h0, he]; rfl
    simp only [c0, e, w1, he, Tryz.underlying1, sz1, by1, ze1, Tryz.underlying3, sz3, by3, ze3, Tryz.underlying4, sz4, by4, ze4, Tryz.underlying9, sz9, by9, ze9, Tryz.underlying35, sz35, by35, ze35, Tryz.underlying41, sz41, by41, ze41, fa41_0, fa41_1, fa41_2, fa41_3, go_sem, ↓reduceIte, reduceCtorEq, Nat.reduceEqDiff, Nat.reduceLT, ↓all_qV, Int.reduceToNat, Int.reduceLT, Int.reduceLE, Nat.reduceAdd, Nat.reduceLeDiff, Nat.reduceMul, ev_callG, gcallK_b, gcallK_w, callGc_true, callGc_false, List.forall_mem_cons, List.not_mem_nil, PV.one, AV.one]
    omega
/-- The last of the codes below 9, or 9. -/
def lfR : List PV → List UInt8 → List UInt8
  | [], out => out
  | h :: r, out => lfR r (bif !(Op.bytesLess (hCode h) [57] || hCode h == [57]) && decide ((1 : Int) < ((hCode h).length : Int)) && ((((hCode h).getD 0 0).toNat : Int) == 57) then hCode h else out)
theorem lfR_len : ∀ (l : List PV) (out : List UInt8), (∀ e, e ∈ l → (hCode e).length ≤ 100) → out.length ≤ 100 → (lfR l out).length ≤ 100
  | [], out, _, h => h
  | x :: r, out, h1, h => by
    unfold lfR
    apply lfR_len r _ (fun e he => h1 e (List.mem_cons_of_mem _ he))
    cases (!(Op.bytesLess (hCode x) [57] || hCode x == [57]) && decide ((1 : Int) < ((hCode x).length : Int)) && ((((hCode x).getD 0 0).toNat : Int) == 57)) with
    | true => exact h1 x List.mem_cons_self
    | false => exact h
noncomputable def leafRS : PSpec := on_p (fun l => ∃ L : Law, l = L.v ∧ treeP L.tree) (fun l => .str (lfR (lawTree l) [57]))
theorem w_leafRS : PSound GG 15 leafRS := by
  refine PSound.of_wpc (C := cxP Tryz.prog D2 [] 32) (T := plan0) Tryz.func15 rfl rfl rfl (Fit.pure (G := GG) hD2 mixed) (fun args h => ?_)
  unfold leafRS at h
  obtain ⟨l, rfl, hp⟩ := on_p_inv h
  refine ⟨by simp [cxP], ?_⟩
  simp only [leafRS, on_p_eq, Tryz.f15, argL, plan0]
  obtain ⟨⟨fi, ye, tr, la, lb, lc, ld, le, lf, lg⟩, rfl, ht⟩ := hp
  simp only at ht
  have h100 := ht.1
  simp only [Law.v, lawV, lawTree, List.length_map, Tryz.underlying2, sz2, by2, ze2, Tryz.underlying3, sz3, by3, ze3, Tryz.underlying4, sz4, by4, ze4, Tryz.underlying5, sz5, by5, ze5, Tryz.underlying9, sz9, by9, ze9, Tryz.underlying25, sz25, by25, ze25, Tryz.underlying26, sz26, by26, ze26, Tryz.underlying27, sz27, by27, ze27, Tryz.underlying28, sz28, by28, ze28, Tryz.underlying29, sz29, by29, ze29, Tryz.underlying30, sz30, by30, ze30, Tryz.underlying31, sz31, by31, ze31, Tryz.underlying33, sz33, by33, ze33, fa33_0, fa33_1, fa33_2, fa33_3, fa33_4, fa33_5, fa33_6, fa33_7, fa33_8, fa33_9, Tryz.underlying55, sz55, by55, ze55, fa55_0, fa55_1, Tryz.underlying57, sz57, by57, ze57, fa57_0, fa57_1, fa57_2, fa57_3, fa57_4, fa57_5, fa57_6, Tryz.underlying77, sz77, by77, ze77, fa77_0, fa77_1, fa77_2, Tryz.underlying86, sz86, by86, ze86, fa86_0, fa86_1, fa86_2, Tryz.underlying88, sz88, by88, ze88, fa88_0, fa88_1, fa88_2, fa88_3, Tryz.underlying89, sz89, by89, ze89, fa89_0, fa89_1, fa89_2, Tryz.underlying92, sz92, by92, ze92, fa92_0, fa92_1, fa92_2, fa92_3, Tryz.underlying93, sz93, by93, ze93, Tryz.underlying95, sz95, by95, ze95, fa95_0, fa95_1, fa95_2, go_sem, ↓reduceIte, reduceCtorEq, Nat.reduceEqDiff, Nat.reduceLT, ↓all_qV, Int.reduceToNat, Int.reduceLT, Int.reduceLE, Nat.reduceAdd, Nat.reduceLeDiff, Nat.reduceMul]
  refine AWp.loop (T := plan0) (α := Nat × List UInt8) (fun y => ([(3, .pv (.str y.2)), (7, .pv (.sl tr)), (8, .pv (.int .i64 tr.length)), (9, .pv (.int .i64 y.1))], [])) (fun y => y.1 ≤ tr.length ∧ lfR tr [57] = lfR (tr.drop y.1) y.2) (fun y => tr.length - y.1)
    ⟨(0, [57]), ⟨Nat.zero_le _, rfl⟩, ⟨by simp [fitR, look], by simp [fitH, hget], rfl, rfl, rfl⟩⟩ ?_
  rintro ⟨i, out⟩ ⟨h1, h2⟩
  simp only at h1 h2
  have hi1 : IntKind.i64.wrap ((i : Int) + 1) = ((i + 1 : Nat) : Int) := by rw [i64_in _ (by omega)]; omega
  by_cases hlt : i < tr.length
  · have c0 : decide ((i : Int) < (tr.length : Int)) = true := by simp; omega
    have hd : tr.drop i = tr.getD i default :: tr.drop (i + 1) := by rw [List.drop_eq_getElem_cons hlt]; simp [List.getD_eq_getElem?_getD, hlt]
    obtain ⟨c, n, he, hc⟩ := ht.2 _ (getD_mem hlt)
    have he : tr.getD i default = .agg [.str c, .str n] := he
    rw [hd, he, lfR] at h2
    have hcd : hCode (.agg [.str c, .str n]) = c := rfl
    rw [hcd] at h2
    simp only [c0, he, hi1, indexA, List.length_map, List.take_succ_cons, List.take_nil, Tryz.underlying2, sz2, by2, ze2, Tryz.underlying3, sz3, by3, ze3, Tryz.underlying4, sz4, by4, ze4, Tryz.underlying5, sz5, by5, ze5, Tryz.underlying9, sz9, by9, ze9, Tryz.underlying25, sz25, by25, ze25, Tryz.underlying26, sz26, by26, ze26, Tryz.underlying27, sz27, by27, ze27, Tryz.underlying28, sz28, by28, ze28, Tryz.underlying29, sz29, by29, ze29, Tryz.underlying30, sz30, by30, ze30, Tryz.underlying31, sz31, by31, ze31, Tryz.underlying33, sz33, by33, ze33, fa33_0, fa33_1, fa33_2, fa33_3, fa33_4, fa33_5, fa33_6, fa33_7, fa33_8, fa33_9, Tryz.underlying55, sz55, by55, ze55, fa55_0, fa55_1, Tryz.underlying57, sz57, by57, ze57, fa57_0, fa57_1, fa57_2, fa57_3, fa57_4, fa57_5, fa57_6, Tryz.underlying77, sz77, by77, ze77, fa77_0, fa77_1, fa77_2, Tryz.underlying86, sz86, by86, ze86, fa86_0, fa86_1, fa86_2, Tryz.underlying88, sz88, by88, ze88, fa88_0, fa88_1, fa88_2, fa88_3, Tryz.underlying89, sz89, by89, ze89, fa89_0, fa89_1, fa89_2, Tryz.underlying92, sz92, by92, ze92, fa92_0, fa92_1, fa92_2, fa92_3, Tryz.underlying93, sz93, by93, ze93, Tryz.underlying95, sz95, by95, ze95, fa95_0, fa95_1, fa95_2, plan0, go_sem, ↓reduceIte, reduceCtorEq, Nat.reduceEqDiff, Nat.reduceLT, ↓all_qV, Int.reduceToNat, Int.reduceLT, Int.reduceLE, Nat.reduceAdd, Nat.reduceLeDiff, Nat.reduceMul, ev_callG, gcallK_b, gcallK_w, callGc_true, callGc_false, List.forall_mem_cons, List.not_mem_nil, PV.one, AV.one]
    and_intros
    all_goals try first | omega | trivial | (intro h9; simp only [Bool.and_eq_true, decide_eq_true_eq] at h9; omega)
    · intro h9
      exact ⟨(i + 1, c), ⟨by simp only; omega, by rw [h2, h9]; rfl⟩, by simp only; omega, ⟨by simp [fitR, look], by simp [fitH, hget], rfl, rfl, rfl⟩⟩
    · intro h9
      exact ⟨(i + 1, out), ⟨by simp only; omega, by rw [h2, h9]; rfl⟩, by simp only; omega, ⟨by simp [fitR, look], by simp [fitH, hget], rfl, rfl, rfl⟩⟩
  · have c0 : decide ((i : Int) < (tr.length : Int)) = false := by simp; omega
    rw [List.drop_eq_nil_of_le (by omega), lfR] at h2
    simp only [c0, List.length_map, Tryz.underlying2, sz2, by2, ze2, Tryz.underlying3, sz3, by3, ze3, Tryz.underlying4, sz4, by4, ze4, Tryz.underlying5, sz5, by5, ze5, Tryz.underlying9, sz9, by9, ze9, Tryz.underlying25, sz25, by25, ze25, Tryz.underlying26, sz26, by26, ze26, Tryz.underlying27, sz27, by27, ze27, Tryz.underlying28, sz28, by28, ze28, Tryz.underlying29, sz29, by29, ze29, Tryz.underlying30, sz30, by30, ze30, Tryz.underlying31, sz31, by31, ze31, Tryz.underlying33, sz33, by33, ze33, fa33_0, fa33_1, fa33_2, fa33_3, fa33_4, fa33_5, fa33_6, fa33_7, fa33_8, fa33_9, Tryz.underlying55, sz55, by55, ze55, fa55_0, fa55_1, Tryz.underlying57, sz57, by57, ze57, fa57_0, fa57_1, fa57_2, fa57_3, fa57_4, fa57_5, fa57_6, Tryz.underlying77, sz77, by77, ze77, fa77_0, fa77_1, fa77_2, Tryz.underlying86, sz86, by86, ze86, fa86_0, fa86_1, fa86_2, Tryz.underlying88, sz88, by88, ze88, fa88_0, fa88_1, fa88_2, fa88_3, Tryz.underlying89, sz89, by89, ze89, fa89_0, fa89_1, fa89_2, Tryz.underlying92, sz92, by92, ze92, fa92_0, fa92_1, fa92_2, fa92_3, Tryz.underlying93, sz93, by93, ze93, Tryz.underlying95, sz95, by95, ze95, fa95_0, fa95_1, fa95_2, plan0, go_sem, ↓reduceIte, reduceCtorEq, Nat.reduceEqDiff, Nat.reduceLT, ↓all_qV, Int.reduceToNat, Int.reduceLT, Int.reduceLE, Nat.reduceAdd, Nat.reduceLeDiff, Nat.reduceMul]
    rw [h2]
noncomputable def D3 (g : FuncId) : PSpec := (putΦ (putΦ (putΦ D2 22 mkInS) 14 lastDS) 15 leafRS) g
theorem hD3 : TabSound GG D3 := (((hD2.put w_mkInS).put w_lastDS).put w_leafRS)
end Go.AM
