/-
  A part of a proof: see the last text of this claim for what is proved.
-/
import Derived.Test.YthfmoamiaofamaaGreatDoorU2x
import Derived.Test.YthfmoamiaofamaaGreatDoorU2p
import Derived.Test.YthfmoamiaofamaaGreatDoorQR
import Derived.Test.YthfmoamiaofamaaGreatDoorZMa
import Derived.Test.YthfmoamiaofamaaGreatDoorNE
namespace Go.AM
open Go Go.Proofs Go.IntWalk
set_option maxRecDepth 100000
set_option maxHeartbeats 4000000
set_option linter.unusedSimpArgs false
set_option linter.unusedVariables false
def on_liii (p : List PV → Int → Int → Int → Prop) (f : List PV → Int → Int → Int → PV) : PSpec
  | [.sl a0, .int .i64 a1, .int .i64 a2, .int .i64 a3] => (p a0 a1 a2 a3, f a0 a1 a2 a3)
  | _ => (False, default)
theorem on_liii_eq {p : List PV → Int → Int → Int → Prop} {f : List PV → Int → Int → Int → PV} {a0 : List PV} {a1 : Int} {a2 : Int} {a3 : Int} : on_liii p f [.sl a0, .int .i64 a1, .int .i64 a2, .int .i64 a3] = (p a0 a1 a2 a3, f a0 a1 a2 a3) := rfl
theorem on_liii_inv {p : List PV → Int → Int → Int → Prop} {f : List PV → Int → Int → Int → PV} {args : List PV} (h : (on_liii p f args).1) : ∃ a0 : List PV, ∃ a1 : Int, ∃ a2 : Int, ∃ a3 : Int, args = [.sl a0, .int .i64 a1, .int .i64 a2, .int .i64 a3] ∧ p a0 a1 a2 a3 := by
  unfold on_liii at h
  split at h
  · exact ⟨_, _, _, _, rfl, h⟩
  · exact h.elim
theorem ze500 : zeroT Tryz.prog 98 = some (.agg (Array.replicate 500 (.int .i64 0))) := by kernel_rfl
def sumsT (en fr to : Int) (l : List Pst) : List Int := tab 500 fun i => balF en fr to ((i : Int) + 100) l
theorem rcnt {en fr to : Int} {x : Pst} : (decide (x.d < fr) || decide (to < x.d) || (en != 0) && (x.en != en)) = !cntB en fr to x := by
  unfold cntB amg
  rw [Bool.eq_iff_iff]
  by_cases h1 : en = 0 <;> by_cases h2 : x.en = en <;> simp [h1, h2] <;> omega
theorem clsI_pos {n : Int} (h : 0 < clsI n) : 100 ≤ n ∧ n ≤ 599 := by
  unfold clsI at h
  cases h1 : amg n 100 599 with
  | false => rw [h1] at h; simp at h
  | true => simpa [amg] using h1
/-- One posting more. -/
theorem sums_step {en fr to : Int} {l : List Pst} {x : Pst} (hc : cntB en fr to x = true) (hne : x.db ≠ x.cr) (hd : 100 ≤ x.db ∧ x.db ≤ 599) (hr : 100 ≤ x.cr ∧ x.cr ≤ 599) :
    ((sumsT en fr to l).set (x.db - 100).toNat (balF en fr to x.db l + x.am)).set (x.cr - 100).toNat (balF en fr to x.cr l - x.am) = sumsT en fr to (l ++ [x]) := by
  unfold sumsT
  rw [tab_set, tab_set]
  refine tab_congr (fun i hi => ?_)
  rw [bal_app]
  simp only [balF, hc, cond_true]
  by_cases h1 : i = (x.cr - 100).toNat
  · have e1 : (i : Int) + 100 = x.cr := by omega
    have e2 : ¬ i = (x.db - 100).toNat := by omega
    rw [e1]
    have e3 : (x.cr == x.db) = false := by simpa using fun h => hne h.symm
    simp [h1, e3]
    omega
  · have e1 : ((i : Int) + 100 == x.cr) = false := by simp; omega
    rw [e1]
    by_cases h2 : i = (x.db - 100).toNat
    · have e2 : (i : Int) + 100 = x.db := by omega
      rw [e2]; simp [h1, h2]
      intro h; omega
    · have e2 : ((i : Int) + 100 == x.db) = false := by simp; omega
      simp [h1, h2, e2]
theorem sums_skip {en fr to : Int} {l : List Pst} {x : Pst} (hc : cntB en fr to x = false) : sumsT en fr to (l ++ [x]) = sumsT en fr to l := by
  unfold sumsT
  refine tab_congr (fun i hi => ?_)
  rw [bal_app]
  simp [balF, hc]
def lsOf : PV → List Pst
  | .sl es => es.map psOf
  | _ => []
noncomputable def rsumS : PSpec := on_liii (fun es _ _ _ => ∃ l : List Pst, es = l.map psV ∧ (∀ x, x ∈ l → pB x = true) ∧ l.length ≤ 1000) (fun es en fr to => .agg (arrP (sumsT en fr to (es.map psOf))))
theorem w_rsumS : PSound GG 70 rsumS := by
  refine PSound.of_wpc (C := cxP Tryz.prog AE [] 58) (T := plan0) Tryz.func70 rfl rfl rfl (Fit.pure (G := GG) hAE mixed) (fun args h => ?_)
  unfold rsumS at h
  obtain ⟨es, en, fr, to, rfl, hp⟩ := on_liii_inv h
  refine ⟨by simp [cxP], ?_⟩
  simp only [rsumS, on_liii_eq, Tryz.f70, argL, plan0]
  obtain ⟨l, rfl, hpb, hl⟩ := hp
  simp only [map_psOf, ze500, arrV_rep, arrV_one, List.length_map, Tryz.underlying1, sz1, by1, ze1, Tryz.underlying2, sz2, by2, ze2, Tryz.underlying3, sz3, by3, ze3, Tryz.underlying4, sz4, by4, ze4, Tryz.underlying5, sz5, by5, ze5, Tryz.underlying23, sz23, by23, ze23, Tryz.underlying63, sz63, by63, ze63, fa63_0, fa63_1, fa63_2, fa63_3, fa63_4, fa63_5, fa63_6, fa63_7, Tryz.underlying98, sz98, by98, go_sem, ↓reduceIte, reduceCtorEq, Nat.reduceEqDiff, Nat.reduceLT, ↓all_qV, Int.reduceToNat, Int.reduceLT, Int.reduceLE, Nat.reduceAdd, Nat.reduceLeDiff, Nat.reduceMul]
  refine AWp.loop (T := plan0) (α := Nat) (fun i => ([(1, .pv (.int .i64 en)), (2, .pv (.int .i64 fr)), (3, .pv (.int .i64 to)), (8, .ptr 8 0), (9, .ptr 9 0), (12, .pv (.sl (l.map psV))), (13, .pv (.int .i64 l.length)), (14, .pv (.int .i64 i))], [(8, .cells (arrV (List.replicate 500 0))), (9, .cells (arrV (sumsT en fr to (l.take i))))]))
    (fun i => i ≤ l.length) (fun i => l.length - i)
    ⟨0, Nat.zero_le _, ⟨by simp [fitR, look], by simp [fitH, hget, sumsT, balF, tab_rep], rfl, rfl, rfl⟩⟩ ?_
  intro i hi
  have hi1 : IntKind.i64.wrap ((i : Int) + 1) = ((i + 1 : Nat) : Int) := by rw [i64_in _ (by omega)]; omega
  have hS : (sumsT en fr to (l.take i)).length = 500 := tab_len
  by_cases hlt : i < l.length
  · have c0 : decide ((i : Int) < (l.length : Int)) = true := by simp; omega
    have e1 := getD_ps hlt
    have hx := pB_parts (hpb _ (mem_getD' hlt))
    have hst := fun h1 h2 h3 h4 => sums_step (en := en) (fr := fr) (to := to) (l := l.take i) (x := l.getD i default) h1 h2 h3 h4
    have hsk := fun h1 => sums_skip (en := en) (fr := fr) (to := to) (l := l.take i) (x := l.getD i default) h1
    rw [← take_succ' hlt] at hst hsk
    have hrc := rcnt (en := en) (fr := fr) (to := to) (x := l.getD i default)
    have hbl := fun a => bal_le en fr to a (l.take i) (fun y hy => by have := pB_parts (hpb y (List.mem_of_mem_take hy)); omega)
    have htl : (l.take i).length ≤ 1000 := by rw [List.length_take]; omega
    generalize l.getD i default = x at e1 hx hst hsk hrc
    have hd := clsI_pos hx.2.2.2.1
    have hc := clsI_pos hx.2.2.2.2.1
    have hne := hx.2.2.2.2.2.1
    have ham := hx.2.2.2.2.2.2.1
    have gt : ∀ a : Int, 100 ≤ a → a ≤ 599 → (sumsT en fr to (l.take i)).getD (a - 100).toNat 0 = balF en fr to a (l.take i) := fun a h1 h2 => by
      unfold sumsT
      rw [tab_get (by omega), show (((a - 100).toNat : Nat) : Int) + 100 = a by omega]
    have hbd := hbl x.db
    have hbc := hbl x.cr
    have g1 := arrV_get (s := sumsT en fr to (l.take i)) (i := (x.db - 100).toNat) (by omega)
    rw [gt _ hd.1 hd.2] at g1
    have g2 := arrV_get_ne (s := sumsT en fr to (l.take i)) (i := (x.db - 100).toNat) (j := (x.cr - 100).toNat) (v := balF en fr to x.db (l.take i) + x.am) (by omega) (by omega)
    rw [gt _ hc.1 hc.2] at g2
    have hst := fun h1 => hst h1 hne hd hc
    generalize balF en fr to x.db (l.take i) = B1 at g1 g2 hst hbd
    generalize balF en fr to x.cr (l.take i) = B2 at g2 hst hbc
    generalize sumsT en fr to (l.take i) = S at hS g1 g2 hst hsk
    obtain ⟨nu, d, e, db, cr, am, pa, re⟩ := x
    simp only [psV] at e1
    simp only at hd hc ham g1 g2 hst hsk hrc
    have w1 : IntKind.i64.wrap (db - 100) = db - 100 := i64_in _ (by omega)
    have w2 : IntKind.i64.wrap (cr - 100) = cr - 100 := i64_in _ (by omega)
    have w3 : IntKind.i64.wrap (B1 + am) = B1 + am := i64_in _ (by omega)
    have w4 : IntKind.i64.wrap (B2 - am) = B2 - am := i64_in _ (by omega)
    simp (config := {maxSteps := 1000000}) only [c0, e1, hi1, hrc, w1, w2, w3, w4, g1, g2, Nat.mul_one, arrV_len, List.length_set, hS, arrV_set, arrV_kill, List.length_map, List.take_succ_cons, List.take_nil, Tryz.underlying1, sz1, by1, ze1, Tryz.underlying2, sz2, by2, ze2, Tryz.underlying3, sz3, by3, ze3, Tryz.underlying4, sz4, by4, ze4, Tryz.underlying5, sz5, by5, ze5, Tryz.underlying23, sz23, by23, ze23, Tryz.underlying63, sz63, by63, ze63, fa63_0, fa63_1, fa63_2, fa63_3, fa63_4, fa63_5, fa63_6, fa63_7, Tryz.underlying98, sz98, by98, plan0, go_sem, ↓reduceIte, reduceCtorEq, Nat.reduceEqDiff, Nat.reduceLT, ↓all_qV, Int.reduceToNat, Int.reduceLT, Int.reduceLE, Nat.reduceAdd, Nat.reduceLeDiff, Nat.reduceMul]
    have hb9 : cntB en fr to ⟨nu, d, e, db, cr, am, pa, re⟩ = false → sumsT en fr to (l.take (i + 1)) = S := fun h9 => hsk h9
    refine ⟨⟨by omega, by omega⟩, fun a b => by rw [a, b]; rfl, fun h9 => ⟨i + 1, by omega, by omega, ⟨by simp [fitR, look], by rw [hsk (by simpa using h9)]; simp [fitH, hget], rfl, rfl, rfl⟩⟩, fun h9 => ?_⟩
    and_intros
    all_goals try first | (show checkD _ _ _ = true; kernel_rfl) | omega | rfl
    exact ⟨i + 1, by omega, by omega, ⟨by simp [fitR, look], by rw [← hst (by simpa using h9)]; simp [fitH, hget], rfl, rfl, rfl⟩⟩
  · have c0 : decide ((i : Int) < (l.length : Int)) = false := by simp; omega
    rw [List.take_of_length_le (by omega)] at hS ⊢
    have hp := arrV_put (s := sumsT en fr to l) (t := List.replicate 500 0) (by rw [hS, List.length_replicate])
    simp only [c0, hp, hS, loadC_eq, arrV_len, arrV_one, arrV_take hS, arrV_frz, List.length_replicate, Tryz.underlying1, sz1, by1, ze1, Tryz.underlying2, sz2, by2, ze2, Tryz.underlying3, sz3, by3, ze3, Tryz.underlying4, sz4, by4, ze4, Tryz.underlying5, sz5, by5, ze5, Tryz.underlying23, sz23, by23, ze23, Tryz.underlying63, sz63, by63, ze63, fa63_0, fa63_1, fa63_2, fa63_3, fa63_4, fa63_5, fa63_6, fa63_7, Tryz.underlying98, sz98, by98, plan0, go_sem, ↓reduceIte, reduceCtorEq, Nat.reduceEqDiff, Nat.reduceLT, ↓all_qV, Int.reduceToNat, Int.reduceLT, Int.reduceLE, Nat.reduceAdd, Nat.reduceLeDiff, Nat.reduceMul]
    exact arrV_frzOk
noncomputable def AF (g : FuncId) : PSpec := (putΦ AE 70 rsumS) g
theorem hAF : TabSound GG AF := (hAE.put w_rsumS)
end Go.AM
namespace Go.AM
open Go Go.Proofs Go.IntWalk
set_option maxRecDepth 100000
set_option maxHeartbeats 4000000
set_option linter.unusedSimpArgs false
set_option linter.unusedVariables false
def rofF (l : List Pst) (en ac d : Int) : Int := bif lkF l != 0 || clsI ac == 0 then 0 else balF en 0 d ac l
noncomputable def rofS : PSpec := on_piii (fun e _ _ _ => isLg e) (fun e en ac d => .int .i64 (rofF (lgOf e) en ac d))
theorem k_rofS_47 {args : List PV} : AF 47 args = rchkS args := rfl
theorem k_rofS_69 {args : List PV} : AF 69 args = rclsS args := rfl
theorem k_rofS_70 {args : List PV} : AF 70 args = rsumS args := rfl
theorem w_rofS : PSound GG 49 rofS := by
  refine PSound.of_wpc (C := cxP Tryz.prog AF [] 25) (T := plan0) Tryz.func49 rfl rfl rfl (Fit.pure (G := GG) hAF mixed) (fun args h => ?_)
  unfold rofS at h
  obtain ⟨e, en, ac, d, rfl, hp⟩ := on_piii_inv h
  refine ⟨by simp [cxP], ?_⟩
  simp only [rofS, on_piii_eq, Tryz.f49, argL, plan0]
  obtain ⟨l, rfl, hl⟩ := hp
  simp only [lgV, lgOf_agg, map_psOf, List.length_map, k_rofS_47, rchkS, on_p_eq, k_rofS_69, rclsS, on_i_eq, k_rofS_70, rsumS, on_liii_eq, List.take_succ_cons, List.take_nil, Tryz.underlying3, sz3, by3, ze3, Tryz.underlying4, sz4, by4, ze4, Tryz.underlying23, sz23, by23, ze23, Tryz.underlying25, sz25, by25, ze25, fa25_0, Tryz.underlying41, sz41, by41, ze41, Tryz.underlying63, sz63, by63, ze63, fa63_0, fa63_1, fa63_2, fa63_3, fa63_4, fa63_5, fa63_6, fa63_7, Tryz.underlying98, sz98, by98, go_sem, ↓reduceIte, reduceCtorEq, Nat.reduceEqDiff, Nat.reduceLT, ↓all_qV, Int.reduceToNat, Int.reduceLT, Int.reduceLE, Nat.reduceAdd, Nat.reduceLeDiff, Nat.reduceMul, ev_callG, gcallK_b, gcallK_w, callGc_true, callGc_false]
  refine ⟨⟨okL1, l, rfl, hl⟩, fun h1 => by unfold rofF; rw [h1]; rfl, fun h1 => ?_⟩
  have h2 : lkF l = 0 ∧ clsI ac ≠ 0 := by simpa using h1
  have hac := clsI_pos (show 0 < clsI ac by have := clsI_nn (n := ac); omega)
  obtain ⟨g1, g2, _⟩ := lkF_ok h2.1
  have w1 : IntKind.i64.wrap (ac - 100) = ac - 100 := i64_in _ (by omega)
  have hS : (sumsT en 0 d l).length = 500 := tab_len
  have hg := arrP_get (s := sumsT en 0 d l) (i := (ac - 100).toNat) (by omega)
  have hr : (sumsT en 0 d l).getD (ac - 100).toNat 0 = rofF l en ac d := by
    unfold sumsT rofF
    rw [tab_get (by omega), show (((ac - 100).toNat : Nat) : Int) + 100 = ac by omega, h1]; rfl
  rw [hr] at hg
  simp only [w1, hg, hS, indexA, arrP_len, Nat.mul_one, Tryz.underlying3, sz3, by3, ze3, Tryz.underlying4, sz4, by4, ze4, Tryz.underlying23, sz23, by23, ze23, Tryz.underlying25, sz25, by25, ze25, fa25_0, Tryz.underlying41, sz41, by41, ze41, Tryz.underlying63, sz63, by63, ze63, fa63_0, fa63_1, fa63_2, fa63_3, fa63_4, fa63_5, fa63_6, fa63_7, Tryz.underlying98, sz98, by98, go_sem, ↓reduceIte, reduceCtorEq, Nat.reduceEqDiff, Nat.reduceLT, ↓all_qV, Int.reduceToNat, Int.reduceLT, Int.reduceLE, Nat.reduceAdd, Nat.reduceLeDiff, Nat.reduceMul, ev_callG, gcallK_b, gcallK_w, callGc_true, callGc_false]
  exact ⟨⟨l, rfl, g2, by omega⟩, by omega, by omega, by omega⟩
/-! ### Post -/
def on_pp (p : PV → PV → Prop) (f : PV → PV → PV) : PSpec
  | [a0, a1] => (p a0 a1, f a0 a1)
  | _ => (False, default)
theorem on_pp_eq {p : PV → PV → Prop} {f : PV → PV → PV} {a0 : PV} {a1 : PV} : on_pp p f [a0, a1] = (p a0 a1, f a0 a1) := rfl
theorem on_pp_inv {p : PV → PV → Prop} {f : PV → PV → PV} {args : List PV} (h : (on_pp p f args).1) : ∃ a0 : PV, ∃ a1 : PV, args = [a0, a1] ∧ p a0 a1 := by
  unfold on_pp at h
  split at h
  · exact ⟨_, _, rfl, h⟩
  · exact h.elim
def poF (l : List Pst) (p : Pst) : List Pst × Int :=
  bif lkF l != 0 then ([], lkF l) else bif !pB p then ([], 85) else bif (l.length : Int) == 400 then ([], 3) else bif p.nu != (l.length : Int) + 1 then ([], 65) else bif decide (0 < (l.length : Int)) && decide (p.d < (l.getD (l.length - 1) default).d) then ([], 8) else (l ++ [p], 0)
noncomputable def rpoS : PSpec := on_pp (fun a b => isLg a ∧ isPs b) (fun a b => .tup [lgV (poF (lgOf a) (psOf b)).1, .int .i64 (poF (lgOf a) (psOf b)).2])
def planP : Plan := { keep := fun _ => none, cut := fun _ => false, stop := fun i => i == 13 }
theorem okN1 {H : AHeap} : ∀ c, c ∈ [AV.nils] → c.one = true ∧ frzOk H 3 c := fun c hc => by rw [List.mem_singleton] at hc; subst hc; exact ⟨rfl, trivial⟩
theorem okLg {H : AHeap} {l : List PV} : ∀ c, c ∈ [AV.pv (.sl l)] → c.one = true ∧ frzOk H 3 c := okL1
theorem k_rpoS_47 {args : List PV} : AF 47 args = rchkS args := rfl
theorem k_rpoS_56 {args : List PV} : AF 56 args = rpstS args := rfl
theorem w_rpoS : PSound GG 28 rpoS := by
  refine PSound.of_wpc (C := cxP Tryz.prog AF [] 56) (T := planP) Tryz.func28 rfl rfl rfl (Fit.pure (G := GG) hAF mixed) (fun args h => ?_)
  unfold rpoS at h
  obtain ⟨a, b, rfl, hp⟩ := on_pp_inv h
  refine ⟨by simp [cxP], ?_⟩
  simp only [rpoS, on_pp_eq, Tryz.f28, argL, planP]
  obtain ⟨⟨l, rfl, hl⟩, ⟨⟨nu, d, en, db, cr, am, pa, re⟩, rfl⟩⟩ := hp
  have tl : (l.map psV).take l.length = l.map psV := List.take_of_length_le (by rw [List.length_map]; exact Nat.le_refl _)
  have hwl : ∀ e, e ∈ l.map psV → e.cells.length = 8 := fun e he => by obtain ⟨x, _, rfl⟩ := List.mem_map.1 he; rfl
  have tl1 : ∀ z : PV, (l.map psV ++ [z]).take (l.length + 1) = l.map psV ++ [z] := fun z => List.take_of_length_le (by simp)
  have w1 : IntKind.i64.wrap ((l.length : Int) + 1) = (l.length : Int) + 1 := i64_in _ (by omega)
  cases hn : l.length with
  | zero =>
    have hnil : l = [] := List.length_eq_zero_iff.1 hn
    subst hnil
    have h0 : (lkF (lgOf (.agg [.sl []])) != 0) = false := rfl
    have h40 : ((0 : Int) == 400) = false := rfl
    have q1 : decide ((0 : Int) < 0) = false := by decide
    have q2 : IntKind.i64.wrap (0 + 1) = 1 := by decide
    have nf : decide False = false := by simp
    have hdef : (default : PV) = .bool false := rfl
    have hpo : poF (lgOf (.agg [.sl []])) ⟨nu, d, en, db, cr, am, pa, re⟩ = bif !pB ⟨nu, d, en, db, cr, am, pa, re⟩ then ([], 85) else bif nu != 1 then ([], 65) else ([⟨nu, d, en, db, cr, am, pa, re⟩], 0) := by
      show poF [] ⟨nu, d, en, db, cr, am, pa, re⟩ = _
      unfold poF
      have e1 : (lkF ([] : List Pst) != 0) = false := rfl
      rw [e1]; simp
    simp only [h0, h40, q1, q2, nf, hdef, List.getD_nil, psV, psOf_agg, lgV, lgOf_agg, hpo, map_psOf, List.map_nil, List.length_nil, loadC_eq, k_rpoS_47, rchkS, on_p_eq, k_rpoS_56, rpstS, List.take_succ_cons, List.take_nil, Tryz.underlying1, sz1, by1, ze1, Tryz.underlying3, sz3, by3, ze3, Tryz.underlying4, sz4, by4, ze4, Tryz.underlying23, sz23, by23, ze23, Tryz.underlying25, sz25, by25, ze25, fa25_0, Tryz.underlying41, sz41, by41, ze41, Tryz.underlying63, sz63, by63, ze63, fa63_0, fa63_1, fa63_2, fa63_3, fa63_4, fa63_5, fa63_6, fa63_7, planP, go_sem, ↓reduceIte, reduceCtorEq, Nat.reduceEqDiff, Nat.reduceLT, ↓all_qV, Int.reduceToNat, Int.reduceLT, Int.reduceLE, Nat.reduceAdd, Nat.reduceLeDiff, Nat.reduceMul, ev_callG, gcallK_b, gcallK_w, callGc_true, callGc_false]
    refine ⟨⟨okL1, [], rfl, by simp⟩, ⟨okPs, isPs_agg⟩, fun h1 => ?_, fun h1 => ?_⟩
    · exact ⟨okN1, by rw [h1]; rfl⟩
    · refine ⟨fun h2 => ⟨okN1, by rw [h1, h2]; rfl⟩, fun h2 => ?_⟩
      refine ⟨by kernel_rfl, ?_⟩
      rw [h1, h2]
      refine AWp.perm (T := plan0) [0, 1, 3, 4, 2, 5, 6, 7, 8] (by kernel_rfl) rfl ?_
      simp only [opsOf, List.filterMap_cons, List.filterMap_nil, List.getElem?_toArray, List.getElem?_cons_succ, List.getElem?_cons_zero, psV, loadC_eq, List.map_nil, List.length_nil, List.take_succ_cons, List.take_nil, Tryz.underlying1, sz1, by1, ze1, Tryz.underlying3, sz3, by3, ze3, Tryz.underlying4, sz4, by4, ze4, Tryz.underlying23, sz23, by23, ze23, Tryz.underlying25, sz25, by25, ze25, fa25_0, Tryz.underlying41, sz41, by41, ze41, Tryz.underlying63, sz63, by63, ze63, fa63_0, fa63_1, fa63_2, fa63_3, fa63_4, fa63_5, fa63_6, fa63_7, plan0, go_sem, ↓reduceIte, reduceCtorEq, Nat.reduceEqDiff, Nat.reduceLT, ↓all_qV, Int.reduceToNat, Int.reduceLT, Int.reduceLE, Nat.reduceAdd, Nat.reduceLeDiff, Nat.reduceMul, ev_callG, gcallK_b, gcallK_w, callGc_true, callGc_false]
      have tk1 : ∀ z : PV, (z : PV) = z := fun z => rfl
      and_intros
      all_goals try first | exact okPs | rfl | omega | (simp only [maxLen]; omega) | (intro e he; cases he; done) | (intro e he; rw [List.mem_singleton] at he; subst he; rfl) | (simp [frzOk, hget]; done)
  | succ k =>
    have c1 : decide (0 < ((k + 1 : Nat) : Int)) = true := by simp
    have w2 : IntKind.i64.wrap (((k + 1 : Nat) : Int) - 1) = (k : Int) := by rw [i64_in _ (by omega)]; omega
    have e1 := getD_ps (l := l) (i := k) (by omega)
    have hpo : poF l ⟨nu, d, en, db, cr, am, pa, re⟩ = bif lkF l != 0 then ([], lkF l) else bif !pB ⟨nu, d, en, db, cr, am, pa, re⟩ then ([], 85) else bif ((k + 1 : Nat) : Int) == 400 then ([], 3) else bif nu != ((k + 1 : Nat) : Int) + 1 then ([], 65) else bif decide (d < (l.getD k default).d) then ([], 8) else (l ++ [⟨nu, d, en, db, cr, am, pa, re⟩], 0) := by
      unfold poF
      rw [hn, c1]; rfl
    generalize l.getD k default = y at e1 hpo
    obtain ⟨nu', d', en', db', cr', am', pa', re'⟩ := y
    simp only [psV] at e1
    simp only at hpo
    rw [hn] at w1
    simp only [c1, w1, w2, e1, hn, psV, psOf_agg, lgV, lgOf_agg, hpo, map_psOf, List.length_map, loadC_eq, k_rpoS_47, rchkS, on_p_eq, k_rpoS_56, rpstS, List.take_succ_cons, List.take_nil, Tryz.underlying1, sz1, by1, ze1, Tryz.underlying3, sz3, by3, ze3, Tryz.underlying4, sz4, by4, ze4, Tryz.underlying23, sz23, by23, ze23, Tryz.underlying25, sz25, by25, ze25, fa25_0, Tryz.underlying41, sz41, by41, ze41, Tryz.underlying63, sz63, by63, ze63, fa63_0, fa63_1, fa63_2, fa63_3, fa63_4, fa63_5, fa63_6, fa63_7, planP, go_sem, ↓reduceIte, reduceCtorEq, Nat.reduceEqDiff, Nat.reduceLT, ↓all_qV, Int.reduceToNat, Int.reduceLT, Int.reduceLE, Nat.reduceAdd, Nat.reduceLeDiff, Nat.reduceMul, ev_callG, gcallK_b, gcallK_w, callGc_true, callGc_false]
    refine ⟨⟨okL1, l, rfl, hl⟩, fun h0 => ⟨okN1, by rw [h0]; rfl⟩, fun h0 => ⟨⟨okPs, isPs_agg⟩, fun h1 => ⟨okN1, by rw [h0, h1]; rfl⟩, fun h1 => ⟨fun h2 => ⟨okN1, by rw [h0, h1, h2]; rfl⟩, fun h2 => ⟨fun h3 => ⟨okN1, by rw [h0, h1, h2, h3]; rfl⟩, fun h3 => ?_⟩⟩⟩⟩
    refine ⟨by kernel_rfl, ⟨by omega, by omega⟩, fun h4 => ⟨okN1, by rw [h0, h1, h2, h3, h4]; rfl⟩, fun h4 => ?_⟩
    rw [h0, h1, h2, h3, h4]
    refine AWp.perm (T := plan0) [0, 1, 3, 4, 2, 5, 6, 7, 8] (by kernel_rfl) rfl ?_
    rw [hn] at tl tl1
    simp only [opsOf, List.filterMap_cons, List.filterMap_nil, List.getElem?_toArray, List.getElem?_cons_succ, List.getElem?_cons_zero, tl, tl1, hn, psV, loadC_eq, List.length_map, List.take_succ_cons, List.take_nil, Tryz.underlying1, sz1, by1, ze1, Tryz.underlying3, sz3, by3, ze3, Tryz.underlying4, sz4, by4, ze4, Tryz.underlying23, sz23, by23, ze23, Tryz.underlying25, sz25, by25, ze25, fa25_0, Tryz.underlying41, sz41, by41, ze41, Tryz.underlying63, sz63, by63, ze63, fa63_0, fa63_1, fa63_2, fa63_3, fa63_4, fa63_5, fa63_6, fa63_7, plan0, go_sem, ↓reduceIte, reduceCtorEq, Nat.reduceEqDiff, Nat.reduceLT, ↓all_qV, Int.reduceToNat, Int.reduceLT, Int.reduceLE, Nat.reduceAdd, Nat.reduceLeDiff, Nat.reduceMul, ev_callG, gcallK_b, gcallK_w, callGc_true, callGc_false]
    and_intros
    all_goals try first | exact okPs | rfl | omega | (simp only [maxLen]; omega) | exact hwl | (intro e he; cases he; done) | (intro e he; rw [List.mem_singleton] at he; subst he; rfl) | (simp [frzOk, hget]; done) | (intro c hc; rw [List.mem_singleton] at hc; subst hc; simp [frzOk, hget, hn]; done) | (simp [psV]; done)
noncomputable def AG (g : FuncId) : PSpec := (putΦ (putΦ AF 49 rofS) 28 rpoS) g
theorem hAG : TabSound GG AG := ((hAF.put w_rofS).put w_rpoS)
end Go.AM
