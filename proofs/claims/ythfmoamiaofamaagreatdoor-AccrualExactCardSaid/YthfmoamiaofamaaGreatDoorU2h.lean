/-
  A part of a proof: see the last text of this claim for what is proved.
-/
import Derived.Test.YthfmoamiaofamaaGreatDoorU2g
import Derived.Test.YthfmoamiaofamaaGreatDoorZMa
/-! the tape: ledgers -/
namespace Go.AM
open Go Go.Proofs Go.IntWalk
set_option maxRecDepth 100000
set_option maxHeartbeats 4000000
set_option linter.unusedSimpArgs false
set_option linter.unusedVariables false
/-! ### Posting -/
def pstG (nu d ents : Int) (x : Pst) : Prop := x.nu = nu ∧ x.d = d ∧ (1 ≤ x.en ∧ x.en ≤ ents) ∧ pB x = true ∧ x.am ≤ 1000 ∧ x.re ≤ 3
def preG (args : List PV) : Prop := ∃ nu d ents : Int, args = [.int .i64 nu, .int .i64 d, .int .i64 ents] ∧ (1 ≤ nu ∧ nu ≤ 1000) ∧ (0 ≤ d ∧ d ≤ 30000) ∧ (1 ≤ ents ∧ ents ≤ 10)
theorem preG_eq {nu d ents : Int} : preG [.int .i64 nu, .int .i64 d, .int .i64 ents] = ((1 ≤ nu ∧ nu ≤ 1000) ∧ (0 ≤ d ∧ d ≤ 30000) ∧ (1 ≤ ents ∧ ents ≤ 10)) := propext ⟨fun ⟨a, b, c, e, h⟩ => by
  simp only [List.cons.injEq, PV.int.injEq, and_true, true_and] at e
  obtain ⟨rfl, rfl, rfl⟩ := e; exact h, fun h => ⟨_, _, _, rfl, h⟩⟩
def arg3 : List PV → Int
  | _ :: _ :: .int _ k :: _ => k
  | _ => 0
def okG (args : List PV) (x : Pst) : Prop := pstG (arg1 args) (arg2 args) (arg3 args) x
noncomputable def pstgS : QSpec := qV Tp preG psV okG
theorem clsI_in {n : Int} (h : 100 ≤ n ∧ n ≤ 599) : 0 < clsI n := by
  unfold clsI
  rw [show amg n 100 599 = true by unfold amg; simp; omega, cond_true, Int.tdiv_eq_ediv_of_nonneg (by omega)]; omega
theorem okPs2 {H : AHeap} {a b c d e f g h : Int} : ∀ x, x ∈ [AV.pv (.int .i64 a), .pv (.int .i64 b), .pv (.int .i64 c), .pv (.int .i64 d), .pv (.int .i64 e), .pv (.int .i64 f), .pv (.int .i64 g), .pv (.int .i64 h)] → x.one = true ∧ frzOk H 3 x := okPs
theorem okG_of {nu d ents x a b m pa re : Int} (h1 : 1 ≤ nu ∧ nu ≤ 1000) (h2 : 0 ≤ d ∧ d ≤ 30000) (h3 : 1 ≤ ents ∧ ents ≤ 10) (hx : 1 ≤ x ∧ x ≤ ents) (ha : 100 ≤ a ∧ a ≤ 599) (hb : 100 ≤ b ∧ b ≤ 599) (hab : a ≠ b) (hm : 1 ≤ m ∧ m ≤ 1000) (hpa : 0 ≤ pa ∧ pa ≤ 10) (hpe : pa ≠ x) (hre : 0 ≤ re ∧ re ≤ 3) :
    okG [.int .i64 nu, .int .i64 d, .int .i64 ents] ⟨nu, d, x, a, b, m, pa, re⟩ :=
  ⟨rfl, rfl, hx, pB_of ⟨by simp only; omega, by simp only; omega, by simp only; omega, clsI_in ha, clsI_in hb, hab, by simp only; omega, hpa, hpe, by simp only; omega⟩, hm.2, hre.2⟩
theorem Φ0_eq {g : FuncId} {args : List PV} : Φ0 g args = (False, default) := rfl
theorem dflt : (default : PV) = .bool false := rfl
theorem w_pstgS : QSound GG 29 pstgS := by
  unfold pstgS
  refine QSound.of_wpcV (C := cxQ Tryz.prog Φ0 Θ7 noΨ [] [9000] 57) 9000 Tryz.func29 rfl rfl rfl (Fit.all (G := GG) hΦ0 hΘ7 hnoΨ mixed) rfl (fun args h => ?_) (fun args h => ?_)
  · obtain ⟨nu, d, ents, rfl, h1, h2, h3⟩ := h
    refine ⟨⟨nu, d, 1, 110, 111, 1, 0, 0⟩, rfl, rfl, ⟨Int.le_refl _, h3.1⟩, pB_of ⟨?_, ?_, ?_, ?_, ?_, ?_, ?_, ?_, ?_, ?_⟩, ?_, ?_⟩ <;> simp only <;> first | omega | decide
  · obtain ⟨nu, d, ents, rfl, h1, h2, h3⟩ := h
    refine ⟨by simp [cxQ], ?_⟩
    refine wpc_sound (T := plan0) _ _ _ ?_
    by_cases hc : 1 < ents
    · have c1 : decide (1 < ents) = true := decide_eq_true hc
      simp (config := {maxSteps := 1000000}) only [c1, Θ7, Θ6, Θ5, loadC_eq, Θ4, Θ3, Θ2, Θ1, nS, preN_eq, preR_eq, preP_eq, preX_eq, preC_eq, okP_eq, okX_eq, okN, okR, okC, arg1, arg2, intV, strV, Nat.reduceBEq, plan0, List.take_succ_cons, List.take_nil, Tryz.underlying2, sz2, by2, ze2, Tryz.underlying3, sz3, by3, ze3, Tryz.underlying4, sz4, by4, ze4, Tryz.underlying6, sz6, by6, ze6, Tryz.underlying7, sz7, by7, ze7, fa7_0, fa7_1, fa7_2, fa7_3, Tryz.underlying22, sz22, by22, ze22, Tryz.underlying31, sz31, by31, ze31, Tryz.underlying63, sz63, by63, ze63, fa63_0, fa63_1, fa63_2, fa63_3, fa63_4, fa63_5, fa63_6, fa63_7, Tryz.f29, go_sem, ↓reduceIte, reduceCtorEq, Nat.reduceEqDiff, Nat.reduceLT, ↓all_qV, Int.reduceToNat, Int.reduceLT, Int.reduceLE, Nat.reduceAdd, Nat.reduceLeDiff, Nat.reduceMul, ev_callG, gcallK_b, gcallK_w, callGc_true, callGc_false]
      refine ⟨⟨by omega, by omega⟩, fun x hx => ⟨isI_map [110, 120, 210, 300, 410, 510, 520] (by decide), fun a ha => ⟨isI_map [111, 119, 220, 310, 420, 530] (by decide), fun b hb => ⟨isI_map [1, 20, 100, 1000] (by decide), fun m hm re hre q hq => ?_⟩⟩⟩⟩
      have ha : a = 110 ∨ a = 120 ∨ a = 210 ∨ a = 300 ∨ a = 410 ∨ a = 510 ∨ a = 520 := by simpa using ha
      have hb : b = 111 ∨ b = 119 ∨ b = 220 ∨ b = 310 ∨ b = 420 ∨ b = 530 := by simpa using hb
      have hm : m = 1 ∨ m = 20 ∨ m = 100 ∨ m = 1000 := by simpa using hm
      have hr1 : x.tmod ents = x % ents := Int.tmod_eq_emod_of_nonneg (by omega)
      have hr2 : 0 ≤ x % ents := Int.emod_nonneg _ (by omega)
      have hr3 : x % ents < ents := Int.emod_lt_of_pos _ (by omega)
      have hr4 : x % ents + 1 ≠ x := by
        by_cases hxe : x = ents
        · rw [hxe, Int.emod_self]; omega
        · rw [Int.emod_eq_of_lt (by omega) (by omega)]; omega
      have hw : IntKind.i64.wrap (x.tmod ents + 1) = x % ents + 1 := by rw [hr1, i64_in _ (by omega)]
      rw [hw]
      refine ⟨fun _ => ⟨by omega, fun k hk => ⟨fun _ => ⟨okPs, ⟨nu, d, x, 140, 440, m, x % ents + 1, re⟩, rfl, okG_of h1 h2 h3 hx (by omega) (by omega) (by omega) (by omega) (by omega) hr4 (by omega)⟩, fun _ => ⟨fun _ => ⟨okPs, ⟨nu, d, x, 540, 240, m, x % ents + 1, re⟩, rfl, okG_of h1 h2 h3 hx (by omega) (by omega) (by omega) (by omega) (by omega) hr4 (by omega)⟩, fun _ => ⟨fun _ => ⟨okPs, ⟨nu, d, x, 240, 110, m, x % ents + 1, re⟩, rfl, okG_of h1 h2 h3 hx (by omega) (by omega) (by omega) (by omega) (by omega) hr4 (by omega)⟩, fun _ => ⟨okPs, ⟨nu, d, x, 110, 140, m, x % ents + 1, re⟩, rfl, okG_of h1 h2 h3 hx (by omega) (by omega) (by omega) (by omega) (by omega) hr4 (by omega)⟩⟩⟩⟩⟩,
        fun _ => ⟨okPs, ⟨nu, d, x, a, b, m, 0, re⟩, rfl, okG_of h1 h2 h3 hx (by omega) (by omega) (by omega) (by omega) (by omega) (by omega) (by omega)⟩⟩
    · have c1 : decide (1 < ents) = false := decide_eq_false hc
      simp (config := {maxSteps := 1000000}) only [c1, Φ0_eq, dflt, Θ7, Θ6, Θ5, loadC_eq, Θ4, Θ3, Θ2, Θ1, nS, preN_eq, preR_eq, preP_eq, preX_eq, preC_eq, okP_eq, okX_eq, okN, okR, okC, arg1, arg2, intV, strV, Nat.reduceBEq, plan0, List.take_succ_cons, List.take_nil, Tryz.underlying2, sz2, by2, ze2, Tryz.underlying3, sz3, by3, ze3, Tryz.underlying4, sz4, by4, ze4, Tryz.underlying6, sz6, by6, ze6, Tryz.underlying7, sz7, by7, ze7, fa7_0, fa7_1, fa7_2, fa7_3, Tryz.underlying22, sz22, by22, ze22, Tryz.underlying31, sz31, by31, ze31, Tryz.underlying63, sz63, by63, ze63, fa63_0, fa63_1, fa63_2, fa63_3, fa63_4, fa63_5, fa63_6, fa63_7, Tryz.f29, go_sem, ↓reduceIte, reduceCtorEq, Nat.reduceEqDiff, Nat.reduceLT, ↓all_qV, Int.reduceToNat, Int.reduceLT, Int.reduceLE, Nat.reduceAdd, Nat.reduceLeDiff, Nat.reduceMul, ev_callG, gcallK_b, gcallK_w, callGc_true, callGc_false]
      refine ⟨⟨by omega, by omega⟩, fun x hx => ⟨isI_map [110, 120, 210, 300, 410, 510, 520] (by decide), fun a ha => ⟨isI_map [111, 119, 220, 310, 420, 530] (by decide), fun b hb => ⟨isI_map [1, 20, 100, 1000] (by decide), fun m hm re hre => ?_⟩⟩⟩⟩
      have ha : a = 110 ∨ a = 120 ∨ a = 210 ∨ a = 300 ∨ a = 410 ∨ a = 510 ∨ a = 520 := by simpa using ha
      have hb : b = 111 ∨ b = 119 ∨ b = 220 ∨ b = 310 ∨ b = 420 ∨ b = 530 := by simpa using hb
      have hm : m = 1 ∨ m = 20 ∨ m = 100 ∨ m = 1000 := by simpa using hm
      exact ⟨okPs, ⟨nu, d, x, a, b, m, 0, re⟩, rfl, okG_of h1 h2 h3 hx (by omega) (by omega) (by omega) (by omega) (by omega) (by omega) (by omega)⟩
noncomputable def Θ8 (g : FuncId) : Option QSpec := putΘ Θ7 29 (qV Tp preG psV okG) g
theorem hΘ8 : QTab GG Θ8 := hΘ7.put w_pstgS
/-! ### Ledger -/
/-- A made ledger, up to a day. -/
def ledG (ents days : Int) (l : List Pst) : Prop := lkF l = 0 ∧ ∀ x, x ∈ l → x.d ≤ days ∧ x.en ≤ ents ∧ x.am ≤ 1000 ∧ x.re ≤ 3
def preL (args : List PV) : Prop := ∃ k ents days : Int, args = [.int .i64 k, .int .i64 ents, .int .i64 days] ∧ (0 ≤ k ∧ k ≤ 100) ∧ (1 ≤ ents ∧ ents ≤ 10) ∧ (0 ≤ days ∧ days ≤ 30000)
theorem preL_eq {k ents days : Int} : preL [.int .i64 k, .int .i64 ents, .int .i64 days] = ((0 ≤ k ∧ k ≤ 100) ∧ (1 ≤ ents ∧ ents ≤ 10) ∧ (0 ≤ days ∧ days ≤ 30000)) := propext ⟨fun ⟨a, b, c, e, h⟩ => by
  simp only [List.cons.injEq, PV.int.injEq, and_true, true_and] at e
  obtain ⟨rfl, rfl, rfl⟩ := e; exact h, fun h => ⟨_, _, _, rfl, h⟩⟩
def okL (args : List PV) (l : List Pst) : Prop := (l.length : Int) ≤ arg1 args ∧ ledG (arg2 args) (arg3 args) l
noncomputable def ledS : QSpec := qV Tp preL lgV okL
theorem po_ok {l : List Pst} {p : Pst} (h : (poF l p).2 = 0) : (poF l p).1 = l ++ [p] ∧ (l.length : Int) ≠ 400 := by
  unfold poF at h ⊢
  cases h1 : (lkF l != 0) with
  | true => rw [h1] at h; simp at h1; exact absurd h h1
  | false =>
    rw [h1] at h
    cases h2 : !pB p with
    | true => rw [h2] at h; cases h
    | false =>
      rw [h2] at h
      cases h3 : ((l.length : Int) == 400) with
      | true => rw [h3] at h; cases h
      | false =>
        rw [h3] at h
        cases h4 : (p.nu != (l.length : Int) + 1) with
        | true => rw [h4] at h; cases h
        | false =>
          rw [h4] at h
          cases h5 : (decide (0 < (l.length : Int)) && decide (p.d < (l.getD (l.length - 1) default).d)) with
          | true => rw [h5] at h; cases h
          | false => exact ⟨rfl, by simpa using h3⟩
theorem po_led {ents day D : Int} {l : List Pst} {y : Pst} (hl : ledG ents day l) (hy : pstG ((l.length : Int) + 1) D ents y) (hd : day ≤ D) (h : (poF l y).2 = 0) : (poF l y).1 = l ++ [y] ∧ ledG ents D (l ++ [y]) := by
  obtain ⟨e1, e2⟩ := po_ok h
  obtain ⟨y1, y2, y3, y4, y5, y6⟩ := hy
  have hn := (lkF_ok hl.1).1
  refine ⟨e1, lk_goes (en := y.en) hl.1 (fun x hx => by have := (hl.2 x hx).1; omega) (day := D) (fun i x hx => ?_) (by simp only [List.length_singleton]; omega), fun x hx => ?_⟩
  · cases i with
    | zero =>
      simp at hx; subst hx
      exact ⟨by rw [y1]; simp, y2, rfl, y4⟩
    | succ i => simp at hx
  · rcases List.mem_append.1 hx with hx | hx
    · have := hl.2 x hx
      omega
    · rw [List.mem_singleton] at hx; subst hx
      exact ⟨by omega, y3.2, y5, y6⟩
theorem led_mono {ents day D : Int} {l : List Pst} (hl : ledG ents day l) (hd : day ≤ D) : ledG ents D l := ⟨hl.1, fun x hx => by have := hl.2 x hx; omega⟩
theorem isPs_ps {y : Pst} : isPs (psV y) := ⟨y, rfl⟩
def nilOr (v : AV) (l : List Pst) : Prop := (v = .nils ∧ l = []) ∨ v = .pv (.sl (l.map psV))
noncomputable def TL (g : FuncId) : PSpec := putΦ Φ0 28 rpoS g
theorem hTL : TabSound GG TL := hΦ0.put w_rpoS
theorem TL_post {args : List PV} : TL 28 args = rpoS args := rfl
theorem w_ledS : QSound GG 7 ledS := by
  unfold ledS
  refine QSound.of_wpcV (C := cxQ Tryz.prog TL Θ8 noΨ [] [9000] 48) 9000 Tryz.func7 rfl rfl rfl (Fit.all (G := GG) hTL hΘ8 hnoΨ mixed) rfl (fun args h => ?_) (fun args h => ?_)
  · obtain ⟨k, ents, days, rfl, h1, h2, h3⟩ := h
    exact ⟨[], by simpa [arg1] using h1.1, rfl, fun x hx => by cases hx⟩
  · obtain ⟨k, ents, days, rfl, h1, h2, h3⟩ := h
    refine ⟨by simp [cxQ], ?_⟩
    refine wpc_sound (T := plan0) _ _ _ ?_
    have hw : IntKind.i64.wrap (k + 1) = k + 1 := i64_in _ (by omega)
    simp (config := {maxSteps := 1000000}) only [hw, Θ8, Θ7, Θ6, Θ5, loadC_eq, Θ4, Θ3, Θ2, Θ1, nS, preN_eq, preR_eq, preP_eq, preX_eq, preC_eq, okP_eq, okX_eq, okN, okR, okC, arg1, arg2, intV, strV, Nat.reduceBEq, plan0, List.take_succ_cons, List.take_nil, Tryz.underlying1, sz1, by1, ze1, Tryz.underlying3, sz3, by3, ze3, Tryz.underlying4, sz4, by4, ze4, Tryz.underlying23, sz23, by23, ze23, Tryz.underlying25, sz25, by25, ze25, fa25_0, Tryz.underlying31, sz31, by31, ze31, Tryz.underlying41, sz41, by41, ze41, Tryz.underlying42, sz42, by42, ze42, Tryz.underlying63, sz63, by63, ze63, fa63_0, fa63_1, fa63_2, fa63_3, fa63_4, fa63_5, fa63_6, fa63_7, Tryz.f7, go_sem, ↓reduceIte, reduceCtorEq, Nat.reduceEqDiff, Nat.reduceLT, ↓all_qV, Int.reduceToNat, Int.reduceLT, Int.reduceLE, Nat.reduceAdd, Nat.reduceLeDiff, Nat.reduceMul, ev_callG, gcallK_b, gcallK_w, callGc_true, callGc_false]
    refine ⟨⟨by omega, by omega⟩, fun n hn => ?_⟩
    refine AWp.loop (T := plan0) (α := Int × Int × List Pst × AV) (fun z => ([(0, .ptr 9000 0), (2, .pv (.int .i64 ents)), (3, .pv (.int .i64 days)), (8, .ptr 8 0), (9, .ptr 9 0), (10, .pv (.int .i64 z.2.1)), (11, .pv (.int .i64 z.1))], [(9000, .obj Tp), (8, .cells [.nils]), (9, .cells [z.2.2.2])]))
      (fun z => 0 ≤ z.1 ∧ (z.2.2.1.length : Int) + z.1 ≤ k ∧ (0 ≤ z.2.1 ∧ z.2.1 ≤ days) ∧ ledG ents z.2.1 z.2.2.1 ∧ nilOr z.2.2.2 z.2.2.1) (fun z => z.1.toNat)
      ⟨(n, 0, [], .nils), ⟨by simpa using hn.1, by simp only [List.length_nil]; omega, ⟨Int.le_refl _, h3.1⟩, ⟨rfl, fun x hx => by cases hx⟩, .inl ⟨rfl, rfl⟩⟩, ⟨by simp [fitR, look, upd], by simp [fitH, hget, hset], rfl, rfl, rfl⟩⟩ ?_
    rintro ⟨i, day, l, v⟩ ⟨g1, g2, g3, g4, g5⟩
    simp only at g1 g2 g3 g4 g5
    have hi1 : 0 < i → IntKind.i64.wrap (i - 1) = i - 1 := fun _ => i64_in _ (by omega)
    have hl1 : IntKind.i64.wrap ((l.length : Int) + 1) = (l.length : Int) + 1 := i64_in _ (by omega)
    have hq : IntKind.i64.wrap (days.tdiv 4) = days / 4 := by rw [Int.tdiv_eq_ediv_of_nonneg (by omega), i64_in _ (by omega)]
    have hq2 : IntKind.i64.wrap (days / 4 + 2) = days / 4 + 2 := i64_in _ (by omega)
    by_cases hlt : 0 < i
    · have c0 : decide (0 < i) = true := by simp; exact hlt
      rcases g5 with ⟨rfl, rfl⟩ | rfl
      · simp (config := {maxSteps := 1000000}) only [c0, hi1 hlt, hq, hq2, Θ8, Θ7, Θ6, Θ5, loadC_eq, TL_post, rpoS, on_pp_eq, Θ4, Θ3, Θ2, Θ1, nS, preN_eq, preR_eq, preP_eq, preX_eq, preC_eq, okP_eq, okX_eq, okN, okR, okC, arg1, arg2, intV, strV, Nat.reduceBEq, plan0, List.take_succ_cons, List.take_nil, Tryz.underlying1, sz1, by1, ze1, Tryz.underlying3, sz3, by3, ze3, Tryz.underlying4, sz4, by4, ze4, Tryz.underlying23, sz23, by23, ze23, Tryz.underlying25, sz25, by25, ze25, fa25_0, Tryz.underlying31, sz31, by31, ze31, Tryz.underlying41, sz41, by41, ze41, Tryz.underlying42, sz42, by42, ze42, Tryz.underlying63, sz63, by63, ze63, fa63_0, fa63_1, fa63_2, fa63_3, fa63_4, fa63_5, fa63_6, fa63_7, go_sem, ↓reduceIte, reduceCtorEq, Nat.reduceEqDiff, Nat.reduceLT, ↓all_qVz, ↓all_qVz', Int.reduceToNat, Int.reduceLT, Int.reduceLE, Nat.reduceAdd, Nat.reduceLeDiff, Nat.reduceMul, ev_callG, gcallK_b, gcallK_w, callGc_true, callGc_false]
        refine ⟨by omega, ⟨by omega, by omega⟩, fun x hx => ?_⟩
        rw [Stop_eq]
        have hq3 : IntKind.i64.wrap (day + x) = day + x := i64_in _ (by omega)
        have q1 : IntKind.i64.wrap (0 + 1) = 1 := by decide
        simp (config := {maxSteps := 1000000}) only [q1, hq3, Θ8, Θ7, Θ6, Θ5, preG_eq, loadC_eq, TL_post, rpoS, on_pp_eq, Θ4, Θ3, Θ2, Θ1, nS, preN_eq, preR_eq, preP_eq, preX_eq, preC_eq, okP_eq, okX_eq, okN, okR, okC, arg1, arg2, intV, strV, Nat.reduceBEq, plan0, List.take_succ_cons, List.take_nil, Tryz.underlying1, sz1, by1, ze1, Tryz.underlying3, sz3, by3, ze3, Tryz.underlying4, sz4, by4, ze4, Tryz.underlying23, sz23, by23, ze23, Tryz.underlying25, sz25, by25, ze25, fa25_0, Tryz.underlying31, sz31, by31, ze31, Tryz.underlying41, sz41, by41, ze41, Tryz.underlying42, sz42, by42, ze42, Tryz.underlying63, sz63, by63, ze63, fa63_0, fa63_1, fa63_2, fa63_3, fa63_4, fa63_5, fa63_6, fa63_7, go_sem, ↓reduceIte, reduceCtorEq, Nat.reduceEqDiff, Nat.reduceLT, ↓all_qVz, ↓all_qVz', Int.reduceToNat, Int.reduceLT, Int.reduceLE, Nat.reduceAdd, Nat.reduceLeDiff, Nat.reduceMul, ev_callG, gcallK_b, gcallK_w, callGc_true, callGc_false]
        obtain ⟨D, hD⟩ : ∃ D, (if days < day + x then days else day + x) = D := ⟨_, rfl⟩
        have hD2 : day ≤ D ∧ D ≤ days := by rw [← hD]; split <;> omega
        rw [hD]
        refine ⟨by kernel_rfl, ⟨⟨by omega, by omega⟩, by omega, by omega⟩, fun y hy => ?_⟩
        rw [Stop_eq]
        have hy : pstG 1 D ents y := hy
        have hlg : lgOf (.agg [.sl []]) = [] := rfl
        obtain ⟨R, hR⟩ : ∃ R, poF [] y = R := ⟨_, rfl⟩
        simp (config := {maxSteps := 1000000}) only [hlg, hR, psOf_psV, lgV, Θ8, Θ7, Θ6, Θ5, preG_eq, loadC_eq, TL_post, rpoS, on_pp_eq, Θ4, Θ3, Θ2, Θ1, nS, preN_eq, preR_eq, preP_eq, preX_eq, preC_eq, okP_eq, okX_eq, okN, okR, okC, arg1, arg2, intV, strV, Nat.reduceBEq, plan0, List.take_succ_cons, List.take_nil, Tryz.underlying1, sz1, by1, ze1, Tryz.underlying3, sz3, by3, ze3, Tryz.underlying4, sz4, by4, ze4, Tryz.underlying23, sz23, by23, ze23, Tryz.underlying25, sz25, by25, ze25, fa25_0, Tryz.underlying31, sz31, by31, ze31, Tryz.underlying41, sz41, by41, ze41, Tryz.underlying42, sz42, by42, ze42, Tryz.underlying63, sz63, by63, ze63, fa63_0, fa63_1, fa63_2, fa63_3, fa63_4, fa63_5, fa63_6, fa63_7, go_sem, ↓reduceIte, reduceCtorEq, Nat.reduceEqDiff, Nat.reduceLT, ↓all_qV, Int.reduceToNat, Int.reduceLT, Int.reduceLE, Nat.reduceAdd, Nat.reduceLeDiff, Nat.reduceMul, ev_callG, gcallK_b, gcallK_w, callGc_true, callGc_false]
        refine ⟨⟨okN1, ⟨[], rfl, by simp⟩, isPs_ps⟩, fun h9 => ?_, fun h9 => ?_⟩
        · have h9 : (poF [] y).2 = 0 := by rw [hR]; simpa using h9
          obtain ⟨q1, q2⟩ := po_led (l := []) (D := D) ⟨rfl, fun x hx => by cases hx⟩ hy hD2.1 h9
          rw [hR] at q1
          exact ⟨(i - 1, D, [] ++ [y], .pv (.sl (([] ++ [y]).map psV))), ⟨by simp only; omega, by simp only [List.length_append, List.length_singleton, List.length_nil]; omega, by simp only; omega, q2, .inr rfl⟩, by simp only; omega, ⟨by simp [fitR, look]; exact hi1 hlt, by rw [q1]; simp [fitH, hget], rfl, rfl, rfl⟩⟩
        · exact ⟨(i - 1, D, [], .nils), ⟨by simp only; omega, by simp only [List.length_nil]; omega, by simp only; omega, led_mono ⟨rfl, fun x hx => by cases hx⟩ hD2.1, .inl ⟨rfl, rfl⟩⟩, by simp only; omega, ⟨by simp [fitR, look]; exact hi1 hlt, by simp [fitH, hget], rfl, rfl, rfl⟩⟩
      · simp (config := {maxSteps := 1000000}) only [c0, hi1 hlt, hq, hq2, Θ8, Θ7, Θ6, Θ5, loadC_eq, TL_post, rpoS, on_pp_eq, Θ4, Θ3, Θ2, Θ1, nS, preN_eq, preR_eq, preP_eq, preX_eq, preC_eq, okP_eq, okX_eq, okN, okR, okC, arg1, arg2, intV, strV, Nat.reduceBEq, plan0, List.take_succ_cons, List.take_nil, Tryz.underlying1, sz1, by1, ze1, Tryz.underlying3, sz3, by3, ze3, Tryz.underlying4, sz4, by4, ze4, Tryz.underlying23, sz23, by23, ze23, Tryz.underlying25, sz25, by25, ze25, fa25_0, Tryz.underlying31, sz31, by31, ze31, Tryz.underlying41, sz41, by41, ze41, Tryz.underlying42, sz42, by42, ze42, Tryz.underlying63, sz63, by63, ze63, fa63_0, fa63_1, fa63_2, fa63_3, fa63_4, fa63_5, fa63_6, fa63_7, go_sem, ↓reduceIte, reduceCtorEq, Nat.reduceEqDiff, Nat.reduceLT, ↓all_qVz, ↓all_qVz', Int.reduceToNat, Int.reduceLT, Int.reduceLE, Nat.reduceAdd, Nat.reduceLeDiff, Nat.reduceMul, ev_callG, gcallK_b, gcallK_w, callGc_true, callGc_false]
        refine ⟨by omega, ⟨by omega, by omega⟩, fun x hx => ?_⟩
        rw [Stop_eq]
        have hq3 : IntKind.i64.wrap (day + x) = day + x := i64_in _ (by omega)
        simp (config := {maxSteps := 1000000}) only [hl1, hq3, List.length_map, Θ8, Θ7, Θ6, Θ5, preG_eq, loadC_eq, TL_post, rpoS, on_pp_eq, Θ4, Θ3, Θ2, Θ1, nS, preN_eq, preR_eq, preP_eq, preX_eq, preC_eq, okP_eq, okX_eq, okN, okR, okC, arg1, arg2, intV, strV, Nat.reduceBEq, plan0, List.take_succ_cons, List.take_nil, Tryz.underlying1, sz1, by1, ze1, Tryz.underlying3, sz3, by3, ze3, Tryz.underlying4, sz4, by4, ze4, Tryz.underlying23, sz23, by23, ze23, Tryz.underlying25, sz25, by25, ze25, fa25_0, Tryz.underlying31, sz31, by31, ze31, Tryz.underlying41, sz41, by41, ze41, Tryz.underlying42, sz42, by42, ze42, Tryz.underlying63, sz63, by63, ze63, fa63_0, fa63_1, fa63_2, fa63_3, fa63_4, fa63_5, fa63_6, fa63_7, go_sem, ↓reduceIte, reduceCtorEq, Nat.reduceEqDiff, Nat.reduceLT, ↓all_qVz, ↓all_qVz', Int.reduceToNat, Int.reduceLT, Int.reduceLE, Nat.reduceAdd, Nat.reduceLeDiff, Nat.reduceMul, ev_callG, gcallK_b, gcallK_w, callGc_true, callGc_false]
        obtain ⟨D, hD⟩ : ∃ D, (if days < day + x then days else day + x) = D := ⟨_, rfl⟩
        have hD2 : day ≤ D ∧ D ≤ days := by rw [← hD]; split <;> omega
        rw [hD]
        refine ⟨by kernel_rfl, ⟨⟨by omega, by omega⟩, by omega, by omega⟩, fun y hy => ?_⟩
        rw [Stop_eq]
        have hy : pstG ((l.length : Int) + 1) D ents y := hy
        obtain ⟨R, hR⟩ : ∃ R, poF l y = R := ⟨_, rfl⟩
        simp (config := {maxSteps := 1000000}) only [hR, lgOf_agg, psOf_psV, lgV, Θ8, Θ7, Θ6, Θ5, preG_eq, loadC_eq, TL_post, rpoS, on_pp_eq, Θ4, Θ3, Θ2, Θ1, nS, preN_eq, preR_eq, preP_eq, preX_eq, preC_eq, okP_eq, okX_eq, okN, okR, okC, arg1, arg2, intV, strV, Nat.reduceBEq, plan0, List.take_succ_cons, List.take_nil, Tryz.underlying1, sz1, by1, ze1, Tryz.underlying3, sz3, by3, ze3, Tryz.underlying4, sz4, by4, ze4, Tryz.underlying23, sz23, by23, ze23, Tryz.underlying25, sz25, by25, ze25, fa25_0, Tryz.underlying31, sz31, by31, ze31, Tryz.underlying41, sz41, by41, ze41, Tryz.underlying42, sz42, by42, ze42, Tryz.underlying63, sz63, by63, ze63, fa63_0, fa63_1, fa63_2, fa63_3, fa63_4, fa63_5, fa63_6, fa63_7, go_sem, ↓reduceIte, reduceCtorEq, Nat.reduceEqDiff, Nat.reduceLT, ↓all_qV, Int.reduceToNat, Int.reduceLT, Int.reduceLE, Nat.reduceAdd, Nat.reduceLeDiff, Nat.reduceMul, ev_callG, gcallK_b, gcallK_w, callGc_true, callGc_false]
        refine ⟨⟨okL1, ⟨l, rfl, by omega⟩, isPs_ps⟩, fun h9 => ?_, fun h9 => ?_⟩
        · have h9 : (poF l y).2 = 0 := by rw [hR]; simpa using h9
          obtain ⟨q1, q2⟩ := po_led (l := l) (D := D) g4 hy hD2.1 h9
          rw [hR] at q1
          exact ⟨(i - 1, D, l ++ [y], .pv (.sl ((l ++ [y]).map psV))), ⟨by simp only; omega, by simp only [List.length_append, List.length_singleton]; omega, by simp only; omega, q2, .inr rfl⟩, by simp only; omega, ⟨by simp [fitR, look]; exact hi1 hlt, by rw [q1]; simp [fitH, hget], rfl, rfl, rfl⟩⟩
        · exact ⟨(i - 1, D, l, .pv (.sl (l.map psV))), ⟨by simp only; omega, by simp only; omega, by simp only; omega, led_mono g4 hD2.1, .inr rfl⟩, by simp only; omega, ⟨by simp [fitR, look]; exact hi1 hlt, by simp [fitH, hget], rfl, rfl, rfl⟩⟩
    · have c0 : decide (0 < i) = false := by simp; omega
      have hres : ∃ x, PV.agg [.sl (l.map psV)] = lgV x ∧ okL [.int .i64 k, .int .i64 ents, .int .i64 days] x := ⟨l, rfl, by simp only [arg1]; omega, led_mono g4 g3.2⟩
      rcases g5 with ⟨rfl, rfl⟩ | rfl
      · simp (config := {maxSteps := 1000000}) only [c0, Θ8, Θ7, Θ6, Θ5, loadC_eq, Θ4, Θ3, Θ2, Θ1, nS, preN_eq, preR_eq, preP_eq, preX_eq, preC_eq, okP_eq, okX_eq, okN, okR, okC, arg1, arg2, intV, strV, Nat.reduceBEq, plan0, List.take_succ_cons, List.take_nil, Tryz.underlying1, sz1, by1, ze1, Tryz.underlying3, sz3, by3, ze3, Tryz.underlying4, sz4, by4, ze4, Tryz.underlying23, sz23, by23, ze23, Tryz.underlying25, sz25, by25, ze25, fa25_0, Tryz.underlying31, sz31, by31, ze31, Tryz.underlying41, sz41, by41, ze41, Tryz.underlying42, sz42, by42, ze42, Tryz.underlying63, sz63, by63, ze63, fa63_0, fa63_1, fa63_2, fa63_3, fa63_4, fa63_5, fa63_6, fa63_7, go_sem, ↓reduceIte, reduceCtorEq, Nat.reduceEqDiff, Nat.reduceLT, ↓all_qV, Int.reduceToNat, Int.reduceLT, Int.reduceLE, Nat.reduceAdd, Nat.reduceLeDiff, Nat.reduceMul, ev_callG, gcallK_b, gcallK_w, callGc_true, callGc_false]
        exact ⟨okN1, hres⟩
      · simp (config := {maxSteps := 1000000}) only [c0, Θ8, Θ7, Θ6, Θ5, loadC_eq, Θ4, Θ3, Θ2, Θ1, nS, preN_eq, preR_eq, preP_eq, preX_eq, preC_eq, okP_eq, okX_eq, okN, okR, okC, arg1, arg2, intV, strV, Nat.reduceBEq, plan0, List.take_succ_cons, List.take_nil, Tryz.underlying1, sz1, by1, ze1, Tryz.underlying3, sz3, by3, ze3, Tryz.underlying4, sz4, by4, ze4, Tryz.underlying23, sz23, by23, ze23, Tryz.underlying25, sz25, by25, ze25, fa25_0, Tryz.underlying31, sz31, by31, ze31, Tryz.underlying41, sz41, by41, ze41, Tryz.underlying42, sz42, by42, ze42, Tryz.underlying63, sz63, by63, ze63, fa63_0, fa63_1, fa63_2, fa63_3, fa63_4, fa63_5, fa63_6, fa63_7, go_sem, ↓reduceIte, reduceCtorEq, Nat.reduceEqDiff, Nat.reduceLT, ↓all_qV, Int.reduceToNat, Int.reduceLT, Int.reduceLE, Nat.reduceAdd, Nat.reduceLeDiff, Nat.reduceMul, ev_callG, gcallK_b, gcallK_w, callGc_true, callGc_false]
        exact ⟨okL1, hres⟩
noncomputable def Θ9 (g : FuncId) : Option QSpec := putΘ Θ8 7 (qV Tp preL lgV okL) g
theorem hΘ9 : QTab GG Θ9 := hΘ8.put w_ledS
end Go.AM
