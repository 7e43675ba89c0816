/-
  A part of a proof: see the last text of this claim for what is proved.
-/
import Derived.Test.YthfmoamiaofamaaGreatDoorU0a
import Derived.Test.YthfmoamiaofamaaGreatDoorZMa
/-! ledger: postings, Check, Last; the reference's -/
namespace Go.AM
open Go Go.Proofs Go.IntWalk
set_option maxRecDepth 100000
set_option maxHeartbeats 1000000
set_option linter.unusedSimpArgs false
set_option linter.unusedVariables false
theorem intBeq (a b : Int) : (a == b) = decide (a = b) := by by_cases h : a = b <;> simp [h]
/-- A posting. -/
structure Pst where
  nu : Int
  d : Int
  en : Int
  db : Int
  cr : Int
  am : Int
  pa : Int
  re : Int
  deriving DecidableEq, Inhabited
def psV (x : Pst) : PV := .agg [.int .i64 x.nu, .int .i64 x.d, .int .i64 x.en, .int .i64 x.db, .int .i64 x.cr, .int .i64 x.am, .int .i64 x.pa, .int .i64 x.re]
def psOf : PV → Pst
  | .agg [.int _ a, .int _ b, .int _ c, .int _ d, .int _ e, .int _ f, .int _ g, .int _ h] => ⟨a, b, c, d, e, f, g, h⟩
  | _ => default
theorem psOf_psV (x : Pst) : psOf (psV x) = x := rfl
theorem psOf_agg {a b c d e f g h : Int} : psOf (.agg [.int .i64 a, .int .i64 b, .int .i64 c, .int .i64 d, .int .i64 e, .int .i64 f, .int .i64 g, .int .i64 h]) = ⟨a, b, c, d, e, f, g, h⟩ := rfl
theorem map_psOf (l : List Pst) : (l.map psV).map psOf = l := by simp [List.map_map, Function.comp_def, psOf_psV]
theorem getD_ps {l : List Pst} {i : Nat} (h : i < l.length) : (l.map psV).getD i default = psV (l.getD i default) := by
  simp [List.getD_eq_getElem?_getD, h]
def isPs (e : PV) : Prop := ∃ x : Pst, e = psV x
theorem isPs_agg {a b c d e f g h : Int} : isPs (.agg [.int .i64 a, .int .i64 b, .int .i64 c, .int .i64 d, .int .i64 e, .int .i64 f, .int .i64 g, .int .i64 h]) := ⟨⟨a, b, c, d, e, f, g, h⟩, rfl⟩
theorem isPs_map {l : List Pst} : ∀ e, e ∈ l.map psV → isPs e := by
  intro e he; obtain ⟨x, _, rfl⟩ := List.mem_map.1 he; exact ⟨x, rfl⟩
theorem okPs {H : AHeap} {a b c d e f g h : Int} : ∀ x, x ∈ [AV.pv (.int .i64 a), .pv (.int .i64 b), .pv (.int .i64 c), .pv (.int .i64 d), .pv (.int .i64 e), .pv (.int .i64 f), .pv (.int .i64 g), .pv (.int .i64 h)] → x.one = true ∧ frzOk H 3 x := by
  intro x hx
  simp only [List.mem_cons, List.not_mem_nil, or_false] at hx
  rcases hx with rfl | rfl | rfl | rfl | rfl | rfl | rfl | rfl <;> exact ⟨rfl, trivial⟩
theorem drop_cons' {α : Type} [Inhabited α] {l : List α} {i : Nat} (h : i < l.length) : l.drop i = l.getD i default :: l.drop (i + 1) := by
  rw [List.drop_eq_getElem_cons h]; simp [List.getD_eq_getElem?_getD, h]
theorem take_succ' {α : Type} [Inhabited α] {l : List α} {i : Nat} (h : i < l.length) : l.take (i + 1) = l.take i ++ [l.getD i default] := by
  rw [List.take_add_one, List.getD_eq_getElem?_getD, List.getElem?_eq_getElem h]; rfl
theorem mem_getD' {α : Type} [Inhabited α] {l : List α} {i : Nat} (h : i < l.length) : l.getD i default ∈ l := by
  rw [List.getD_eq_getElem?_getD, List.getElem?_eq_getElem h]; exact List.getElem_mem _
noncomputable def lamS : PSpec := on_iii (fun _ _ _ => True) (fun a b c => .bool (amg a b c))
theorem w_lamS : PSound GG 72 lamS := by
  refine PSound.of_wpc (C := cxP Tryz.prog Z3 [] 15) (T := plan0) Tryz.func72 rfl rfl rfl (Fit.pure (G := GG) hZ3 mixed) (fun args h => ?_)
  unfold lamS at h
  obtain ⟨a, b, c, rfl, hp⟩ := on_iii_inv h
  refine ⟨by simp [cxP], ?_⟩
  simp only [lamS, on_iii_eq, Tryz.f72, argL, plan0]
  simp only [go_sem, ↓reduceIte, reduceCtorEq, Nat.reduceEqDiff, Nat.reduceLT, ↓all_qV, Int.reduceToNat, Int.reduceLT, Int.reduceLE, Nat.reduceAdd, Nat.reduceLeDiff, Nat.reduceMul]
  rfl
noncomputable def A0 (g : FuncId) : PSpec := (putΦ Z3 72 lamS) g
theorem hA0 : TabSound GG A0 := (hZ3.put w_lamS)
noncomputable def lentS : PSpec := on_i (fun _ => True) (fun n => .bool (amg n 1 10))
theorem k_lentS_72 {args : List PV} : A0 72 args = lamS args := rfl
theorem w_lentS : PSound GG 81 lentS := by
  refine PSound.of_wpc (C := cxP Tryz.prog A0 [] 5) (T := plan0) Tryz.func81 rfl rfl rfl (Fit.pure (G := GG) hA0 mixed) (fun args h => ?_)
  unfold lentS at h
  obtain ⟨n, rfl, hp⟩ := on_i_inv h
  refine ⟨by simp [cxP], ?_⟩
  simp only [lentS, on_i_eq, Tryz.f81, argL, plan0]
  simp only [k_lentS_72, lamS, on_iii_eq, Tryz.underlying3, sz3, by3, ze3, Tryz.underlying4, sz4, by4, ze4, go_sem, ↓reduceIte, reduceCtorEq, Nat.reduceEqDiff, Nat.reduceLT, ↓all_qV, Int.reduceToNat, Int.reduceLT, Int.reduceLE, Nat.reduceAdd, Nat.reduceLeDiff, Nat.reduceMul]
def clsI (n : Int) : Int := bif amg n 100 599 then n.tdiv 100 else 0
theorem cls_wrap {n : Int} (h : amg n 100 599 = true) : IntKind.i64.wrap (n.tdiv 100) = n.tdiv 100 := by
  have h : 100 ≤ n ∧ n ≤ 599 := by simpa [amg] using h
  rw [Int.tdiv_eq_ediv_of_nonneg (by omega)]
  exact i64_in _ (by omega)
noncomputable def lclsS : PSpec := on_i (fun _ => True) (fun n => .int .i64 (clsI n))
theorem k_lclsS_72 {args : List PV} : A0 72 args = lamS args := rfl
theorem w_lclsS : PSound GG 82 lclsS := by
  refine PSound.of_wpc (C := cxP Tryz.prog A0 [] 8) (T := plan0) Tryz.func82 rfl rfl rfl (Fit.pure (G := GG) hA0 mixed) (fun args h => ?_)
  unfold lclsS at h
  obtain ⟨n, rfl, hp⟩ := on_i_inv h
  refine ⟨by simp [cxP], ?_⟩
  simp only [lclsS, on_i_eq, Tryz.f82, argL, plan0]
  simp only [k_lclsS_72, lamS, on_iii_eq, Tryz.underlying3, sz3, by3, ze3, Tryz.underlying4, sz4, by4, ze4, go_sem, ↓reduceIte, reduceCtorEq, Nat.reduceEqDiff, Nat.reduceLT, ↓all_qV, Int.reduceToNat, Int.reduceLT, Int.reduceLE, Nat.reduceAdd, Nat.reduceLeDiff, Nat.reduceMul]
  refine ⟨fun h1 => ?_, fun h1 => ⟨by decide, ?_⟩⟩
  · have h1 : amg n 100 599 = false := by simpa using h1
    unfold clsI; rw [h1]; rfl
  · have h1 : amg n 100 599 = true := by simpa using h1
    unfold clsI; rw [h1, cls_wrap h1]; rfl
noncomputable def A1 (g : FuncId) : PSpec := (putΦ (putΦ A0 81 lentS) 82 lclsS) g
theorem hA1 : TabSound GG A1 := ((hA0.put w_lentS).put w_lclsS)
def pB (x : Pst) : Bool := amg x.nu 1 1000000 && amg x.d 0 36000 && amg x.en 1 10 && decide (0 < clsI x.db) && decide (0 < clsI x.cr) && (x.db != x.cr) && amg x.am 1 1000000000000 && amg x.pa 0 10 && (x.pa != x.en) && amg x.re 0 1000000
noncomputable def lpstS : PSpec := on_p isPs (fun e => .bool (pB (psOf e)))
theorem k_lpstS_72 {args : List PV} : A1 72 args = lamS args := rfl
theorem k_lpstS_81 {args : List PV} : A1 81 args = lentS args := rfl
theorem k_lpstS_82 {args : List PV} : A1 82 args = lclsS args := rfl
theorem w_lpstS : PSound GG 66 lpstS := by
  refine PSound.of_wpc (C := cxP Tryz.prog A1 [] 57) (T := plan0) Tryz.func66 rfl rfl rfl (Fit.pure (G := GG) hA1 mixed) (fun args h => ?_)
  unfold lpstS at h
  obtain ⟨e, rfl, hp⟩ := on_p_inv h
  refine ⟨by simp [cxP], ?_⟩
  simp only [lpstS, on_p_eq, Tryz.f66, argL, plan0]
  obtain ⟨⟨nu, d, en, db, cr, am, pa, re⟩, rfl⟩ := hp
  simp only [psV, psOf_agg, pB, k_lpstS_72, lamS, on_iii_eq, k_lpstS_81, lentS, on_i_eq, k_lpstS_82, lclsS, Tryz.underlying1, sz1, by1, ze1, Tryz.underlying2, sz2, by2, ze2, Tryz.underlying3, sz3, by3, ze3, Tryz.underlying4, sz4, by4, ze4, Tryz.underlying5, sz5, by5, ze5, Tryz.underlying6, sz6, by6, ze6, Tryz.underlying7, sz7, by7, ze7, fa7_0, fa7_1, fa7_2, fa7_3, Tryz.underlying63, sz63, by63, ze63, fa63_0, fa63_1, fa63_2, fa63_3, fa63_4, fa63_5, fa63_6, fa63_7, go_sem, ↓reduceIte, reduceCtorEq, Nat.reduceEqDiff, Nat.reduceLT, ↓all_qV, Int.reduceToNat, Int.reduceLT, Int.reduceLE, Nat.reduceAdd, Nat.reduceLeDiff, Nat.reduceMul]
  rfl
noncomputable def A2 (g : FuncId) : PSpec := (putΦ A1 66 lpstS) g
theorem hA2 : TabSound GG A2 := (hA1.put w_lpstS)
noncomputable def lchk1S : PSpec := on_p isPs (fun e => .bool (!pB (psOf e)))
theorem k_lchk1S_66 {args : List PV} : A2 66 args = lpstS args := rfl
theorem w_lchk1S : PSound GG 65 lchk1S := by
  refine PSound.of_wpc (C := cxP Tryz.prog A2 [] 6) (T := plan0) Tryz.func65 rfl rfl rfl (Fit.pure (G := GG) hA2 mixed) (fun args h => ?_)
  unfold lchk1S at h
  obtain ⟨e, rfl, hp⟩ := on_p_inv h
  refine ⟨by simp [cxP], ?_⟩
  simp only [lchk1S, on_p_eq, Tryz.f65, argL, plan0]
  obtain ⟨⟨nu, d, en, db, cr, am, pa, re⟩, rfl⟩ := hp
  simp only [psV, psOf_agg, k_lchk1S_66, lpstS, on_p_eq, List.take_succ_cons, List.take_nil, Tryz.underlying3, sz3, by3, ze3, Tryz.underlying4, sz4, by4, ze4, Tryz.underlying63, sz63, by63, ze63, fa63_0, fa63_1, fa63_2, fa63_3, fa63_4, fa63_5, fa63_6, fa63_7, go_sem, ↓reduceIte, reduceCtorEq, Nat.reduceEqDiff, Nat.reduceLT, ↓all_qV, Int.reduceToNat, Int.reduceLT, Int.reduceLE, Nat.reduceAdd, Nat.reduceLeDiff, Nat.reduceMul]
  and_intros <;> first | exact okPs | exact isPs_agg
noncomputable def adj1S : PSpec := on_p isPs (fun e => .bool (!vldM (psOf e).am))
theorem k_adj1S_32 {args : List PV} : A2 32 args = amtS args := rfl
theorem w_adj1S : PSound GG 46 adj1S := by
  refine PSound.of_wpc (C := cxP Tryz.prog A2 [] 8) (T := plan0) Tryz.func46 rfl rfl rfl (Fit.pure (G := GG) hA2 mixed) (fun args h => ?_)
  unfold adj1S at h
  obtain ⟨e, rfl, hp⟩ := on_p_inv h
  refine ⟨by simp [cxP], ?_⟩
  simp only [adj1S, on_p_eq, Tryz.f46, argL, plan0]
  obtain ⟨⟨nu, d, en, db, cr, am, pa, re⟩, rfl⟩ := hp
  have ha : ([.int .i64 am] : List PV).any (fun x => !vldM (nOfI x)) = !vldM am := by simp [nOfI]
  have ha2 : (([.int .i64 am] : List PV).map nOfI).any (fun x => !vldM x) = !vldM am := by simp [nOfI]
  simp only [psV, psOf_agg, ha2, k_adj1S_32, amtS, on_l_eq, List.take_succ_cons, List.take_nil, Tryz.underlying1, sz1, by1, ze1, Tryz.underlying3, sz3, by3, ze3, Tryz.underlying4, sz4, by4, ze4, Tryz.underlying5, sz5, by5, ze5, Tryz.underlying22, sz22, by22, ze22, Tryz.underlying63, sz63, by63, ze63, fa63_0, fa63_1, fa63_2, fa63_3, fa63_4, fa63_5, fa63_6, fa63_7, go_sem, ↓reduceIte, reduceCtorEq, Nat.reduceEqDiff, Nat.reduceLT, ↓all_qV, Int.reduceToNat, Int.reduceLT, Int.reduceLE, Nat.reduceAdd, Nat.reduceLeDiff, Nat.reduceMul]
  and_intros
  all_goals try first | exact okPs | exact ⟨[am], rfl⟩ | (simp; done) | (simp [nOfI]; done)
noncomputable def A3 (g : FuncId) : PSpec := (putΦ (putΦ A2 65 lchk1S) 46 adj1S) g
theorem hA3 : TabSound GG A3 := ((hA2.put w_lchk1S).put w_adj1S)
/-! ### ContainsFunc -/
def ixG (q : Pst → Bool) : Nat → List Pst → Int
  | _, [] => -1
  | i, x :: r => bif q x then (i : Int) else ixG q (i + 1) r
theorem ixG_any (q : Pst → Bool) : ∀ (i : Nat) (l : List Pst), decide (0 ≤ ixG q i l) = l.any q
  | _, [] => rfl
  | i, x :: r => by
    unfold ixG
    rw [List.any_cons]
    cases h : q x with
    | false => simpa [h] using ixG_any q (i + 1) r
    | true => simp
def qF : PV → Pst → Bool
  | .fn g _ => fun x => if g == 65 then !pB x else !vldM x.am
  | _ => fun _ => false
theorem qF1 : qF (.fn 65 []) = fun x => !pB x := rfl
theorem qF2 : qF (.fn 46 []) = fun x => !vldM x.am := rfl
noncomputable def ixS : PSpec := on_lp (fun es f => (f = .fn 65 [] ∨ f = .fn 46 []) ∧ (∃ l : List Pst, es = l.map psV) ∧ es.length ≤ 1000000) (fun es f => .int .i64 (ixG (qF f) 0 (es.map psOf)))
theorem k_adj1 {args : List PV} : A3 46 args = adj1S args := rfl
theorem k_lchk1 {args : List PV} : A3 65 args = lchk1S args := rfl
theorem w_ixS : PSound GG 68 ixS := by
  refine PSound.of_wpc (C := cxP Tryz.prog A3 [] 19) (T := plan0) Tryz.func68 rfl rfl rfl (Fit.pure (G := GG) hA3 mixed) (fun args h => ?_)
  unfold ixS at h
  obtain ⟨es, f, rfl, hp⟩ := on_lp_inv h
  refine ⟨by simp [cxP], ?_⟩
  simp only [ixS, on_lp_eq, Tryz.f68, argL, plan0]
  obtain ⟨hf, ⟨l, rfl⟩, hl⟩ := hp
  rcases hf with rfl | rfl
  · simp only [List.length_map] at hl
    simp only [map_psOf, qF1, List.length_map, Tryz.underlying3, sz3, by3, ze3, Tryz.underlying4, sz4, by4, ze4, Tryz.underlying23, sz23, by23, ze23, Tryz.underlying63, sz63, by63, ze63, fa63_0, fa63_1, fa63_2, fa63_3, fa63_4, fa63_5, fa63_6, fa63_7, Tryz.underlying82, sz82, by82, ze82, go_sem, ↓reduceIte, reduceCtorEq, Nat.reduceEqDiff, Nat.reduceLT, ↓all_qV, Int.reduceToNat, Int.reduceLT, Int.reduceLE, Nat.reduceAdd, Nat.reduceLeDiff, Nat.reduceMul]
    refine AWp.loop (T := plan0) (α := Nat) (fun i => ([(0, .pv (.sl (l.map psV))), (1, .pv (.fn 65 [])), (7, .pv (.int .i64 l.length)), (8, .pv (.int .i64 i))], [])) (fun i => i ≤ l.length ∧ ixG (fun x => !pB x) 0 l = ixG (fun x => !pB x) i (l.drop i)) (fun i => l.length - i)
      ⟨0, ⟨Nat.zero_le _, rfl⟩, ⟨by simp [fitR, look], trivial, rfl, rfl, rfl⟩⟩ ?_
    rintro i ⟨h1, h2⟩
    have hi1 : IntKind.i64.wrap ((i : Int) + 1) = ((i + 1 : Nat) : Int) := by rw [i64_in _ (by omega)]; omega
    by_cases hlt : i < l.length
    · have c0 : decide ((i : Int) < (l.length : Int)) = true := by simp; omega
      have e1 := getD_ps hlt
      rw [drop_cons' hlt, ixG] at h2
      generalize l.getD i default = x at e1 h2
      obtain ⟨nu, d, en, db, cr, am, pa, re⟩ := x
      simp only [psV] at e1
      simp only [c0, e1, hi1, k_lchk1, lchk1S, on_p_eq, psOf_agg, ev_callT, callTK, List.length_map, List.take_succ_cons, List.take_nil, Tryz.underlying3, sz3, by3, ze3, Tryz.underlying4, sz4, by4, ze4, Tryz.underlying23, sz23, by23, ze23, Tryz.underlying63, sz63, by63, ze63, fa63_0, fa63_1, fa63_2, fa63_3, fa63_4, fa63_5, fa63_6, fa63_7, Tryz.underlying82, sz82, by82, ze82, plan0, go_sem, ↓reduceIte, reduceCtorEq, Nat.reduceEqDiff, Nat.reduceLT, ↓all_qV, Int.reduceToNat, Int.reduceLT, Int.reduceLE, Nat.reduceAdd, Nat.reduceLeDiff, Nat.reduceMul]
      and_intros
      all_goals try first | (show checkD _ _ _ = true; kernel_rfl) | omega | (intros; omega) | rfl | trivial | assumption | exact isPs_agg | exact okPs
      · intro h9
        have h9 : pB ⟨nu, d, en, db, cr, am, pa, re⟩ = false := by simpa using h9
        rw [h2, h9]; rfl
      · intro h9
        have h9 : pB ⟨nu, d, en, db, cr, am, pa, re⟩ = true := by simpa using h9
        refine ⟨i + 1, ⟨by omega, by rw [h2, h9]; rfl⟩, by omega, ⟨by simp [fitR, look], trivial, rfl, rfl, rfl⟩⟩
    · have c0 : decide ((i : Int) < (l.length : Int)) = false := by simp; omega
      rw [List.drop_eq_nil_of_le (by omega)] at h2
      simp only [c0, List.length_map, Tryz.underlying3, sz3, by3, ze3, Tryz.underlying4, sz4, by4, ze4, Tryz.underlying23, sz23, by23, ze23, Tryz.underlying63, sz63, by63, ze63, fa63_0, fa63_1, fa63_2, fa63_3, fa63_4, fa63_5, fa63_6, fa63_7, Tryz.underlying82, sz82, by82, ze82, plan0, go_sem, ↓reduceIte, reduceCtorEq, Nat.reduceEqDiff, Nat.reduceLT, ↓all_qV, Int.reduceToNat, Int.reduceLT, Int.reduceLE, Nat.reduceAdd, Nat.reduceLeDiff, Nat.reduceMul]
      rw [h2]; rfl
  · simp only [List.length_map] at hl
    simp only [map_psOf, qF2, List.length_map, Tryz.underlying3, sz3, by3, ze3, Tryz.underlying4, sz4, by4, ze4, Tryz.underlying23, sz23, by23, ze23, Tryz.underlying63, sz63, by63, ze63, fa63_0, fa63_1, fa63_2, fa63_3, fa63_4, fa63_5, fa63_6, fa63_7, Tryz.underlying82, sz82, by82, ze82, go_sem, ↓reduceIte, reduceCtorEq, Nat.reduceEqDiff, Nat.reduceLT, ↓all_qV, Int.reduceToNat, Int.reduceLT, Int.reduceLE, Nat.reduceAdd, Nat.reduceLeDiff, Nat.reduceMul]
    refine AWp.loop (T := plan0) (α := Nat) (fun i => ([(0, .pv (.sl (l.map psV))), (1, .pv (.fn 46 [])), (7, .pv (.int .i64 l.length)), (8, .pv (.int .i64 i))], [])) (fun i => i ≤ l.length ∧ ixG (fun x => !vldM x.am) 0 l = ixG (fun x => !vldM x.am) i (l.drop i)) (fun i => l.length - i)
      ⟨0, ⟨Nat.zero_le _, rfl⟩, ⟨by simp [fitR, look], trivial, rfl, rfl, rfl⟩⟩ ?_
    rintro i ⟨h1, h2⟩
    have hi1 : IntKind.i64.wrap ((i : Int) + 1) = ((i + 1 : Nat) : Int) := by rw [i64_in _ (by omega)]; omega
    by_cases hlt : i < l.length
    · have c0 : decide ((i : Int) < (l.length : Int)) = true := by simp; omega
      have e1 := getD_ps hlt
      rw [drop_cons' hlt, ixG] at h2
      generalize l.getD i default = x at e1 h2
      obtain ⟨nu, d, en, db, cr, am, pa, re⟩ := x
      simp only [psV] at e1
      simp only [c0, e1, hi1, k_adj1, adj1S, on_p_eq, psOf_agg, ev_callT, callTK, List.length_map, List.take_succ_cons, List.take_nil, Tryz.underlying3, sz3, by3, ze3, Tryz.underlying4, sz4, by4, ze4, Tryz.underlying23, sz23, by23, ze23, Tryz.underlying63, sz63, by63, ze63, fa63_0, fa63_1, fa63_2, fa63_3, fa63_4, fa63_5, fa63_6, fa63_7, Tryz.underlying82, sz82, by82, ze82, plan0, go_sem, ↓reduceIte, reduceCtorEq, Nat.reduceEqDiff, Nat.reduceLT, ↓all_qV, Int.reduceToNat, Int.reduceLT, Int.reduceLE, Nat.reduceAdd, Nat.reduceLeDiff, Nat.reduceMul]
      and_intros
      all_goals try first | (show checkD _ _ _ = true; kernel_rfl) | omega | (intros; omega) | rfl | trivial | assumption | exact isPs_agg | exact okPs
      · intro h9
        have h9 : vldM am = false := by simpa using h9
        rw [h2, h9]; rfl
      · intro h9
        have h9 : vldM am = true := by simpa using h9
        refine ⟨i + 1, ⟨by omega, by rw [h2, h9]; rfl⟩, by omega, ⟨by simp [fitR, look], trivial, rfl, rfl, rfl⟩⟩
    · have c0 : decide ((i : Int) < (l.length : Int)) = false := by simp; omega
      rw [List.drop_eq_nil_of_le (by omega)] at h2
      simp only [c0, List.length_map, Tryz.underlying3, sz3, by3, ze3, Tryz.underlying4, sz4, by4, ze4, Tryz.underlying23, sz23, by23, ze23, Tryz.underlying63, sz63, by63, ze63, fa63_0, fa63_1, fa63_2, fa63_3, fa63_4, fa63_5, fa63_6, fa63_7, Tryz.underlying82, sz82, by82, ze82, plan0, go_sem, ↓reduceIte, reduceCtorEq, Nat.reduceEqDiff, Nat.reduceLT, ↓all_qV, Int.reduceToNat, Int.reduceLT, Int.reduceLE, Nat.reduceAdd, Nat.reduceLeDiff, Nat.reduceMul]
      rw [h2]; rfl
noncomputable def A4 (g : FuncId) : PSpec := (putΦ A3 68 ixS) g
theorem hA4 : TabSound GG A4 := (hA3.put w_ixS)
noncomputable def ctS : PSpec := on_lp (fun es f => (f = .fn 65 [] ∨ f = .fn 46 []) ∧ (∃ l : List Pst, es = l.map psV) ∧ es.length ≤ 1000000) (fun es f => .bool ((es.map psOf).any (qF f)))
theorem k_ctS_68 {args : List PV} : A4 68 args = ixS args := rfl
theorem w_ctS : PSound GG 45 ctS := by
  refine PSound.of_wpc (C := cxP Tryz.prog A4 [] 9) (T := plan0) Tryz.func45 rfl rfl rfl (Fit.pure (G := GG) hA4 mixed) (fun args h => ?_)
  unfold ctS at h
  obtain ⟨es, f, rfl, hp⟩ := on_lp_inv h
  refine ⟨by simp [cxP], ?_⟩
  simp only [ctS, on_lp_eq, Tryz.f45, argL, plan0]
  obtain ⟨hf, ⟨l, rfl⟩, hl⟩ := hp
  simp only [map_psOf, k_ctS_68, ixS, on_lp_eq, Tryz.underlying3, sz3, by3, ze3, Tryz.underlying4, sz4, by4, ze4, Tryz.underlying23, sz23, by23, ze23, Tryz.underlying63, sz63, by63, ze63, fa63_0, fa63_1, fa63_2, fa63_3, fa63_4, fa63_5, fa63_6, fa63_7, Tryz.underlying82, sz82, by82, ze82, go_sem, ↓reduceIte, reduceCtorEq, Nat.reduceEqDiff, Nat.reduceLT, ↓all_qV, Int.reduceToNat, Int.reduceLT, Int.reduceLE, Nat.reduceAdd, Nat.reduceLeDiff, Nat.reduceMul]
  exact ⟨⟨hf, ⟨l, rfl⟩, hl⟩, by rw [← ixG_any _ 0 l]⟩
noncomputable def A5 (g : FuncId) : PSpec := (putΦ A4 45 ctS) g
theorem hA5 : TabSound GG A5 := (hA4.put w_ctS)
/-! ### Check, Last -/
def lgV (l : List Pst) : PV := .agg [.sl (l.map psV)]
def lgOf : PV → List Pst
  | .agg [.sl es] => es.map psOf
  | _ => []
theorem lgOf_agg {l : List Pst} : lgOf (.agg [.sl (l.map psV)]) = l := map_psOf l
def isLg (e : PV) : Prop := ∃ l : List Pst, e = lgV l ∧ l.length ≤ 1000000
/-- Numbers from i+1 on, days that do not fall. -/
def seqG : Nat → Option Int → List Pst → Bool
  | _, _, [] => true
  | i, o, x :: r => (x.nu == (i : Int) + 1 && (match o with | none => true | some d => decide (d ≤ x.d))) && seqG (i + 1) (some x.d) r
def leO (o : Option Int) (d : Int) : Bool := match o with | none => true | some e => decide (e ≤ d)
theorem seqG_cons {i : Nat} {o : Option Int} {x : Pst} {r : List Pst} : seqG i o (x :: r) = ((x.nu == (i : Int) + 1 && leO o x.d) && seqG (i + 1) (some x.d) r) := rfl
theorem seqG_nil {i : Nat} {o : Option Int} : seqG i o [] = true := rfl
def lkF (l : List Pst) : Int := bif decide (400 < (l.length : Int)) then 3 else bif l.any (fun x => !pB x) then 85 else bif seqG 0 none l then 0 else 86
def prevD (l : List Pst) : Nat → Option Int
  | 0 => none
  | j + 1 => some (l.getD j default).d
noncomputable def lchkS : PSpec := on_p isLg (fun e => .int .i64 (lkF (lgOf e)))
theorem k_lchkS_45 {args : List PV} : A5 45 args = ctS args := rfl
theorem k_lchkS_65 {args : List PV} : A5 65 args = lchk1S args := rfl
theorem w_lchkS : PSound GG 41 lchkS := by
  refine PSound.of_wpc (C := cxP Tryz.prog A5 [] 44) (T := plan0) Tryz.func41 rfl rfl rfl (Fit.pure (G := GG) hA5 mixed) (fun args h => ?_)
  unfold lchkS at h
  obtain ⟨e, rfl, hp⟩ := on_p_inv h
  refine ⟨by simp [cxP], ?_⟩
  simp only [lchkS, on_p_eq, Tryz.f41, argL, plan0]
  obtain ⟨l, rfl, hl⟩ := hp
  simp only [qF1, lgV, lgOf_agg, map_psOf, List.length_map, loadC_eq, k_lchkS_45, ctS, on_lp_eq, k_lchkS_65, lchk1S, on_p_eq, List.take_succ_cons, List.take_nil, Tryz.underlying1, sz1, by1, ze1, Tryz.underlying3, sz3, by3, ze3, Tryz.underlying4, sz4, by4, ze4, Tryz.underlying23, sz23, by23, ze23, Tryz.underlying25, sz25, by25, ze25, fa25_0, Tryz.underlying41, sz41, by41, ze41, Tryz.underlying63, sz63, by63, ze63, fa63_0, fa63_1, fa63_2, fa63_3, fa63_4, fa63_5, fa63_6, fa63_7, Tryz.underlying82, sz82, by82, ze82, go_sem, ↓reduceIte, reduceCtorEq, Nat.reduceEqDiff, Nat.reduceLT, ↓all_qV, Int.reduceToNat, Int.reduceLT, Int.reduceLE, Nat.reduceAdd, Nat.reduceLeDiff, Nat.reduceMul]
  refine ⟨fun h1 => by unfold lkF; rw [h1]; rfl, fun h1 => ⟨⟨⟨l, rfl⟩, hl⟩, fun h2 => by unfold lkF; rw [h1, h2]; rfl, fun h2 => ?_⟩⟩
  have hres : lkF l = bif seqG 0 none l then 0 else 86 := by unfold lkF; rw [h1, h2]; rfl
  rw [hres]
  refine AWp.loop (T := plan0) (α := Nat) (fun i => ([(1, .ptr 1 0), (15, .pv (.sl (l.map psV))), (16, .pv (.int .i64 l.length)), (17, .pv (.int .i64 i))], [(1, .cells [.pv (.sl (l.map psV))])]))
    (fun i => i ≤ l.length ∧ seqG 0 none l = seqG i (prevD l i) (l.drop i)) (fun i => l.length - i)
    ⟨0, ⟨Nat.zero_le _, rfl⟩, ⟨by simp [fitR, look], by simp [fitH, hget], rfl, rfl, rfl⟩⟩ ?_
  rintro i ⟨g1, g2⟩
  have hi1 : IntKind.i64.wrap ((i : Int) + 1) = ((i + 1 : Nat) : Int) := by rw [i64_in _ (by omega)]; omega
  by_cases hlt : i < l.length
  · have c0 : decide ((i : Int) < (l.length : Int)) = true := by simp; omega
    have e1 := getD_ps hlt
    have hpn : prevD l (i + 1) = some (l.getD i default).d := rfl
    rw [drop_cons' hlt, seqG_cons, ← hpn] at g2
    generalize l.getD i default = x at e1 g2 hpn
    obtain ⟨nu, d, en, db, cr, am, pa, re⟩ := x
    simp only [psV] at e1
    simp only at g2
    cases i with
    | zero =>
      have c9 : decide (0 < (l.length : Int)) = true := c0
      have q1 : IntKind.i64.wrap (0 + 1) = 1 := by decide
      have hp0 : prevD l 0 = none := rfl
      rw [hp0] at g2
      have g2 : seqG 0 none l = ((nu == 1) && seqG 1 (prevD l 1) (l.drop 1)) := by rw [g2]; simp [leO]
      have w1 : IntKind.i64.wrap (0 - 1) = -1 := by decide
      have w3 : Int.toNat (-1) = 0 := rfl
      have hcond : (nu == 1) = !(nu != 1) := by simp [bne]
      rw [hcond] at g2
      simp only [c9, q1, w1, w3, e1, psOf_agg, List.length_map, loadC_eq, List.take_succ_cons, List.take_nil, Tryz.underlying1, sz1, by1, ze1, Tryz.underlying3, sz3, by3, ze3, Tryz.underlying4, sz4, by4, ze4, Tryz.underlying23, sz23, by23, ze23, Tryz.underlying25, sz25, by25, ze25, fa25_0, Tryz.underlying41, sz41, by41, ze41, Tryz.underlying63, sz63, by63, ze63, fa63_0, fa63_1, fa63_2, fa63_3, fa63_4, fa63_5, fa63_6, fa63_7, Tryz.underlying82, sz82, by82, ze82, plan0, go_sem, ↓reduceIte, reduceCtorEq, Nat.reduceEqDiff, Nat.reduceLT, ↓all_qV, Int.reduceToNat, Int.reduceLT, Int.reduceLE, Nat.reduceAdd, Nat.reduceLeDiff, Nat.reduceMul]
      have nf : (decide False) = false := by simp
      have hc2 : (nu != 1 || decide False && decide (d < d)) = (nu != 1) := by rw [nf]; simp
      refine ⟨by omega, by kernel_rfl, ?_⟩
      and_intros
      all_goals try (intro h9; rw [nf] at h9; simp at h9; done)
      all_goals try (intro _ h9; rw [nf] at h9; cases h9; done)
      · intro h9
        rw [hc2] at h9
        rw [g2, h9]; rfl
      · intro h9
        rw [hc2] at h9
        exact ⟨1, ⟨by omega, by rw [g2, h9]; rfl⟩, by omega, ⟨by simp [fitR, look], by simp [fitH, hget], rfl, rfl, rfl⟩⟩
    | succ j =>
      have c1 : decide (0 < ((j + 1 : Nat) : Int)) = true := by simp
      have w2 : IntKind.i64.wrap (((j + 1 : Nat) : Int) - 1) = (j : Int) := by rw [i64_in _ (by omega)]; omega
      have e2 := getD_ps (l := l) (i := j) (by omega)
      have hpj : prevD l (j + 1) = some (l.getD j default).d := rfl
      rw [hpj] at g2
      generalize l.getD j default = y at e2 g2
      obtain ⟨nu', d', en', db', cr', am', pa', re'⟩ := y
      simp only [psV] at e2
      simp only at g2
      simp only [c0, c1, w2, hi1, e1, e2, psOf_agg, List.length_map, loadC_eq, List.take_succ_cons, List.take_nil, Tryz.underlying1, sz1, by1, ze1, Tryz.underlying3, sz3, by3, ze3, Tryz.underlying4, sz4, by4, ze4, Tryz.underlying23, sz23, by23, ze23, Tryz.underlying25, sz25, by25, ze25, fa25_0, Tryz.underlying41, sz41, by41, ze41, Tryz.underlying63, sz63, by63, ze63, fa63_0, fa63_1, fa63_2, fa63_3, fa63_4, fa63_5, fa63_6, fa63_7, Tryz.underlying82, sz82, by82, ze82, plan0, go_sem, ↓reduceIte, reduceCtorEq, Nat.reduceEqDiff, Nat.reduceLT, ↓all_qV, Int.reduceToNat, Int.reduceLT, Int.reduceLE, Nat.reduceAdd, Nat.reduceLeDiff, Nat.reduceMul]
      have hcond : (nu == (((j + 1 : Nat) : Int)) + 1 && leO (some d') d) = !(nu != ((j + 1 + 1 : Nat) : Int) || decide (d < d')) := by
        have e3 : (((j + 1 : Nat) : Int)) + 1 = ((j + 1 + 1 : Nat) : Int) := by omega
        rw [e3, Bool.not_or]
        congr 1
        · simp [bne]
        · simp only [leO]
          by_cases h : d < d' <;> simp [h] <;> omega
      rw [hcond] at g2
      refine ⟨⟨by omega, by omega⟩, by kernel_rfl, fun _ => ⟨by omega, by omega⟩, fun h9 => ?_, fun h9 => ⟨j + 1 + 1, ⟨by omega, ?_⟩, by omega, ⟨by simp [fitR, look], by simp [fitH, hget], rfl, rfl, rfl⟩⟩⟩
      · rw [g2, h9]; rfl
      · rw [g2, h9]; rfl
  · have c0 : decide ((i : Int) < (l.length : Int)) = false := by simp; omega
    rw [List.drop_eq_nil_of_le (by omega), seqG_nil] at g2
    simp only [c0, g2, List.length_map, Tryz.underlying1, sz1, by1, ze1, Tryz.underlying3, sz3, by3, ze3, Tryz.underlying4, sz4, by4, ze4, Tryz.underlying23, sz23, by23, ze23, Tryz.underlying25, sz25, by25, ze25, fa25_0, Tryz.underlying41, sz41, by41, ze41, Tryz.underlying63, sz63, by63, ze63, fa63_0, fa63_1, fa63_2, fa63_3, fa63_4, fa63_5, fa63_6, fa63_7, Tryz.underlying82, sz82, by82, ze82, plan0, go_sem, ↓reduceIte, reduceCtorEq, Nat.reduceEqDiff, Nat.reduceLT, ↓all_qV, Int.reduceToNat, Int.reduceLT, Int.reduceLE, Nat.reduceAdd, Nat.reduceLeDiff, Nat.reduceMul]
noncomputable def A6 (g : FuncId) : PSpec := (putΦ A5 41 lchkS) g
theorem hA6 : TabSound GG A6 := (hA5.put w_lchkS)
def lastD (l : List Pst) : Int := bif decide (0 < (l.length : Int)) then (l.getD (l.length - 1) default).d else 0
noncomputable def llastS : PSpec := on_p isLg (fun e => .int .i64 (lastD (lgOf e)))
theorem w_llastS : PSound GG 42 llastS := by
  refine PSound.of_wpc (C := cxP Tryz.prog A6 [] 16) (T := plan0) Tryz.func42 rfl rfl rfl (Fit.pure (G := GG) hA6 mixed) (fun args h => ?_)
  unfold llastS at h
  obtain ⟨e, rfl, hp⟩ := on_p_inv h
  refine ⟨by simp [cxP], ?_⟩
  simp only [llastS, on_p_eq, Tryz.f42, argL, plan0]
  obtain ⟨l, rfl, hl⟩ := hp
  cases hn : l.length with
  | zero =>
    have hnil : l = [] := List.length_eq_zero_iff.1 hn
    subst hnil
    simp only [lgV, lgOf_agg, map_psOf, List.map_nil, List.length_nil, loadC_eq, true_and, Tryz.underlying1, sz1, by1, ze1, Tryz.underlying3, sz3, by3, ze3, Tryz.underlying4, sz4, by4, ze4, Tryz.underlying23, sz23, by23, ze23, Tryz.underlying25, sz25, by25, ze25, fa25_0, Tryz.underlying63, sz63, by63, ze63, fa63_0, fa63_1, fa63_2, fa63_3, fa63_4, fa63_5, fa63_6, fa63_7, go_sem, ↓reduceIte, reduceCtorEq, Nat.reduceEqDiff, Nat.reduceLT, ↓all_qV, Int.reduceToNat, Int.reduceLT, Int.reduceLE, Nat.reduceAdd, Nat.reduceLeDiff, Nat.reduceMul]
    exact ⟨fun h9 => by simp at h9, fun _ => rfl⟩
  | succ k =>
    have c1 : decide (0 < ((k + 1 : Nat) : Int)) = true := by simp
    have w2 : IntKind.i64.wrap (((k + 1 : Nat) : Int) - 1) = (k : Int) := by rw [i64_in _ (by omega)]; omega
    have e1 := getD_ps (l := l) (i := k) (by omega)
    have hr : lastD l = (l.getD k default).d := by unfold lastD; rw [hn, c1]; rfl
    generalize l.getD k default = x at e1 hr
    obtain ⟨nu, d, en, db, cr, am, pa, re⟩ := x
    simp only [psV] at e1
    simp only at hr
    simp only [lgV, lgOf_agg, hr, map_psOf, List.length_map, hn, c1, w2, e1, loadC_eq, true_and, Tryz.underlying1, sz1, by1, ze1, Tryz.underlying3, sz3, by3, ze3, Tryz.underlying4, sz4, by4, ze4, Tryz.underlying23, sz23, by23, ze23, Tryz.underlying25, sz25, by25, ze25, fa25_0, Tryz.underlying63, sz63, by63, ze63, fa63_0, fa63_1, fa63_2, fa63_3, fa63_4, fa63_5, fa63_6, fa63_7, go_sem, ↓reduceIte, reduceCtorEq, Nat.reduceEqDiff, Nat.reduceLT, ↓all_qV, Int.reduceToNat, Int.reduceLT, Int.reduceLE, Nat.reduceAdd, Nat.reduceLeDiff, Nat.reduceMul]
    exact ⟨by omega, by omega⟩
end Go.AM
