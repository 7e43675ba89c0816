/-
  A part of a proof: see the last text of this claim for what is proved.
-/
import Derived.Test.YtdbnifmcikljdaaGreatDoorD6d
import Derived.Test.YtdbnifmcikljdaaGreatDoorZMa
namespace Go.AM
open Go Go.Proofs Go.IntWalk
set_option maxRecDepth 100000
set_option maxHeartbeats 1000000
set_option linter.unusedSimpArgs false
set_option linter.unusedVariables false
def isCy (e : PV) : Prop := ∃ x : Cyl, e = cyV x
def notO (e : PV) : Bool := !opB (opOf e)
def notC (e : PV) : Bool := !vldM (cyOf e).a
theorem cyOf_agg {n d y a : Int} {k : List UInt8} : cyOf (.agg [.int .i64 n, .int .i64 d, .str k, .int .i64 y, .int .i64 a]) = ⟨n, d, k, y, a⟩ := rfl
noncomputable def lin1G : PSpec := on_p isOp (fun e => .bool (notO e))
theorem k_lin1G_30 {args : List PV} : V3 30 args = openS args := rfl
theorem w_lin1G : PSound GG 42 lin1G := by
  refine PSound.of_wpc (C := cxP Tryz.prog V3 [] 6) (T := plan0) Tryz.func42 rfl rfl rfl (Fit.pure (G := GG) hV3 mixed) (fun args h => ?_)
  unfold lin1G at h
  obtain ⟨e, rfl, hp⟩ := on_p_inv h
  refine ⟨by simp [cxP], ?_⟩
  simp only [lin1G, on_p_eq, Tryz.f42, argL, plan0]
  obtain ⟨⟨o, c, k, y, a⟩, rfl, hk⟩ := hp
  simp only [opV, notO, opOf_agg, k_lin1G_30, openS, on_p_eq, List.take_succ_cons, List.take_nil, Tryz.underlying3, sz3, by3, ze3, Tryz.underlying4, sz4, by4, ze4, Tryz.underlying9, sz9, by9, ze9, Tryz.underlying37, sz37, by37, ze37, fa37_0, fa37_1, fa37_2, fa37_3, fa37_4, go_sem, ↓reduceIte, reduceCtorEq, Nat.reduceEqDiff, Nat.reduceLT, ↓all_qV, Int.reduceToNat, Int.reduceLT, Int.reduceLE, Nat.reduceAdd, Nat.reduceLeDiff, Nat.reduceMul, ev_callG, gcallK_b, gcallK_w, callGc_true, callGc_false, List.forall_mem_cons, List.not_mem_nil, PV.one, AV.one]
  exact ⟨⟨o, c, k, y, a⟩, rfl, hk⟩
noncomputable def lin3G : PSpec := on_p isCy (fun e => .bool (notC e))
theorem k_lin3G_47 {args : List PV} : V3 47 args = validMS args := rfl
theorem w_lin3G : PSound GG 46 lin3G := by
  refine PSound.of_wpc (C := cxP Tryz.prog V3 [] 7) (T := plan0) Tryz.func46 rfl rfl rfl (Fit.pure (G := GG) hV3 mixed) (fun args h => ?_)
  unfold lin3G at h
  obtain ⟨e, rfl, hp⟩ := on_p_inv h
  refine ⟨by simp [cxP], ?_⟩
  simp only [lin3G, on_p_eq, Tryz.f46, argL, plan0]
  obtain ⟨⟨n, d, k, y, a⟩, rfl⟩ := hp
  simp only [cyV, notC, cyOf_agg, k_lin3G_47, validMS, on_i_eq, List.take_succ_cons, List.take_nil, Tryz.underlying3, sz3, by3, ze3, Tryz.underlying4, sz4, by4, ze4, Tryz.underlying9, sz9, by9, ze9, Tryz.underlying80, sz80, by80, ze80, fa80_0, fa80_1, fa80_2, fa80_3, fa80_4, go_sem, ↓reduceIte, reduceCtorEq, Nat.reduceEqDiff, Nat.reduceLT, ↓all_qV, Int.reduceToNat, Int.reduceLT, Int.reduceLE, Nat.reduceAdd, Nat.reduceLeDiff, Nat.reduceMul, ev_callG, gcallK_b, gcallK_w, callGc_true, callGc_false, List.forall_mem_cons, List.not_mem_nil, PV.one, AV.one]
noncomputable def V4 (g : FuncId) : PSpec := (putΦ (putΦ V3 42 lin1G) 46 lin3G) g
theorem hV4 : TabSound GG V4 := ((hV3.put w_lin1G).put w_lin3G)
def idxI (p : PV → Bool) : Nat → List PV → Int
  | _, [] => -1
  | i, e :: r => bif p e then (i : Int) else idxI p (i + 1) r
theorem idxI_any (p : PV → Bool) : ∀ (l : List PV) (i : Nat), decide (0 ≤ idxI p i l) = l.any p
  | [], i => by simp [idxI]
  | e :: r, i => by
    unfold idxI
    cases h : p e with
    | true => simp [h]
    | false => rw [cond_false, idxI_any p r (i + 1)]; simp [h]
noncomputable def idxOG : PSpec := on_lp (fun es f => f = .fn 42 [] ∧ (∀ e, e ∈ es → isOp e) ∧ es.length ≤ 1000) (fun es _ => .int .i64 (idxI notO 0 es))
theorem kG_idxO {args : List PV} : V4 42 args = lin1G args := rfl
theorem w_idxOG : PSound GG 57 idxOG := by
  refine PSound.of_wpc (C := cxP Tryz.prog V4 [] 19) (T := plan0) Tryz.func57 rfl rfl rfl (Fit.pure (G := GG) hV4 mixed) (fun args h => ?_)
  unfold idxOG at h
  obtain ⟨es, f, rfl, hp⟩ := on_lp_inv h
  refine ⟨by simp [cxP], ?_⟩
  simp only [idxOG, on_lp_eq, Tryz.f57, argL, plan0]
  obtain ⟨rfl, he, hl⟩ := hp
  simp only [Tryz.underlying3, sz3, by3, ze3, Tryz.underlying4, sz4, by4, ze4, Tryz.underlying9, sz9, by9, ze9, Tryz.underlying23, sz23, by23, ze23, Tryz.underlying37, sz37, by37, ze37, fa37_0, fa37_1, fa37_2, fa37_3, fa37_4, Tryz.underlying71, sz71, by71, ze71, go_sem, ↓reduceIte, reduceCtorEq, Nat.reduceEqDiff, Nat.reduceLT, ↓all_qV, Int.reduceToNat, Int.reduceLT, Int.reduceLE, Nat.reduceAdd, Nat.reduceLeDiff, Nat.reduceMul]
  refine AWp.loop (T := plan0) (α := Nat) (fun i => ([(0, .pv (.sl es)), (1, .pv (.fn 42 [])), (7, .pv (.int .i64 es.length)), (8, .pv (.int .i64 i))], [])) (fun i => i ≤ es.length ∧ idxI notO 0 es = idxI notO i (es.drop i)) (fun i => es.length - i)
    ⟨0, ⟨Nat.zero_le _, by simp⟩, ⟨by simp [fitR, look], trivial, rfl, rfl, rfl⟩⟩ ?_
  rintro i ⟨h1, h2⟩
  have hi1 : IntKind.i64.wrap ((i : Int) + 1) = ((i + 1 : Nat) : Int) := by rw [i64_in _ (by omega)]; omega
  by_cases hlt : i < es.length
  · have c0 : decide ((i : Int) < (es.length : Int)) = true := by simp; omega
    have hm := he _ (getD_mem hlt)
    rw [drop_cons' hlt, idxI] at h2
    generalize hg : es.getD i default = e at hm h2
    have hm2 := hm
    obtain ⟨x, rfl, hx⟩ := hm
    cases x
    simp only [opV] at hg hm2 h2
    simp only [c0, hg, hi1, kG_idxO, lin1G, on_p_eq, ev_callT, callTK, List.take_succ_cons, List.take_nil, Tryz.underlying3, sz3, by3, ze3, Tryz.underlying4, sz4, by4, ze4, Tryz.underlying9, sz9, by9, ze9, Tryz.underlying23, sz23, by23, ze23, Tryz.underlying37, sz37, by37, ze37, fa37_0, fa37_1, fa37_2, fa37_3, fa37_4, Tryz.underlying71, sz71, by71, ze71, plan0, go_sem, ↓reduceIte, reduceCtorEq, Nat.reduceEqDiff, Nat.reduceLT, ↓all_qV, Int.reduceToNat, Int.reduceLT, Int.reduceLE, Nat.reduceAdd, Nat.reduceLeDiff, Nat.reduceMul]
    refine ⟨by omega, hm2, fun h9 => ?_, fun h9 => ⟨i + 1, ⟨by omega, ?_⟩, by omega, ⟨by simp [fitR, look], trivial, rfl, rfl, rfl⟩⟩⟩
    · rw [h2, h9]; rfl
    · rw [h2, h9]; rfl
  · have c0 : decide ((i : Int) < (es.length : Int)) = false := by simp; omega
    rw [List.drop_eq_nil_of_le (by omega), idxI] at h2
    simp only [c0, h2, Tryz.underlying3, sz3, by3, ze3, Tryz.underlying4, sz4, by4, ze4, Tryz.underlying9, sz9, by9, ze9, Tryz.underlying23, sz23, by23, ze23, Tryz.underlying37, sz37, by37, ze37, fa37_0, fa37_1, fa37_2, fa37_3, fa37_4, Tryz.underlying71, sz71, by71, ze71, plan0, go_sem, ↓reduceIte, reduceCtorEq, Nat.reduceEqDiff, Nat.reduceLT, ↓all_qV, Int.reduceToNat, Int.reduceLT, Int.reduceLE, Nat.reduceAdd, Nat.reduceLeDiff, Nat.reduceMul]
noncomputable def V5 (g : FuncId) : PSpec := (putΦ V4 57 idxOG) g
theorem hV5 : TabSound GG V5 := (hV4.put w_idxOG)
noncomputable def cidxOG : PSpec := on_lp (fun es f => f = .fn 42 [] ∧ (∀ e, e ∈ es → isOp e) ∧ es.length ≤ 1000) (fun es _ => .bool (es.any notO))
theorem k_cidxOG_57 {args : List PV} : V5 57 args = idxOG args := rfl
theorem w_cidxOG : PSound GG 41 cidxOG := by
  refine PSound.of_wpc (C := cxP Tryz.prog V5 [] 9) (T := plan0) Tryz.func41 rfl rfl rfl (Fit.pure (G := GG) hV5 mixed) (fun args h => ?_)
  unfold cidxOG at h
  obtain ⟨es, f, rfl, hp⟩ := on_lp_inv h
  refine ⟨by simp [cxP], ?_⟩
  simp only [cidxOG, on_lp_eq, Tryz.f41, argL, plan0]
  obtain ⟨rfl, he, hl⟩ := hp
  simp only [k_cidxOG_57, idxOG, on_lp_eq, idxI_any, Tryz.underlying3, sz3, by3, ze3, Tryz.underlying4, sz4, by4, ze4, Tryz.underlying9, sz9, by9, ze9, Tryz.underlying23, sz23, by23, ze23, Tryz.underlying37, sz37, by37, ze37, fa37_0, fa37_1, fa37_2, fa37_3, fa37_4, Tryz.underlying71, sz71, by71, ze71, go_sem, ↓reduceIte, reduceCtorEq, Nat.reduceEqDiff, Nat.reduceLT, ↓all_qV, Int.reduceToNat, Int.reduceLT, Int.reduceLE, Nat.reduceAdd, Nat.reduceLeDiff, Nat.reduceMul]
  exact ⟨he, hl⟩
noncomputable def idxCG : PSpec := on_lp (fun es f => f = .fn 46 [] ∧ (∀ e, e ∈ es → isCy e) ∧ es.length ≤ 1000) (fun es _ => .int .i64 (idxI notC 0 es))
theorem kG_idxC {args : List PV} : V4 46 args = lin3G args := rfl
theorem w_idxCG : PSound GG 59 idxCG := by
  refine PSound.of_wpc (C := cxP Tryz.prog V4 [] 19) (T := plan0) Tryz.func59 rfl rfl rfl (Fit.pure (G := GG) hV4 mixed) (fun args h => ?_)
  unfold idxCG at h
  obtain ⟨es, f, rfl, hp⟩ := on_lp_inv h
  refine ⟨by simp [cxP], ?_⟩
  simp only [idxCG, on_lp_eq, Tryz.f59, argL, plan0]
  obtain ⟨rfl, he, hl⟩ := hp
  simp only [Tryz.underlying3, sz3, by3, ze3, Tryz.underlying4, sz4, by4, ze4, Tryz.underlying9, sz9, by9, ze9, Tryz.underlying50, sz50, by50, ze50, Tryz.underlying80, sz80, by80, ze80, fa80_0, fa80_1, fa80_2, fa80_3, fa80_4, Tryz.underlying83, sz83, by83, ze83, go_sem, ↓reduceIte, reduceCtorEq, Nat.reduceEqDiff, Nat.reduceLT, ↓all_qV, Int.reduceToNat, Int.reduceLT, Int.reduceLE, Nat.reduceAdd, Nat.reduceLeDiff, Nat.reduceMul]
  refine AWp.loop (T := plan0) (α := Nat) (fun i => ([(0, .pv (.sl es)), (1, .pv (.fn 46 [])), (7, .pv (.int .i64 es.length)), (8, .pv (.int .i64 i))], [])) (fun i => i ≤ es.length ∧ idxI notC 0 es = idxI notC i (es.drop i)) (fun i => es.length - i)
    ⟨0, ⟨Nat.zero_le _, by simp⟩, ⟨by simp [fitR, look], trivial, rfl, rfl, rfl⟩⟩ ?_
  rintro i ⟨h1, h2⟩
  have hi1 : IntKind.i64.wrap ((i : Int) + 1) = ((i + 1 : Nat) : Int) := by rw [i64_in _ (by omega)]; omega
  by_cases hlt : i < es.length
  · have c0 : decide ((i : Int) < (es.length : Int)) = true := by simp; omega
    have hm := he _ (getD_mem hlt)
    rw [drop_cons' hlt, idxI] at h2
    generalize hg : es.getD i default = e at hm h2
    have hm2 := hm
    obtain ⟨x, rfl, hx⟩ := hm
    cases x
    simp only [cyV] at hg hm2 h2
    simp only [c0, hg, hi1, kG_idxC, lin3G, on_p_eq, ev_callT, callTK, List.take_succ_cons, List.take_nil, Tryz.underlying3, sz3, by3, ze3, Tryz.underlying4, sz4, by4, ze4, Tryz.underlying9, sz9, by9, ze9, Tryz.underlying50, sz50, by50, ze50, Tryz.underlying80, sz80, by80, ze80, fa80_0, fa80_1, fa80_2, fa80_3, fa80_4, Tryz.underlying83, sz83, by83, ze83, plan0, go_sem, ↓reduceIte, reduceCtorEq, Nat.reduceEqDiff, Nat.reduceLT, ↓all_qV, Int.reduceToNat, Int.reduceLT, Int.reduceLE, Nat.reduceAdd, Nat.reduceLeDiff, Nat.reduceMul]
    refine ⟨by omega, hm2, fun h9 => ?_, fun h9 => ⟨i + 1, ⟨by omega, ?_⟩, by omega, ⟨by simp [fitR, look], trivial, rfl, rfl, rfl⟩⟩⟩
    · rw [h2, h9]; rfl
    · rw [h2, h9]; rfl
  · have c0 : decide ((i : Int) < (es.length : Int)) = false := by simp; omega
    rw [List.drop_eq_nil_of_le (by omega), idxI] at h2
    simp only [c0, h2, Tryz.underlying3, sz3, by3, ze3, Tryz.underlying4, sz4, by4, ze4, Tryz.underlying9, sz9, by9, ze9, Tryz.underlying50, sz50, by50, ze50, Tryz.underlying80, sz80, by80, ze80, fa80_0, fa80_1, fa80_2, fa80_3, fa80_4, Tryz.underlying83, sz83, by83, ze83, plan0, go_sem, ↓reduceIte, reduceCtorEq, Nat.reduceEqDiff, Nat.reduceLT, ↓all_qV, Int.reduceToNat, Int.reduceLT, Int.reduceLE, Nat.reduceAdd, Nat.reduceLeDiff, Nat.reduceMul]
noncomputable def V6 (g : FuncId) : PSpec := (putΦ V4 59 idxCG) g
theorem hV6 : TabSound GG V6 := (hV4.put w_idxCG)
noncomputable def cidxCG : PSpec := on_lp (fun es f => f = .fn 46 [] ∧ (∀ e, e ∈ es → isCy e) ∧ es.length ≤ 1000) (fun es _ => .bool (es.any notC))
theorem k_cidxCG_59 {args : List PV} : V6 59 args = idxCG args := rfl
theorem w_cidxCG : PSound GG 45 cidxCG := by
  refine PSound.of_wpc (C := cxP Tryz.prog V6 [] 9) (T := plan0) Tryz.func45 rfl rfl rfl (Fit.pure (G := GG) hV6 mixed) (fun args h => ?_)
  unfold cidxCG at h
  obtain ⟨es, f, rfl, hp⟩ := on_lp_inv h
  refine ⟨by simp [cxP], ?_⟩
  simp only [cidxCG, on_lp_eq, Tryz.f45, argL, plan0]
  obtain ⟨rfl, he, hl⟩ := hp
  simp only [k_cidxCG_59, idxCG, on_lp_eq, idxI_any, Tryz.underlying3, sz3, by3, ze3, Tryz.underlying4, sz4, by4, ze4, Tryz.underlying9, sz9, by9, ze9, Tryz.underlying50, sz50, by50, ze50, Tryz.underlying80, sz80, by80, ze80, fa80_0, fa80_1, fa80_2, fa80_3, fa80_4, Tryz.underlying83, sz83, by83, ze83, go_sem, ↓reduceIte, reduceCtorEq, Nat.reduceEqDiff, Nat.reduceLT, ↓all_qV, Int.reduceToNat, Int.reduceLT, Int.reduceLE, Nat.reduceAdd, Nat.reduceLeDiff, Nat.reduceMul]
  exact ⟨he, hl⟩
noncomputable def V7 (g : FuncId) : PSpec := (putΦ (putΦ V4 41 cidxOG) 45 cidxCG) g
theorem hV7 : TabSound GG V7 := ((hV4.put w_cidxOG).put w_cidxCG)
end Go.AM
namespace Go.AM
open Go Go.Proofs Go.IntWalk
set_option maxRecDepth 100000
set_option maxHeartbeats 1000000
set_option linter.unusedSimpArgs false
set_option linter.unusedVariables false
def joinD : List (List UInt8) → List UInt8
  | [] => []
  | [w] => w
  | w :: ws => w ++ 46 :: joinD ws
theorem joinD_words : ∀ s : List UInt8, joinD (wordsOf s) = s
  | [] => rfl
  | c :: r => by
    have ih := joinD_words r
    obtain ⟨w, ws, e⟩ := wordsOf_ne r
    rw [e] at ih
    unfold wordsOf
    by_cases h : c = 46
    · rw [if_pos h, e, h]
      show [] ++ 46 :: joinD (w :: ws) = _
      rw [ih]; rfl
    · rw [if_neg h, e]
      show joinD ((c :: w) :: ws) = _
      cases ws with
      | nil => show c :: w = _; rw [show w = r from ih]
      | cons v vs =>
        show (c :: w) ++ 46 :: joinD (v :: vs) = _
        rw [← ih]; rfl
theorem goP_itoa : ∀ (ws : List (List UInt8)) (acc l : List Int), goP acc ws = some l → ∃ m, l = acc ++ m ∧ ws = m.map Lib.itoa
  | [], acc, l, h => by rw [goP_nil] at h; cases h; exact ⟨[], by simp⟩
  | w :: ws, acc, l, h => by
    rw [goP_cons] at h
    cases hw : goW w with
    | none => rw [hw] at h; cases h
    | some v =>
      rw [hw] at h
      obtain ⟨m, h1, h2⟩ := goP_itoa ws _ l h
      exact ⟨v :: m, by rw [h1]; simp, by rw [List.map_cons, (goW_back hw).2.2, h2]⟩
theorem parts_words {s : List UInt8} (h : 0 < (partsR s).length) : wordsOf s = (partsR s).map Lib.itoa := by
  unfold partsR at h ⊢
  cases hg : goP [] (wordsOf s) with
  | none => rw [hg] at h; simp at h
  | some l =>
    rw [hg] at h
    simp only at h ⊢
    split at h
    · simp at h
    · rename_i h4
      rw [if_neg h4]
      obtain ⟨m, h1, h2⟩ := goP_itoa _ _ _ hg
      rw [List.nil_append] at h1
      rw [h1]; exact h2
theorem parts_inj {a b : List UInt8} (h : 0 < (partsR a).length) (e : partsR a = partsR b) : a = b := by
  have h1 := parts_words h
  have h2 := parts_words (s := b) (by rw [← e]; exact h)
  rw [← joinD_words a, ← joinD_words b, h1, h2, e]
theorem cmpL_zero : ∀ {p q : List Int}, cmpL p q = 0 → p = q
  | [], [], _ => rfl
  | [], _ :: _, h => by simp [cmpL] at h
  | _ :: _, [], h => by simp [cmpL] at h
  | x :: p, y :: q, h => by
    unfold cmpL at h
    split at h
    · cases h
    · split at h
      · cases h
      · rw [cmpL_zero h, show x = y by omega]
def lk (a b : List UInt8) : Int := cmpL (partsR a) (partsR b)
theorem lk_neg (a b : List UInt8) : lk b a = -lk a b := cmpL_neg _ _
theorem lk_self (a : List UInt8) : lk a a = 0 := by have := lk_neg a a; omega
theorem lk_le {a b c : List UInt8} (h1 : lk a b ≤ 0) (h2 : lk b c ≤ 0) : lk a c ≤ 0 := cmpL_le _ _ _ h1 h2
theorem lk_lt {a b c : List UInt8} (h1 : lk a b < 0) (h2 : lk b c ≤ 0) : lk a c < 0 := by
  have b1 := lk_le (a := a) (b := b) (c := c)
  have b2 := lk_le (a := b) (b := c) (c := a)
  have a1 := lk_neg a b
  have a3 := lk_neg a c
  omega
def valK (k : List UInt8) : Prop := 0 < (partsR k).length
theorem lk_eq {a b : List UInt8} (ha : valK a) (h : lk a b = 0) : a = b := parts_inj ha (cmpL_zero h)
def insA (k : List UInt8) (a : Int) : List Lft → List Lft
  | [] => [⟨k, a⟩]
  | z :: r => if lk z.k k < 0 then z :: insA k a r else if z.k = k then ⟨k, z.a + a⟩ :: r else ⟨k, a⟩ :: z :: r
def srtA (o : List Lft) : Prop := o.Pairwise (fun x y => lk x.k y.k < 0)
def valA (o : List Lft) : Prop := ∀ z, z ∈ o → valK z.k
def lookA (c : List UInt8) : List Lft → Option Int
  | [] => none
  | z :: r => if z.k = c then some z.a else lookA c r
theorem insA_mem {k : List UInt8} {a : Int} : ∀ {o : List Lft} {z : Lft}, z ∈ insA k a o → z.k = k ∨ z ∈ o
  | [], z, h => by rw [insA, List.mem_singleton] at h; subst h; exact .inl rfl
  | y :: r, z, h => by
    unfold insA at h
    split at h
    · rcases List.mem_cons.1 h with rfl | h
      · exact .inr List.mem_cons_self
      · exact (insA_mem h).imp id (List.mem_cons_of_mem _)
    · split at h
      · rcases List.mem_cons.1 h with rfl | h
        · exact .inl rfl
        · exact .inr (List.mem_cons_of_mem _ h)
      · rcases List.mem_cons.1 h with rfl | h
        · exact .inl rfl
        · exact .inr h
theorem insA_val {k : List UInt8} {a : Int} {o : List Lft} (h : valA o) (hk : valK k) : valA (insA k a o) := fun z hz => by
  rcases insA_mem hz with e | h2
  · rw [e]; exact hk
  · exact h z h2
theorem insA_srt {k : List UInt8} {a : Int} (hk : valK k) : ∀ {o : List Lft}, srtA o → valA o → srtA (insA k a o)
  | [], _, _ => by unfold insA srtA; simp
  | y :: r, h, hv => by
    obtain ⟨h1, h2⟩ := List.pairwise_cons.1 h
    have hy := hv y List.mem_cons_self
    have hr : valA r := fun z hz => hv z (List.mem_cons_of_mem _ hz)
    unfold insA
    split
    · rename_i hlt
      refine List.pairwise_cons.2 ⟨fun z hz => ?_, insA_srt hk h2 hr⟩
      rcases insA_mem hz with e | hz
      · rw [e]; exact hlt
      · exact h1 z hz
    · rename_i hlt
      split
      · rename_i e
        exact List.pairwise_cons.2 ⟨fun z hz => by have := h1 z hz; rw [e] at this; exact this, h2⟩
      · rename_i e
        have hky : lk k y.k < 0 := by
          have h3 := lk_neg k y.k
          have h4 : lk k y.k ≠ 0 := fun h0 => e (lk_eq hk h0).symm
          omega
        refine List.pairwise_cons.2 ⟨fun z hz => ?_, h⟩
        rcases List.mem_cons.1 hz with rfl | hz
        · exact hky
        · exact lk_lt hky (Int.le_of_lt (h1 z hz))
theorem lookA_none {c : List UInt8} : ∀ {o : List Lft}, (∀ z, z ∈ o → z.k ≠ c) → lookA c o = none
  | [], _ => rfl
  | z :: r, h => by
    unfold lookA
    rw [if_neg (h z List.mem_cons_self)]
    exact lookA_none (fun y hy => h y (List.mem_cons_of_mem _ hy))
theorem lt_ne {a b : List UInt8} (h : lk a b < 0) : a ≠ b := fun e => by rw [e, lk_self] at h; omega
theorem insA_look {k : List UInt8} {a : Int} (hk : valK k) (c : List UInt8) : ∀ {o : List Lft}, srtA o → valA o → lookA c (insA k a o) = if k = c then some ((lookA c o).getD 0 + a) else lookA c o
  | [], _, _ => by
    unfold insA
    by_cases e : k = c
    · rw [if_pos e]; simp [lookA, e]
    · rw [if_neg e]; simp [lookA, e]
  | y :: r, h, hv => by
    obtain ⟨h1, h2⟩ := List.pairwise_cons.1 h
    have hr : valA r := fun z hz => hv z (List.mem_cons_of_mem _ hz)
    unfold insA
    split
    · rename_i hlt
      have ih := insA_look hk c (a := a) h2 hr
      unfold lookA
      by_cases e : y.k = c
      · rw [if_pos e, if_pos e, if_neg (fun e2 => lt_ne hlt (e.trans e2.symm))]
      · rw [if_neg e, if_neg e]; exact ih
    · rename_i hlt
      split
      · rename_i e
        unfold lookA
        by_cases e2 : k = c
        · rw [if_pos e2, if_pos e2, if_pos (e.trans e2)]; rfl
        · rw [if_neg e2, if_neg e2, if_neg (fun e3 => e2 (e.symm.trans e3))]
      · rename_i e
        have hky : lk k y.k < 0 := by
          have h3 := lk_neg k y.k
          have h4 : lk k y.k ≠ 0 := fun h0 => e (lk_eq hk h0).symm
          omega
        by_cases e2 : k = c
        · have hn : lookA c (y :: r) = none := lookA_none (fun z hz => by
            rcases List.mem_cons.1 hz with rfl | hz
            · exact fun e3 => e (e3.trans e2.symm)
            · exact fun e3 => lt_ne (lk_lt hky (Int.le_of_lt (h1 z hz))) (e2.trans e3.symm))
          rw [if_pos e2, hn]
          show (if k = c then some a else lookA c (y :: r)) = _
          rw [if_pos e2]; simp
        · rw [if_neg e2]
          show (if k = c then some a else lookA c (y :: r)) = _
          rw [if_neg e2]
theorem look_uniq : ∀ {o o' : List Lft}, srtA o → srtA o' → valA o → valA o' → (∀ c, lookA c o = lookA c o') → o = o'
  | [], [], _, _, _, _, _ => rfl
  | [], z :: r, _, _, _, _, h => by have := h z.k; simp [lookA] at this
  | z :: r, [], _, _, _, _, h => by have := h z.k; simp [lookA] at this
  | z :: r, z' :: r', h, h', hv, hv', hl => by
    obtain ⟨h1, h2⟩ := List.pairwise_cons.1 h
    obtain ⟨h1', h2'⟩ := List.pairwise_cons.1 h'
    have key : ∀ {y : Lft} {t : List Lft} {k : List UInt8}, (∀ z, z ∈ t → lk y.k z.k < 0) → lk k y.k < 0 → lookA k (y :: t) = none := fun ht hk => lookA_none (fun w hw => by
      rcases List.mem_cons.1 hw with rfl | hw
      · exact (lt_ne hk).symm
      · exact (lt_ne (lk_lt hk (Int.le_of_lt (ht w hw)))).symm)
    have hz : z.k = z'.k := by
      have h0 := lk_neg z.k z'.k
      rcases Int.lt_trichotomy (lk z.k z'.k) 0 with h3 | h3 | h3
      · have := hl z.k
        rw [key h1' h3] at this; simp [lookA] at this
      · exact lk_eq (hv z List.mem_cons_self) h3
      · have := hl z'.k
        rw [key h1 (by omega)] at this; simp [lookA] at this
    have ha : z.a = z'.a := by
      have := hl z.k
      rw [show lookA z.k (z :: r) = some z.a by simp [lookA], show lookA z.k (z' :: r') = some z'.a by simp [lookA, hz]] at this
      exact Option.some.inj this
    have hr : r = r' := look_uniq h2 h2' (fun y hy => hv y (List.mem_cons_of_mem _ hy)) (fun y hy => hv' y (List.mem_cons_of_mem _ hy)) (fun c => by
      by_cases e : z.k = c
      · rw [lookA_none (fun w hw => by have := lt_ne (h1 w hw); exact fun e2 => this (e.trans e2.symm)), lookA_none (fun w hw => by have := lt_ne (h1' w hw); exact fun e2 => this ((hz.symm.trans e).trans e2.symm))]
      · have := hl c
        simp only [lookA] at this
        rw [if_neg e, if_neg (fun e2 => e (hz.trans e2))] at this
        exact this)
    cases z; cases z'
    simp only at hz ha
    rw [hz, ha, hr]
def resG (l : List Opn) (o : List Lft) : List Lft := l.foldl (fun o x => insA x.k x.a o) o
def combA (c : List UInt8) (l : List Opn) (v : Option Int) : Option Int := l.foldl (fun v x => if x.k = c then some (v.getD 0 + x.a) else v) v
theorem combA_perm (c : List UInt8) {l l' : List Opn} (h : l.Perm l') : ∀ v, combA c l v = combA c l' v := by
  induction h with
  | nil => intro v; rfl
  | cons x _ ih => intro v; exact ih _
  | swap x y l =>
    intro v
    unfold combA
    simp only [List.foldl_cons]
    congr 1
    by_cases h1 : x.k = c <;> by_cases h2 : y.k = c <;> simp [h1, h2]
    omega
  | trans _ _ h1 h2 => intro v; exact (h1 v).trans (h2 v)
theorem resG_inv : ∀ {l : List Opn} {o : List Lft}, (∀ x, x ∈ l → valK x.k) → srtA o → valA o → srtA (resG l o) ∧ valA (resG l o) ∧ ∀ c, lookA c (resG l o) = combA c l (lookA c o)
  | [], o, _, h, hv => ⟨h, hv, fun c => rfl⟩
  | x :: l, o, hx, h, hv => by
    have hk := hx x List.mem_cons_self
    obtain ⟨i1, i2, i3⟩ := resG_inv (l := l) (o := insA x.k x.a o) (fun y hy => hx y (List.mem_cons_of_mem _ hy)) (insA_srt hk h hv) (insA_val hv hk)
    refine ⟨i1, i2, fun c => ?_⟩
    have := i3 c
    rw [insA_look hk c h hv] at this
    exact this
def resA (l : List Opn) : List Lft := resG l []
theorem resA_perm {l l' : List Opn} (h : l.Perm l') (hx : ∀ x, x ∈ l → valK x.k) : resA l = resA l' := by
  obtain ⟨i1, i2, i3⟩ := resG_inv (l := l) (o := []) hx .nil (fun z hz => by cases hz)
  obtain ⟨j1, j2, j3⟩ := resG_inv (l := l') (o := []) (fun x hx' => hx x (h.mem_iff.2 hx')) .nil (fun z hz => by cases hz)
  exact look_uniq i1 j1 i2 j2 (fun c => (i3 c).trans ((combA_perm c h none).trans (j3 c).symm))
theorem insA_bnd {k : List UInt8} {a M B : Int} (ha : 0 ≤ a ∧ a ≤ B) (hM : 0 ≤ M) : ∀ {o : List Lft}, (∀ z, z ∈ o → 0 ≤ z.a ∧ z.a ≤ M) → ∀ z, z ∈ insA k a o → 0 ≤ z.a ∧ z.a ≤ M + B
  | [], _, z, hz => by rw [insA, List.mem_singleton] at hz; subst hz; simp only; omega
  | y :: r, h, z, hz => by
    have hy := h y List.mem_cons_self
    unfold insA at hz
    split at hz
    · rcases List.mem_cons.1 hz with rfl | hz
      · omega
      · exact insA_bnd ha hM (fun w hw => h w (List.mem_cons_of_mem _ hw)) z hz
    · split at hz
      · rcases List.mem_cons.1 hz with rfl | hz
        · simp only; omega
        · have := h z (List.mem_cons_of_mem _ hz); omega
      · rcases List.mem_cons.1 hz with rfl | hz
        · simp only; omega
        · have := h z hz; omega
theorem insA_len {k : List UInt8} {a : Int} : ∀ {o : List Lft}, (insA k a o).length ≤ o.length + 1
  | [] => by simp [insA]
  | y :: r => by
    have := insA_len (k := k) (a := a) (o := r)
    unfold insA
    split
    · simp only [List.length_cons]; omega
    · split <;> simp
theorem resG_bnd {B : Int} (hB : 0 ≤ B) : ∀ {l : List Opn} {o : List Lft} {M : Int}, (∀ x, x ∈ l → 0 ≤ x.a ∧ x.a ≤ B) → 0 ≤ M → (∀ z, z ∈ o → 0 ≤ z.a ∧ z.a ≤ M) → (resG l o).length ≤ o.length + l.length ∧ ∀ z, z ∈ resG l o → 0 ≤ z.a ∧ z.a ≤ M + l.length * B
  | [], o, M, _, _, h => ⟨Nat.le_refl _, fun z hz => by have := h z hz; simp only [List.length_nil]; omega⟩
  | x :: l, o, M, hx, hM, h => by
    obtain ⟨i1, i2⟩ := resG_bnd hB (l := l) (o := insA x.k x.a o) (M := M + B) (fun y hy => hx y (List.mem_cons_of_mem _ hy)) (by omega) (insA_bnd (hx x List.mem_cons_self) hM h)
    have := insA_len (k := x.k) (a := x.a) (o := o)
    refine ⟨?_, fun z hz => ?_⟩
    · show (resG l (insA x.k x.a o)).length ≤ _
      simp only [List.length_cons]; omega
    · have := i2 z hz
      simp only [List.length_cons, Int.natCast_add, Int.add_mul]; omega
theorem insA_pass {k : List UInt8} {a : Int} {t : List Lft} : ∀ {q : List Lft}, (∀ z, z ∈ q → lk z.k k < 0) → insA k a (q ++ t) = q ++ insA k a t
  | [], _ => rfl
  | y :: r, h => by
    rw [List.cons_append, insA, if_pos (h y List.mem_cons_self), insA_pass (fun z hz => h z (List.mem_cons_of_mem _ hz))]; rfl
def ltK2 (x y : Opn) : Bool := decide (lk x.k y.k < 0)
theorem sortQ_map (l : List Opn) : ssort ltQ (l.map opV) = (isort ltK2 l).map opV := by
  rw [← isort_ssort ltQ_weak]
  exact isort_map opV (fun a b => rfl) l
def lstep (y : Int) : List Cyl → Opn → List Cyl
  | [], x => [⟨1, 360 * y, x.k, y, x.a⟩]
  | c :: r, x => if c.k = x.k then { c with a := c.a + x.a } :: r else ⟨(r.length : Int) + 1 + 1, 360 * y, x.k, y, x.a⟩ :: c :: r
def linG (y : Int) : Nat → List Lft → List Cyl
  | _, [] => []
  | n, z :: r => ⟨(n : Int) + 1, 360 * y, z.k, y, z.a⟩ :: linG y (n + 1) r
theorem linG_append (y : Int) : ∀ (q t : List Lft) (n : Nat), linG y n (q ++ t) = linG y n q ++ linG y (n + q.length) t
  | [], t, n => rfl
  | z :: r, t, n => by
    rw [List.cons_append, linG, linG, linG_append y r t (n + 1), List.cons_append, List.length_cons, show n + (r.length + 1) = n + 1 + r.length by omega]
theorem linG_len (y : Int) : ∀ (q : List Lft) (n : Nat), (linG y n q).length = q.length
  | [], _ => rfl
  | z :: r, n => by rw [linG, List.length_cons, linG_len y r, List.length_cons]
theorem snoc_of {α : Type} : ∀ l : List α, l = [] ∨ ∃ q z, l = q ++ [z]
  | [] => .inl rfl
  | x :: r => by
    rcases snoc_of r with rfl | ⟨q, z, rfl⟩
    · exact .inr ⟨[], x, rfl⟩
    · exact .inr ⟨x :: q, z, rfl⟩
theorem lstep_ins (y : Int) {rp : List Cyl} {o : List Lft} {x : Opn} (h : rp.reverse = linG y 0 o) (hs : srtA o) (hv : valA o) (hx : ∀ z, z ∈ o → lk z.k x.k ≤ 0) : (lstep y rp x).reverse = linG y 0 (insA x.k x.a o) := by
  rcases snoc_of o with rfl | ⟨q, z, rfl⟩
  · have : rp = [] := by rw [← List.reverse_reverse rp, h]; rfl
    subst this
    rfl
  · have h1 : ∀ w, w ∈ q → lk w.k z.k < 0 := fun w hw => (List.pairwise_append.1 hs).2.2 w hw z (List.mem_singleton.2 rfl)
    have hz := hx z (List.mem_append_right _ (List.mem_singleton.2 rfl))
    have hzv := hv z (List.mem_append_right _ (List.mem_singleton.2 rfl))
    rw [insA_pass (fun w hw => lk_lt (h1 w hw) hz)]
    have hrp : rp = ⟨(q.length : Int) + 1, 360 * y, z.k, y, z.a⟩ :: (linG y 0 q).reverse := by
      rw [← List.reverse_reverse rp, h, linG_append, List.reverse_append]
      simp [linG]
    subst hrp
    simp only [lstep, insA]
    by_cases e : z.k = x.k
    · rw [if_pos e, if_neg (by rw [e, lk_self]; omega), if_pos e, linG_append, List.reverse_cons, List.reverse_reverse]
      simp [linG, e]
    · have hlt : lk z.k x.k < 0 := by
        have : lk z.k x.k ≠ 0 := fun h0 => e (lk_eq hzv h0)
        omega
      rw [if_neg e, if_pos hlt, linG_append, List.reverse_cons, List.reverse_cons, List.reverse_reverse, List.length_reverse, linG_len]
      simp [linG]
theorem lfold_res (y : Int) : ∀ {s : List Opn} {o : List Lft} {rp : List Cyl}, rp.reverse = linG y 0 o → srtA o → valA o → (∀ x, x ∈ s → valK x.k) → (∀ z, z ∈ o → ∀ x, x ∈ s → lk z.k x.k ≤ 0) → s.Pairwise (fun a b => lk a.k b.k ≤ 0) → (s.foldl (lstep y) rp).reverse = linG y 0 (resG s o)
  | [], o, rp, h, _, _, _, _, _ => h
  | x :: s, o, rp, h, hs, hv, hx, hz, hp => by
    obtain ⟨p1, p2⟩ := List.pairwise_cons.1 hp
    have hk := hx x List.mem_cons_self
    exact lfold_res y (s := s) (o := insA x.k x.a o) (rp := lstep y rp x) (lstep_ins y h hs hv (fun z hz' => hz z hz' x List.mem_cons_self)) (insA_srt hk hs hv) (insA_val hv hk) (fun w hw => hx w (List.mem_cons_of_mem _ hw))
      (fun z hz' w hw => by
        rcases insA_mem hz' with e | h2
        · rw [e]; exact p1 w hw
        · exact hz z h2 w (List.mem_cons_of_mem _ hw)) p2
theorem linR_res (y : Int) {l : List Opn} (hx : ∀ x, x ∈ l → valK x.k) : ((isort ltK2 l).foldl (lstep y) []).reverse = linG y 0 (resA l) := by
  have hp := isort_perm ltK2 l
  rw [resA_perm hp.symm hx]
  refine lfold_res y rfl .nil (fun z hz => by cases hz) (fun x h => hx x (hp.mem_iff.1 h)) (fun z hz => by cases hz) ?_
  have := isort_sorted (lt := ltK2) (S := fun _ => True) (fun a b c _ _ _ h1 h2 => by
    have h1 := of_decide_eq_false h1
    have h2 := of_decide_eq_false h2
    have n1 := lk_neg b.k a.k
    have n2 := lk_neg c.k b.k
    have n3 := lk_neg c.k a.k
    have := lk_le (a := a.k) (b := b.k) (c := c.k)
    exact decide_eq_false (by omega)) (fun a b _ _ h => by
    have h := of_decide_eq_true h
    have := lk_neg a.k b.k
    exact decide_eq_false (by omega)) (l := l) (fun _ _ => trivial)
  refine this.imp (fun {a b} h => ?_)
  have h := of_decide_eq_false h
  have := lk_neg b.k a.k
  omega
end Go.AM
namespace Go.AM
open Go Go.Proofs Go.IntWalk
set_option maxRecDepth 100000
set_option maxHeartbeats 1000000
set_option linter.unusedSimpArgs false
set_option linter.unusedVariables false
def on_pi (p : PV → Int → Prop) (f : PV → Int → PV) : PSpec
  | [a0, .int .i64 a1] => (p a0 a1, f a0 a1)
  | _ => (False, default)
theorem on_pi_eq {p : PV → Int → Prop} {f : PV → Int → PV} {a0 : PV} {a1 : Int} : on_pi p f [a0, .int .i64 a1] = (p a0 a1, f a0 a1) := rfl
theorem on_pi_inv {p : PV → Int → Prop} {f : PV → Int → PV} {args : List PV} (h : (on_pi p f args).1) : ∃ a0 : PV, ∃ a1 : Int, args = [a0, .int .i64 a1] ∧ p a0 a1 := by
  unfold on_pi at h
  split at h
  · exact ⟨_, _, rfl, h⟩
  · exact h.elim
def linF (c : Car) (y : Int) : PV :=
  bif !amg y 1 100 then .tup [.sl [], .int .i64 2] else bif decide (60 < (c.a.length : Int)) then .tup [.sl [], .int .i64 3] else bif (c.a.map opV).any notO then .tup [.sl [], .int .i64 88]
  else bif ((linG y 0 (resA c.a)).map cyV).any notC then .tup [.sl [], .int .i64 2] else .tup [.sl ((linG y 0 (resA c.a)).map cyV), .int .i64 0]
def isCarK (e : PV) : Prop := ∃ x : Car, e = caV x ∧ x.a.length ≤ 1000 ∧ x.b.length ≤ 1000 ∧ x.c.length ≤ 1000 ∧ isOps x.a
theorem lstep_len (y : Int) (rp : List Cyl) (x : Opn) : (lstep y rp x).length ≤ rp.length + 1 := by
  cases rp with
  | nil => simp [lstep]
  | cons c r => simp only [lstep]; split <;> simp
theorem lstep_a (y : Int) {M B : Int} {rp : List Cyl} {x : Opn} (h : ∀ c, c ∈ rp → 0 ≤ c.a ∧ c.a ≤ M) (hx : 0 ≤ x.a ∧ x.a ≤ B) (hM : 0 ≤ M) : ∀ c, c ∈ lstep y rp x → 0 ≤ c.a ∧ c.a ≤ M + B := by
  intro c hc
  cases rp with
  | nil => simp only [lstep, List.mem_singleton] at hc; subst hc; simp only; omega
  | cons d r =>
    have hd := h d List.mem_cons_self
    have hr : ∀ c, c ∈ r → 0 ≤ c.a ∧ c.a ≤ M := fun c hc => h c (List.mem_cons_of_mem _ hc)
    simp only [lstep] at hc
    split at hc
    · rcases List.mem_cons.1 hc with rfl | hc
      · simp only; omega
      · have := hr c hc; omega
    · rcases List.mem_cons.1 hc with rfl | hc
      · simp only; omega
      · rcases List.mem_cons.1 hc with rfl | hc
        · omega
        · have := hr c hc; omega
theorem lfold_a (y : Int) {B : Int} (hB : 0 ≤ B) : ∀ (l : List Opn) (rp : List Cyl) (M : Int), 0 ≤ M → (∀ c, c ∈ rp → 0 ≤ c.a ∧ c.a ≤ M) → (∀ x, x ∈ l → 0 ≤ x.a ∧ x.a ≤ B) → (l.foldl (lstep y) rp).length ≤ rp.length + l.length ∧ ∀ c, c ∈ l.foldl (lstep y) rp → 0 ≤ c.a ∧ c.a ≤ M + l.length * B
  | [], rp, M, _, hr, _ => ⟨Nat.le_refl _, fun c hc => by have := hr c hc; simp only [List.length_nil]; omega⟩
  | x :: l, rp, M, hM, hr, hl => by
    obtain ⟨i1, i2⟩ := lfold_a y hB l (lstep y rp x) (M + B) (by omega) (lstep_a y hr (hl x List.mem_cons_self) hM) (fun z hz => hl z (List.mem_cons_of_mem _ hz))
    have := lstep_len y rp x
    simp only [List.foldl_cons, List.length_cons]
    refine ⟨by omega, fun c hc => ?_⟩
    have := i2 c hc
    simp only [Int.natCast_add, Int.add_mul]; omega
theorem any_notO {l : List Opn} : (l.map opV).any notO = false → ∀ x, x ∈ l → opB x = true := fun h x hx => by
  rw [List.any_eq_false] at h
  have := h (opV x) (List.mem_map.2 ⟨x, hx, rfl⟩)
  simpa [notO, opOf_opV] using this
noncomputable def linesG : PSpec := on_pi (fun c _ => isCarK c) (fun c y => linF (caOf c) y)
theorem k_linesG_32 {args : List PV} : V7 32 args = amongS args := rfl
theorem k_linesG_41 {args : List PV} : V7 41 args = cidxOG args := rfl
theorem k_linesG_42 {args : List PV} : V7 42 args = lin1G args := rfl
theorem k_linesG_44 {args : List PV} : V7 44 args = cmpS2 args := rfl
theorem k_linesG_45 {args : List PV} : V7 45 args = cidxCG args := rfl
theorem k_linesG_46 {args : List PV} : V7 46 args = lin3G args := rfl
theorem w_linesG : PSound GG 19 linesG := by
  refine PSound.of_wpc (C := cxQ Tryz.prog V7 noΘ ΨG [] [] 74) (T := plan0) Tryz.func19 rfl rfl rfl (Fit.all (G := GG) hV7 hnoΘ hΨG mixed) (fun args h => ?_)
  unfold linesG at h
  obtain ⟨c, y, rfl, ⟨ca, bb, cc⟩, rfl, hn, _, _, hop⟩ := on_pi_inv h
  refine ⟨by simp [cxQ], ?_⟩
  simp only at hn hop
  simp only [caOf_caV, linesG, on_pi_eq]
  simp only [caV, carV, linF, List.length_map, k_linesG_32, amongS, on_iii_eq, k_linesG_41, cidxOG, on_lp_eq, k_linesG_42, lin1G, on_p_eq, k_linesG_44, cmpS2, on_pp_eq, k_linesG_45, cidxCG, k_linesG_46, lin3G, ΨG, ΨG1, ΨV, ΨU, ΨT, ΨM, ΨS2, ΨS1, psiRow_eq, psiPut_eq, all_sl, cloneQ, on_l_eq, srtP_eq, List.take_succ_cons, List.take_nil, Tryz.underlying1, sz1, by1, ze1, Tryz.underlying2, sz2, by2, ze2, Tryz.underlying3, sz3, by3, ze3, Tryz.underlying4, sz4, by4, ze4, Tryz.underlying9, sz9, by9, ze9, Tryz.underlying23, sz23, by23, ze23, Tryz.underlying24, sz24, by24, ze24, Tryz.underlying26, sz26, by26, ze26, fa26_0, fa26_1, fa26_2, Tryz.underlying37, sz37, by37, ze37, fa37_0, fa37_1, fa37_2, fa37_3, fa37_4, Tryz.underlying40, sz40, by40, ze40, fa40_0, fa40_1, Tryz.underlying42, sz42, by42, ze42, Tryz.underlying50, sz50, by50, ze50, Tryz.underlying66, sz66, by66, ze66, Tryz.underlying71, sz71, by71, ze71, Tryz.underlying80, sz80, by80, ze80, fa80_0, fa80_1, fa80_2, fa80_3, fa80_4, Tryz.underlying83, sz83, by83, ze83, plan0, Tryz.f19, argL, go_sem, ↓reduceIte, reduceCtorEq, Nat.reduceEqDiff, Nat.reduceLT, ↓all_qV, Int.reduceToNat, Int.reduceLT, Int.reduceLE, Nat.reduceAdd, Nat.reduceLeDiff, Nat.reduceMul, ev_callG, gcallK_b, gcallK_w, callGc_true, callGc_false, List.forall_mem_cons, List.not_mem_nil, PV.one, AV.one]
  refine ⟨fun h1 => by rw [h1]; rfl, fun h1 => ⟨fun h2 => by rw [h1, h2]; rfl, fun h2 => ⟨⟨isOp_map hop, hn⟩, fun h3 => by rw [h1, h2, h3]; rfl, fun h3 => ?_⟩⟩⟩
  rw [h1, h2, h3]
  simp only [cond_false]
  have hy : 1 ≤ y ∧ y ≤ 100 := by
    rw [Bool.not_eq_false'] at h1
    unfold amg at h1
    simp only [Bool.and_eq_true, decide_eq_true_eq] at h1; omega
  have hn60 : ca.length ≤ 60 := by simp only [decide_eq_false_iff_not] at h2; omega
  have hB := any_notO h3
  refine ⟨⟨opV_one, by omega⟩, ⟨by omega, fun e he => ?_⟩, by rw [ssort_length, List.length_map], ?_⟩
  · obtain ⟨x, hx, rfl⟩ := List.mem_map.1 he
    exact ⟨x, rfl, hop x hx, op_parts (hB x hx)⟩
  rw [sortQ_map, ← linR_res y (fun x hx => op_parts (hB x hx))]
  clear h1 h2 h3
  have hsr : (isort ltK2 ca).length = ca.length := isort_length _ _
  have hsx : ∀ x, x ∈ isort ltK2 ca → 0 ≤ x.a ∧ x.a ≤ 1000000000000 := fun x hx => by have := op_amount (hB x ((mem_isort ltK2).1 hx)); omega
  generalize isort ltK2 ca = srt at hsr hsx ⊢
  refine AWp.adoptS (s := 7) (κ := 8000) (k := 5) (by simp [look, upd]) (by simp [hget]) (by decide) ?_
  refine AWp.loop (T := plan0) (α := Nat) (fun i => ([(1, .pv (.int .i64 y)), (7, .rs 8000 ((srt.take i).foldl (lstep y) []).length), (26, .rs 23 srt.length), (27, .pv (.int .i64 srt.length)), (28, .pv (.int .i64 i))],
      [(23, .row 5 (srt.map opV)), (8000, .row 5 (((srt.take i).foldl (lstep y) []).map cyV).reverse)])) (fun i => i ≤ srt.length) (fun i => srt.length - i)
    ⟨0, Nat.zero_le _, ⟨by simp [fitR, look, upd, hsr], by simp [fitH, hget, hset], rfl, rfl, rfl⟩⟩ ?_
  intro i hi
  have hi1 : IntKind.i64.wrap ((i : Int) + 1) = ((i + 1 : Nat) : Int) := by rw [i64_in _ (by omega)]; omega
  obtain ⟨b1, b2⟩ := lfold_a y (B := 1000000000000) (by omega) (srt.take i) [] 0 (by omega) (fun c hc => by cases hc) (fun x h1 => hsx x (List.mem_of_mem_take h1))
  rw [List.length_take, Nat.min_eq_left hi] at b1 b2
  simp only [List.length_nil, Nat.zero_add] at b1
  by_cases hlt : i < srt.length
  · have c0 : decide ((i : Int) < (srt.length : Int)) = true := by simp; omega
    have e1 := getD_op hlt
    have hax := hsx _ (mem_getD' hlt)
    have hst : (srt.take (i + 1)).foldl (lstep y) [] = lstep y ((srt.take i).foldl (lstep y) []) (srt.getD i default) := by
      rw [take_succ' hlt, List.foldl_append]; rfl
    generalize (srt.take i).foldl (lstep y) [] = rp at b1 b2 hst ⊢
    generalize srt.getD i default = x at e1 hax hst
    obtain ⟨o, c, k, yx, a⟩ := x
    simp only [opV] at e1
    simp only at hax
    have w36 : IntKind.i64.wrap (360 * y) = 360 * y := i64_in _ (by omega)
    cases rp with
    | nil =>
      have hdef : (default : PV) = .bool false := rfl
      have hz : (binT Tryz.prog .neq 9 false (.pv (.bool false)) (.pv (.str k))).2 = .pv (.bool true) := rfl
      simp only [hdef] at e1
      have w1 : IntKind.i64.wrap (0 + 1) = 1 := by decide
      have w2 : IntKind.i64.wrap (1 - 1) = 0 := by decide
      have w3 : IntKind.i64.wrap (0 + a) = a := by rw [Int.zero_add]; exact i64_in _ (by omega)
      simp only [c0, e1, hi1, w1, w2, w3, w36, List.getD_nil, hdef, hz, List.map_nil, List.reverse_nil, boxP, putP, List.length_map, k_linesG_32, amongS, on_iii_eq, k_linesG_41, cidxOG, on_lp_eq, k_linesG_42, lin1G, on_p_eq, k_linesG_44, cmpS2, on_pp_eq, k_linesG_45, cidxCG, k_linesG_46, lin3G, ΨG, ΨG1, ΨV, ΨU, ΨT, ΨM, ΨS2, ΨS1, psiRow_eq, psiPut_eq, all_sl, cloneQ, on_l_eq, srtP_eq, List.take_succ_cons, List.take_nil, Tryz.underlying1, sz1, by1, ze1, Tryz.underlying2, sz2, by2, ze2, Tryz.underlying3, sz3, by3, ze3, Tryz.underlying4, sz4, by4, ze4, Tryz.underlying9, sz9, by9, ze9, Tryz.underlying23, sz23, by23, ze23, Tryz.underlying24, sz24, by24, ze24, Tryz.underlying26, sz26, by26, ze26, fa26_0, fa26_1, fa26_2, Tryz.underlying37, sz37, by37, ze37, fa37_0, fa37_1, fa37_2, fa37_3, fa37_4, Tryz.underlying40, sz40, by40, ze40, fa40_0, fa40_1, Tryz.underlying42, sz42, by42, ze42, Tryz.underlying50, sz50, by50, ze50, Tryz.underlying66, sz66, by66, ze66, Tryz.underlying71, sz71, by71, ze71, Tryz.underlying80, sz80, by80, ze80, fa80_0, fa80_1, fa80_2, fa80_3, fa80_4, Tryz.underlying83, sz83, by83, ze83, plan0, go_sem, ↓reduceIte, reduceCtorEq, Nat.reduceEqDiff, Nat.reduceLT, ↓all_qV, Int.reduceToNat, Int.reduceLT, Int.reduceLE, Nat.reduceAdd, Nat.reduceLeDiff, Nat.reduceMul, ev_callG, gcallK_b, gcallK_w, callGc_true, callGc_false, List.forall_mem_cons, List.not_mem_nil, PV.one, AV.one]
      exact ⟨⟨by omega, by omega⟩, hlt, by kernel_rfl, rfl, by simp only [maxLen]; omega, by kernel_rfl, i + 1, by omega, by omega, ⟨by simp [fitR, look, hst, lstep], by rw [hst]; simp [fitH, hget, cyV, lstep], rfl, rfl, rfl⟩⟩
    | cons d r =>
      obtain ⟨n0, d0, k0, y0, a0⟩ := d
      have hd := b2 _ List.mem_cons_self
      simp only at hd
      simp only [List.length_cons] at b1
      have w1 : IntKind.i64.wrap (((r.length + 1 : Nat) : Int) - 1) = (r.length : Int) := by rw [i64_in _ (by omega)]; omega
      have w0 : (((r.length + 1 : Nat) : Int) == 0) = false := by simp; omega
      have w2 : IntKind.i64.wrap (((r.length + 1 : Nat) : Int) + 1) = (r.length : Int) + 1 + 1 := by rw [i64_in _ (by omega)]; omega
      have w4 : IntKind.i64.wrap (((r.length + 1 + 1 : Nat) : Int) - 1) = ((r.length + 1 : Nat) : Int) := by rw [i64_in _ (by omega)]; omega
      have w3 : IntKind.i64.wrap (0 + a) = a := by rw [Int.zero_add]; exact i64_in _ (by omega)
      have w5 : IntKind.i64.wrap (a0 + a) = a0 + a := i64_in _ (by omega)
      have hR : ((⟨n0, d0, k0, y0, a0⟩ :: r).map cyV).reverse = (r.map cyV).reverse ++ [cyV ⟨n0, d0, k0, y0, a0⟩] := by simp
      have e3 : ((r.map cyV).reverse ++ [cyV ⟨n0, d0, k0, y0, a0⟩]).getD r.length default = cyV ⟨n0, d0, k0, y0, a0⟩ := by
        have := getD_snoc1 (q := r.map cyV) (y := cyV ⟨n0, d0, k0, y0, a0⟩) (t := []); rwa [List.length_map] at this
      have e4 : ∀ v, ((r.map cyV).reverse ++ [cyV ⟨n0, d0, k0, y0, a0⟩]).set r.length v = (r.map cyV).reverse ++ [v] := fun v => by
        rw [List.set_append, if_neg (by simp)]; simp
      have hRl : ((r.map cyV).reverse ++ [cyV ⟨n0, d0, k0, y0, a0⟩]).length = r.length + 1 := by simp
      have e5 : ∀ v, ((r.map cyV).reverse ++ [cyV ⟨n0, d0, k0, y0, a0⟩] ++ [v]).getD (r.length + 1) default = v := fun v => by
        simp [List.getD_eq_getElem?_getD, List.getElem?_append]
      have e6 : ∀ u v, ((r.map cyV).reverse ++ [cyV ⟨n0, d0, k0, y0, a0⟩] ++ [u]).set (r.length + 1) v = (r.map cyV).reverse ++ [cyV ⟨n0, d0, k0, y0, a0⟩] ++ [v] := fun u v => by
        rw [List.set_append, if_neg (by simp)]; simp
      rw [hR]
      generalize hRe : (r.map cyV).reverse ++ [cyV ⟨n0, d0, k0, y0, a0⟩] = R at e3 e4 hRl e5 e6 ⊢
      have tk : R.take (r.length + 1) = R := List.take_of_length_le (by omega)
      simp only [cyV] at e3
      simp only [c0, e1, e3, e4, e5, e6, tk, hi1, w0, w1, w2, w3, w4, w5, w36, boxP, putP, List.length_map, k_linesG_32, amongS, on_iii_eq, k_linesG_41, cidxOG, on_lp_eq, k_linesG_42, lin1G, on_p_eq, k_linesG_44, cmpS2, on_pp_eq, k_linesG_45, cidxCG, k_linesG_46, lin3G, ΨG, ΨG1, ΨV, ΨU, ΨT, ΨM, ΨS2, ΨS1, psiRow_eq, psiPut_eq, all_sl, cloneQ, on_l_eq, srtP_eq, List.take_succ_cons, List.take_nil, Tryz.underlying1, sz1, by1, ze1, Tryz.underlying2, sz2, by2, ze2, Tryz.underlying3, sz3, by3, ze3, Tryz.underlying4, sz4, by4, ze4, Tryz.underlying9, sz9, by9, ze9, Tryz.underlying23, sz23, by23, ze23, Tryz.underlying24, sz24, by24, ze24, Tryz.underlying26, sz26, by26, ze26, fa26_0, fa26_1, fa26_2, Tryz.underlying37, sz37, by37, ze37, fa37_0, fa37_1, fa37_2, fa37_3, fa37_4, Tryz.underlying40, sz40, by40, ze40, fa40_0, fa40_1, Tryz.underlying42, sz42, by42, ze42, Tryz.underlying50, sz50, by50, ze50, Tryz.underlying66, sz66, by66, ze66, Tryz.underlying71, sz71, by71, ze71, Tryz.underlying80, sz80, by80, ze80, fa80_0, fa80_1, fa80_2, fa80_3, fa80_4, Tryz.underlying83, sz83, by83, ze83, plan0, go_sem, ↓reduceIte, reduceCtorEq, Nat.reduceEqDiff, Nat.reduceLT, ↓all_qV, Int.reduceToNat, Int.reduceLT, Int.reduceLE, Nat.reduceAdd, Nat.reduceLeDiff, Nat.reduceMul, ev_callG, gcallK_b, gcallK_w, callGc_true, callGc_false, List.forall_mem_cons, List.not_mem_nil, PV.one, AV.one]
      and_intros
      all_goals try first | (show checkD _ _ _ = true; kernel_rfl) | omega | (intros; omega) | rfl | trivial | assumption
      · intro h9
        have hk : ¬ k0 = k := by simpa using h9
        refine ⟨rfl, by omega, by omega, by simp only [maxLen]; omega, by kernel_rfl, ⟨by omega, by omega⟩, by simp; omega, ⟨by omega, by omega⟩, by simp; omega, i + 1, by omega, by omega, ⟨by simp [fitR, look, hst, lstep, hk], ?_, rfl, rfl, rfl⟩⟩
        rw [hst, lstep, if_neg hk, ← hRe]
        simp [fitH, hget, cyV]
      · intro h9
        have hk : k0 = k := by simpa using h9
        refine ⟨by kernel_rfl, ⟨by omega, by omega⟩, by omega, ⟨by omega, by omega⟩, by omega, i + 1, by omega, by omega, ⟨by simp [fitR, look, hst, lstep, hk], ?_, rfl, rfl, rfl⟩⟩
        rw [hst, lstep, if_pos hk]
        simp [fitH, hget, cyV]
  · have c0 : decide ((i : Int) < (srt.length : Int)) = false := by simp; omega
    rw [List.take_of_length_le (by omega)] at b1 b2 ⊢
    generalize srt.foldl (lstep y) [] = rp at b1 b2 ⊢
    have tk : (rp.map cyV).reverse.take rp.length = (rp.map cyV).reverse := List.take_of_length_le (by simp)
    have hrl : ((rp.map cyV).reverse).length = rp.length := by simp
    have hC : ∀ e, e ∈ (rp.map cyV).reverse → isCy e := by
      intro e he
      obtain ⟨c, h1, rfl⟩ := List.mem_map.1 (List.mem_reverse.1 he)
      exact ⟨c, rfl⟩
    rw [List.map_reverse]
    generalize (rp.map cyV).reverse = O at tk hC hrl ⊢
    have hil : i = srt.length := by omega
    simp only [c0, tk, hrl, List.length_map, k_linesG_32, amongS, on_iii_eq, k_linesG_41, cidxOG, on_lp_eq, k_linesG_42, lin1G, on_p_eq, k_linesG_44, cmpS2, on_pp_eq, k_linesG_45, cidxCG, k_linesG_46, lin3G, ΨG, ΨG1, ΨV, ΨU, ΨT, ΨM, ΨS2, ΨS1, psiRow_eq, psiPut_eq, all_sl, cloneQ, on_l_eq, srtP_eq, List.take_succ_cons, List.take_nil, Tryz.underlying1, sz1, by1, ze1, Tryz.underlying2, sz2, by2, ze2, Tryz.underlying3, sz3, by3, ze3, Tryz.underlying4, sz4, by4, ze4, Tryz.underlying9, sz9, by9, ze9, Tryz.underlying23, sz23, by23, ze23, Tryz.underlying24, sz24, by24, ze24, Tryz.underlying26, sz26, by26, ze26, fa26_0, fa26_1, fa26_2, Tryz.underlying37, sz37, by37, ze37, fa37_0, fa37_1, fa37_2, fa37_3, fa37_4, Tryz.underlying40, sz40, by40, ze40, fa40_0, fa40_1, Tryz.underlying42, sz42, by42, ze42, Tryz.underlying50, sz50, by50, ze50, Tryz.underlying66, sz66, by66, ze66, Tryz.underlying71, sz71, by71, ze71, Tryz.underlying80, sz80, by80, ze80, fa80_0, fa80_1, fa80_2, fa80_3, fa80_4, Tryz.underlying83, sz83, by83, ze83, plan0, go_sem, ↓reduceIte, reduceCtorEq, Nat.reduceEqDiff, Nat.reduceLT, ↓all_qV, Int.reduceToNat, Int.reduceLT, Int.reduceLE, Nat.reduceAdd, Nat.reduceLeDiff, Nat.reduceMul, ev_callG, gcallK_b, gcallK_w, callGc_true, callGc_false, List.forall_mem_cons, List.not_mem_nil, PV.one, AV.one]
    exact ⟨⟨Nat.le_refl _, hC, by omega⟩, fun h1 => by rw [h1]; rfl, fun h1 => ⟨Nat.le_refl _, by rw [h1]; rfl⟩⟩
noncomputable def V8 (g : FuncId) : PSpec := (putΦ V7 19 linesG) g
theorem hV8 : TabSound GG V8 := (hV7.put w_linesG)
end Go.AM
