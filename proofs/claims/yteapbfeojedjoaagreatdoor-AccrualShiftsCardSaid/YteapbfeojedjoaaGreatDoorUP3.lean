/-
  A part of a proof: see the last text of this claim for what is proved.
-/
import Derived.Test.YteapbfeojedjoaaGreatDoorU2h
import Derived.Test.YteapbfeojedjoaaGreatDoorZMa
namespace Go.AM
open Go Go.Proofs Go.IntWalk
set_option maxRecDepth 100000
set_option maxHeartbeats 1000000
set_option linter.unusedSimpArgs false
set_option linter.unusedVariables false
theorem idx_all : ∀ (es : List PV) (i : Int), (∀ e, e ∈ es → clB e = true) → idxF es i = -1
  | [], i, _ => rfl
  | x :: r, i, h => by
    unfold idxF
    rw [h x List.mem_cons_self]
    exact idx_all r (i + 1) (fun e he => h e (List.mem_cons_of_mem _ he))
theorem cls_of {es : List PV} (hn : es.length ≤ 60) (h : ∀ e, e ∈ es → clB e = true) : clsF es = 0 := by
  unfold clsF
  rw [show decide (60 < (es.length : Int)) = false from decide_eq_false (by omega), idx_all es 0 h]
  rfl
theorem prov_of {es : List PV} {day : Int} (hn : es.length ≤ 60) (h : ∀ e, e ∈ es → clB e = true) (hd : 0 ≤ day ∧ day ≤ 36000) : provF es day = (sumI (es.map (setF day)), 0) := by
  unfold provF
  rw [cls_of hn h, show amg day 0 36000 = true by unfold amg; simp; omega]
  rfl
theorem ack_of {c : Clo} (hn : c.cl.length ≤ 60) (h : ∀ e, e ∈ c.cl → clB e = true) (hi : 0 ≤ c.i ∧ c.i ≤ 1000) (hu : 0 ≤ c.u ∧ c.u ≤ 1000) (hp : 0 ≤ c.p ∧ c.p ≤ 1000) : ackF c = 0 := by
  unfold ackF
  rw [cls_of hn h, show vldM c.i = true by unfold vldM; simp; omega, show vldM c.u = true by unfold vldM; simp; omega, show vldM c.p = true by unfold vldM; simp; omega]
  rfl
theorem set_open (day : Int) : ∀ es : List PV, (∀ e, e ∈ es → clG e) → 0 ≤ sumI (es.map (setF day)) ∧ sumI (es.map (setF day)) ≤ sumI (es.map openF) ∧ sumI (es.map openF) ≤ 250 * es.length
  | [], _ => by simp [sumI]
  | e :: r, h => by
    have ih := set_open day r (fun x hx => h x (List.mem_cons_of_mem _ hx))
    obtain ⟨⟨id, pa, am, op, d, c, rfl, hcl⟩, h2, h3⟩ := h e List.mem_cons_self
    obtain ⟨k1, k2, k3, k4, k5⟩ := set_le day h2
    have e1 : setF day (claimV id pa am op d c) = op * pctF (day - d) / 100 := k3
    have e2 : openF (claimV id pa am op d c) = op := rfl
    rw [e2] at h3
    have hp := pct_le (day - d)
    have h4 : op * pctF (day - d) ≤ op * 100 := Int.mul_le_mul_of_nonneg_left hp.2 k1.1
    simp only [List.map_cons, sumI, List.length_cons, e1, e2, Int.natCast_add, Int.mul_add]
    omega
theorem bal_small (en fr to a : Int) : ∀ l : List Pst, (∀ x, x ∈ l → 0 ≤ x.am ∧ x.am ≤ 1000) → -(l.length * 1000 : Int) ≤ balF en fr to a l ∧ balF en fr to a l ≤ l.length * 1000
  | [], _ => by simp [balF]
  | x :: r, h => by
    have ih := bal_small en fr to a r (fun y hy => h y (List.mem_cons_of_mem _ hy))
    have hx := h x List.mem_cons_self
    simp only [balF, List.length_cons, Int.natCast_add, Int.add_mul]
    cases cntB en fr to x with
    | false => simp only [cond_false]; omega
    | true =>
      simp only [cond_true]
      split <;> split <;> omega
theorem accOf_ok {l : List Pst} {en ac d : Int} (h : lkF l = 0) : accOf l en ac d = balF en 0 d ac l := by unfold accOf; rw [h]; rfl
theorem rof_ok {l : List Pst} {en ac d : Int} (h : lkF l = 0) (hac : clsI ac ≠ 0) : rofF l en ac d = balF en 0 d ac l := by
  unfold rofF; rw [h, show (clsI ac == 0) = false by simpa using hac]; rfl
theorem acc_small {ents days : Int} {l : List Pst} (h : ledG ents days l) (hn : l.length ≤ 10) (en ac d : Int) : -10000 ≤ accOf l en ac d ∧ accOf l en ac d ≤ 10000 := by
  rw [accOf_ok h.1]
  have := bal_small en 0 d ac l (fun x hx => by
    have h1 := pB_parts ((lkF_ok h.1).2.1 x hx)
    have h2 := h.2 x hx
    omega)
  omega
theorem addP_zero {n en day db cr re : Int} {o : List Pst} : addP n en day db cr 0 re o = o := by simp [addP, postL]
theorem clG_clB {es : List PV} (h : ∀ e, e ∈ es → clG e) : ∀ e, e ∈ es → clB e = true := fun e he => (h e he).2.1
/-- Closing a made ledger: what comes of it. -/
theorem close_made {ents : Int} {l : List Pst} {c : Clo} {en : Int} (hl : ledG ents 700 l) (hn : l.length ≤ 10) (hc : cloG c) (he : 1 ≤ en ∧ en ≤ 10) :
    cloF l en 719 c = (l ++ outA l en 719 c, 0) ∧ lkF (l ++ outA l en 719 c) = 0 := by
  obtain ⟨h1, h2, h3, h4, h5⟩ := hc
  have hs := set_open 719 c.cl h5
  have hp := prov_of (day := 719) (by omega) (clG_clB h5) (by omega)
  have a1 := acc_small hl hn en 120 719
  have a2 := acc_small hl hn en 119 719
  have := adj_ok (l := l) (en := en) (day := 719) (c := c) hl.1 (by omega) (ack_of (by omega) (clG_clB h5) (by omega) (by omega) (by omega)) he (by omega) (by omega) (fun x hx => by have := (hl.2 x hx).1; omega) (by rw [hp])
    (by unfold small12; omega) (by unfold small12; omega) (by unfold small12; omega) (by unfold small12; omega) (by rw [hp]; unfold small12; simp only; omega)
  refine ⟨?_, this.2⟩
  unfold cloF; rw [this.1]; rfl
theorem claims_plain {l : List Pst} {c : Clo} (hl : ledG 2 700 l) (hn : l.length ≤ 10) (hc : cloG c) :
    ∃ X n, cloF l 1 719 c = (X, 0) ∧ cloF X 1 719 ⟨0, 0, 0, c.cl⟩ = (X, 0) ∧ provF c.cl 719 = (n, 0) ∧ rofF X 1 120 719 = sumI (c.cl.map openF) ∧ rofF X 1 119 719 = -n ∧ lkF X = 0 ∧ (0 ≤ n ∧ n ≤ sumI (c.cl.map openF) ∧ sumI (c.cl.map openF) ≤ 1250) ∧ X.length ≤ 15 := by
  obtain ⟨r1, r2⟩ := close_made hl hn hc (en := 1) (by omega)
  have hol := outA_len (l := l) (en := 1) (day := 719) (c := c)
  obtain ⟨h1, h2, h3, h4, h5⟩ := hc
  have hs := set_open 719 c.cl h5
  have hp := prov_of (day := 719) (by omega) (clG_clB h5) (by omega)
  have hb : ∀ a, balF 1 0 719 a (l ++ outA l 1 719 c) = balF 1 0 719 a l + (signA a 520 220 c.i + signA a 510 210 c.u + signA a 130 510 c.p + signA a 120 420 (sumI (c.cl.map openF) - accOf l 1 120 719) + signA a 119 530 (-(provF c.cl 719).1 - accOf l 1 119 719)) := fun a => by
    rw [bal_app, bal_outA]; rfl
  have b1 : balF 1 0 719 120 (l ++ outA l 1 719 c) = sumI (c.cl.map openF) := by
    rw [hb, accOf_ok hl.1, accOf_ok hl.1]; simp [signA]; omega
  have b2 : balF 1 0 719 119 (l ++ outA l 1 719 c) = -(provF c.cl 719).1 := by
    rw [hb, accOf_ok hl.1, accOf_ok hl.1]; simp [signA]; omega
  generalize hX : l ++ outA l 1 719 c = X at r1 r2 b1 b2
  have hXl : X.length ≤ 15 := by rw [← hX, List.length_append]; omega
  have ho : outA X 1 719 ⟨0, 0, 0, c.cl⟩ = [] := by
    unfold outA
    simp only [accOf_ok r2, b1, b2, Int.sub_self, addP_zero]
  have hXd : ∀ x, x ∈ X → x.d ≤ 719 := by
    intro x hx
    rw [← hX] at hx
    rcases List.mem_append.1 hx with hx | hx
    · have := (hl.2 x hx).1; omega
    · obtain ⟨i, hi, rfl⟩ := List.getElem_of_mem hx
      have a1 := acc_small hl hn 1 120 719
      have a2 := acc_small hl hn 1 119 719
      have hg := outA_good (l := l) (en := 1) (day := 719) (c := c) (by omega) (by omega) (by omega) (by unfold small12; omega) (by unfold small12; omega) (by unfold small12; omega) (by unfold small12; omega) (by rw [hp]; unfold small12; simp only; omega)
      rw [(hg i _ (List.getElem?_eq_getElem hi)).2.1]; omega
  have r3 := adj_ok (l := X) (en := 1) (day := 719) (c := ⟨0, 0, 0, c.cl⟩) r2 (by omega) (ack_of (by simp only; omega) (clG_clB h5) (by simp only; omega) (by simp only; omega) (by simp only; omega)) (by omega) (by omega) (by omega) hXd (by rw [hp])
    (by unfold small12; simp only; omega) (by unfold small12; simp only; omega) (by unfold small12; simp only; omega) (by rw [accOf_ok r2, b1]; unfold small12; simp only; omega) (by rw [accOf_ok r2, b2]; unfold small12; simp only; omega)
  rw [ho] at r3
  refine ⟨X, (provF c.cl 719).1, r1, ?_, by rw [hp], ?_, ?_, r2, ?_, hXl⟩
  · unfold cloF; rw [r3.1]; simp
  · rw [rof_ok r2 (by decide), b1]
  · rw [rof_ok r2 (by decide), b2]
  · rw [hp]; simp only; omega
end Go.AM
namespace Go.AM
open Go Go.Proofs Go.IntWalk
set_option maxRecDepth 100000
set_option maxHeartbeats 4000000
set_option linter.unusedSimpArgs false
set_option linter.unusedVariables false
def on_pii (p : PV → Int → Int → Prop) (f : PV → Int → Int → PV) : PSpec
  | [a0, .int .i64 a1, .int .i64 a2] => (p a0 a1 a2, f a0 a1 a2)
  | _ => (False, default)
theorem on_pii_eq {p : PV → Int → Int → Prop} {f : PV → Int → Int → PV} {a0 : PV} {a1 : Int} {a2 : Int} : on_pii p f [a0, .int .i64 a1, .int .i64 a2] = (p a0 a1 a2, f a0 a1 a2) := rfl
theorem on_pii_inv {p : PV → Int → Int → Prop} {f : PV → Int → Int → PV} {args : List PV} (h : (on_pii p f args).1) : ∃ a0 : PV, ∃ a1 : Int, ∃ a2 : Int, args = [a0, .int .i64 a1, .int .i64 a2] ∧ p a0 a1 a2 := by
  unfold on_pii at h
  split at h
  · exact ⟨_, _, _, rfl, h⟩
  · exact h.elim
abbrev Bal := Int × Int
def balV (x : Bal) : PV := .agg [.int .i64 x.1, .int .i64 x.2]
def balOf : PV → Bal
  | .agg [.int _ a, .int _ n] => (a, n)
  | _ => (0, 0)
theorem map_balOf (l : List Bal) : (l.map balV).map balOf = l := by rw [List.map_map]; exact List.map_id' l
theorem getD_bal {l : List Bal} {i : Nat} (h : i < l.length) : (l.map balV).getD i default = balV (l.getD i default) := by
  simp [List.getD_eq_getElem?_getD, h]
def listF : Nat → List Int → List Bal
  | _, [] => []
  | i, n :: r => bif n != 0 then ((i : Int) + 100, n) :: listF (i + 1) r else listF (i + 1) r
theorem listF_app : ∀ (i : Nat) (a b : List Int), listF i (a ++ b) = listF i a ++ listF (i + a.length) b
  | i, [], b => by simp [listF]
  | i, n :: r, b => by
    rw [List.cons_append, listF, listF, listF_app (i + 1) r b, List.length_cons, show i + 1 + r.length = i + (r.length + 1) by omega]
    cases n != 0 <;> rfl
theorem listF_len : ∀ (i : Nat) (a : List Int), (listF i a).length ≤ a.length
  | i, [] => by simp [listF]
  | i, n :: r => by
    rw [listF]
    have := listF_len (i + 1) r
    cases n != 0 with
    | true => simp only [cond_true, List.length_cons]; omega
    | false => simp only [cond_false, List.length_cons]; omega
theorem listF_step {s : List Int} {i : Nat} (h : i < s.length) : listF 0 (s.take (i + 1)) = listF 0 (s.take i) ++ (bif s.getD i 0 != 0 then [((i : Int) + 100, s.getD i 0)] else []) := by
  have e : s.take (i + 1) = s.take i ++ [s.getD i 0] := by
    rw [List.take_add_one, List.getD_eq_getElem?_getD, List.getElem?_eq_getElem h]; rfl
  rw [e, listF_app]
  congr 1
  rw [List.length_take, Nat.min_eq_left (by omega), Nat.zero_add]
  simp only [listF]
def arrOf : PV → List Int
  | .agg cs => cs.map nOfI
  | _ => []
theorem arrOf_arr {s : List Int} : arrOf (.agg (arrP s)) = s := by
  show (arrP s).map nOfI = s
  unfold arrP; rw [List.map_map]; exact List.map_id' s
theorem arrV_refs {H : AHeap} : ∀ {s : List Int}, AV.refsInL H (arrV s) = true
  | [] => rfl
  | x :: r => by show (true && AV.refsInL H (arrV r)) = true; rw [arrV_refs]; rfl
noncomputable def rlstS : PSpec := on_p (fun e => ∃ s : List Int, e = .agg (arrP s) ∧ s.length = 500) (fun e => .sl ((listF 0 (arrOf e)).map balV))
theorem w_rlstS : PSound GG 35 rlstS := by
  refine PSound.of_wpc (C := cxP Tryz.prog AH [] 22) (T := plan0) Tryz.func35 rfl rfl rfl (Fit.pure (G := GG) hAH mixed) (fun args h => ?_)
  unfold rlstS at h
  obtain ⟨e, rfl, hp⟩ := on_p_inv h
  refine ⟨by simp [cxP], ?_⟩
  simp only [rlstS, on_p_eq, Tryz.f35, argL, plan0]
  obtain ⟨s, rfl, hs⟩ := hp
  simp only [arrOf_arr, arrP_av, arrV_one, arrV_len, arrP_len, arrP_take hs, arrV_take hs, hs, Tryz.underlying1, sz1, by1, ze1, Tryz.underlying3, sz3, by3, ze3, Tryz.underlying4, sz4, by4, ze4, Tryz.underlying46, sz46, by46, ze46, Tryz.underlying68, sz68, by68, Tryz.underlying72, sz72, by72, ze72, fa72_0, fa72_1, go_sem, ↓reduceIte, reduceCtorEq, Nat.reduceEqDiff, Nat.reduceLT, ↓all_qV, Int.reduceToNat, Int.reduceLT, Int.reduceLE, Nat.reduceAdd, Nat.reduceLeDiff, Nat.reduceMul]
  refine AWp.adoptS (s := 3) (κ := 8000) (k := 2) (by simp [look]) rfl (by decide) ?_
  refine AWp.loop (T := plan0) (α := Nat) (fun i => ([(3, .rs 8000 (listF 0 (s.take i)).length), (6, .agg (arrV s)), (7, .pv (.int .i64 i))], [(8000, .row 2 ((listF 0 (s.take i)).map balV))]))
    (fun i => i ≤ 500) (fun i => 500 - i)
    ⟨0, Nat.zero_le _, ⟨by simp [fitR, look, upd, listF], by simp [fitH, hget, hset, listF], by simp [refsR, AV.refsIn, arrV_refs, hget], rfl, rfl⟩⟩ ?_
  intro i hi
  have hi1 : IntKind.i64.wrap ((i : Int) + 1) = ((i + 1 : Nat) : Int) := by rw [i64_in _ (by omega)]; omega
  by_cases hlt : i < 500
  · have c0 : decide ((i : Int) < 500) = true := by simp; omega
    have g1 := arrV_get (s := s) (i := i) (by omega)
    have hst := listF_step (s := s) (i := i) (by omega)
    have hll := listF_len 0 (s.take i)
    rw [List.length_take] at hll
    have w1 : IntKind.i64.wrap ((i : Int) + 100) = (i : Int) + 100 := i64_in _ (by omega)
    generalize s.getD i 0 = n at g1 hst
    generalize listF 0 (s.take i) = L at hst hll ⊢
    have tk : (L.map balV).take L.length = L.map balV := List.take_of_length_le (by rw [List.length_map]; exact Nat.le_refl _)
    simp only [c0, hi1, g1, w1, tk, indexA, Nat.mul_one, arrV_len, hs, List.length_map, Int.toNat_natCast, List.take_succ_cons, List.take_nil, Tryz.underlying1, sz1, by1, ze1, Tryz.underlying3, sz3, by3, ze3, Tryz.underlying4, sz4, by4, ze4, Tryz.underlying46, sz46, by46, ze46, Tryz.underlying68, sz68, by68, Tryz.underlying72, sz72, by72, ze72, fa72_0, fa72_1, plan0, go_sem, ↓reduceIte, reduceCtorEq, Nat.reduceEqDiff, Nat.reduceLT, ↓all_qV, Int.reduceToNat, Int.reduceLT, Int.reduceLE, Nat.reduceAdd, Nat.reduceLeDiff, Nat.reduceMul, ev_callG, gcallK_b, gcallK_w, callGc_true, callGc_false]
    refine ⟨⟨by omega, by omega, by omega⟩, fun h9 => ⟨rfl, fun e he => by rw [List.mem_singleton] at he; subst he; rfl, Nat.le_refl _, by omega, by simp only [maxLen]; omega, i + 1, by omega, by omega, ⟨?_, ?_, by simp [refsR, AV.refsIn, arrV_refs, hget], rfl, rfl⟩⟩, fun h9 => ⟨i + 1, by omega, by omega, ⟨?_, ?_, by simp [refsR, AV.refsIn, arrV_refs, hget], rfl, rfl⟩⟩⟩
    · rw [hst, h9]; simp [fitR, look, arrV_kill]
    · rw [hst, h9]; simp [fitH, hget, balV]
    · rw [hst, h9]; simp [fitR, look]
    · rw [hst, h9]; simp [fitH, hget]
  · have c0 : decide ((i : Int) < 500) = false := by simp; omega
    rw [List.take_of_length_le (show s.length ≤ i by omega)]
    have tk : ((listF 0 s).map balV).take (listF 0 s).length = (listF 0 s).map balV := List.take_of_length_le (by rw [List.length_map]; exact Nat.le_refl _)
    simp only [c0, tk, List.length_map, Tryz.underlying1, sz1, by1, ze1, Tryz.underlying3, sz3, by3, ze3, Tryz.underlying4, sz4, by4, ze4, Tryz.underlying46, sz46, by46, ze46, Tryz.underlying68, sz68, by68, Tryz.underlying72, sz72, by72, ze72, fa72_0, fa72_1, plan0, go_sem, ↓reduceIte, reduceCtorEq, Nat.reduceEqDiff, Nat.reduceLT, ↓all_qV, Int.reduceToNat, Int.reduceLT, Int.reduceLE, Nat.reduceAdd, Nat.reduceLeDiff, Nat.reduceMul, ev_callG, gcallK_b, gcallK_w, callGc_true, callGc_false]
    exact Nat.le_refl _
theorem keyBal {a b : Bal} : keyEqL [.int .i64 a.1, .int .i64 a.2] [.int .i64 b.1, .int .i64 b.2] = decide (a = b) := by
  rw [Bool.eq_iff_iff]
  cases a; cases b
  simp [keyEqL, keyEq1]
noncomputable def rlsS : PSpec := on_ll (fun a b => (∃ l : List Bal, a = l.map balV) ∧ (∃ l : List Bal, b = l.map balV) ∧ a.length ≤ 1000000 ∧ b.length ≤ 1000000) (fun a b => .bool (decide (a.map balOf = b.map balOf)))
theorem w_rlsS : PSound GG 16 rlsS := by
  refine PSound.of_wpc (C := cxP Tryz.prog AH [] 26) (T := plan0) Tryz.func16 rfl rfl rfl (Fit.pure (G := GG) hAH mixed) (fun args h => ?_)
  unfold rlsS at h
  obtain ⟨a, b, rfl, hp⟩ := on_ll_inv h
  refine ⟨by simp [cxP], ?_⟩
  simp only [rlsS, on_ll_eq, Tryz.f16, argL, plan0]
  obtain ⟨⟨a, rfl⟩, ⟨b, rfl⟩, hla, hlb⟩ := hp
  rw [List.length_map] at hla hlb
  simp only [map_balOf, List.length_map, Tryz.underlying3, sz3, by3, ze3, Tryz.underlying4, sz4, by4, ze4, Tryz.underlying46, sz46, by46, ze46, Tryz.underlying72, sz72, by72, ze72, fa72_0, fa72_1, go_sem, ↓reduceIte, reduceCtorEq, Nat.reduceEqDiff, Nat.reduceLT, ↓all_qV, Int.reduceToNat, Int.reduceLT, Int.reduceLE, Nat.reduceAdd, Nat.reduceLeDiff, Nat.reduceMul]
  refine ⟨fun h1 => ?_, fun h1 => ?_⟩
  · have h1 : ¬ a.length = b.length := by simp at h1; omega
    have : ¬ a = b := fun e => h1 (by rw [e])
    simp [this]
  have hl : a.length = b.length := by simp at h1; omega
  refine AWp.loop (T := plan0) (α := Nat) (fun i => ([(0, .pv (.sl (a.map balV))), (1, .pv (.sl (b.map balV))), (12, .pv (.int .i64 a.length)), (13, .pv (.int .i64 i))], []))
    (fun i => i ≤ a.length ∧ a.take i = b.take i) (fun i => a.length - i)
    ⟨0, ⟨Nat.zero_le _, rfl⟩, ⟨by simp [fitR, look], trivial, rfl, rfl, rfl⟩⟩ ?_
  rintro i ⟨hi, hab⟩
  have hi1 : IntKind.i64.wrap ((i : Int) + 1) = ((i + 1 : Nat) : Int) := by rw [i64_in _ (by omega)]; omega
  by_cases hlt : i < a.length
  · have c0 : decide ((i : Int) < (a.length : Int)) = true := by simp; omega
    have e1 := getD_bal hlt
    have e2 := getD_bal (l := b) (i := i) (by omega)
    have t1 := take_succ' hlt
    have t2 := take_succ' (l := b) (i := i) (by omega)
    have g1 : a = b → a.getD i default = b.getD i default := fun e => by rw [e]
    generalize a.getD i default = x at e1 t1 g1
    generalize b.getD i default = y at e2 t2 g1
    have hk := keyBal (a := x) (b := y)
    obtain ⟨p, q⟩ := x
    obtain ⟨p', q'⟩ := y
    simp only [balV] at e1 e2
    simp only at hk
    simp only [c0, e1, e2, hi1, hk, List.length_map, List.take_succ_cons, List.take_nil, Tryz.underlying3, sz3, by3, ze3, Tryz.underlying4, sz4, by4, ze4, Tryz.underlying46, sz46, by46, ze46, Tryz.underlying72, sz72, by72, ze72, fa72_0, fa72_1, plan0, go_sem, ↓reduceIte, reduceCtorEq, Nat.reduceEqDiff, Nat.reduceLT, ↓all_qV, Int.reduceToNat, Int.reduceLT, Int.reduceLE, Nat.reduceAdd, Nat.reduceLeDiff, Nat.reduceMul, ev_callG, gcallK_b, gcallK_w, callGc_true, callGc_false]
    refine ⟨by kernel_rfl, ⟨by omega, by omega⟩, ⟨by omega, by omega⟩, ⟨by kernel_rfl, by kernel_rfl⟩, fun h9 => ?_, fun h9 => ⟨i + 1, ⟨by omega, ?_⟩, by omega, ⟨by simp [fitR, look], trivial, rfl, rfl, rfl⟩⟩⟩
    · have h9 : ¬ ((p, q) = (p', q')) := fun e => by rw [decide_eq_true e] at h9; cases h9
      have : ¬ a = b := fun e => h9 (g1 e)
      simp [this]
    · have h9 : (p, q) = (p', q') := Classical.byContradiction fun e => by rw [decide_eq_false e] at h9; cases h9
      rw [t1, t2, hab, h9]
  · have c0 : decide ((i : Int) < (a.length : Int)) = false := by simp; omega
    rw [List.take_of_length_le (by omega), List.take_of_length_le (by omega)] at hab
    subst hab
    simp only [c0, List.length_map, Tryz.underlying3, sz3, by3, ze3, Tryz.underlying4, sz4, by4, ze4, Tryz.underlying46, sz46, by46, ze46, Tryz.underlying72, sz72, by72, ze72, fa72_0, fa72_1, plan0, go_sem, ↓reduceIte, reduceCtorEq, Nat.reduceEqDiff, Nat.reduceLT, ↓all_qV, Int.reduceToNat, Int.reduceLT, Int.reduceLE, Nat.reduceAdd, Nat.reduceLeDiff, Nat.reduceMul]
    simp
noncomputable def AI (g : FuncId) : PSpec := (putΦ (putΦ AH 35 rlstS) 16 rlsS) g
theorem hAI : TabSound GG AI := ((hAH.put w_rlstS).put w_rlsS)
def balsF (l : List Pst) (en d : Int) : List Bal := bif lkF l != 0 then [] else listF 0 (sumsT en 0 d l)
noncomputable def rbalS : PSpec := on_pii (fun e _ _ => isLg e) (fun e en d => .sl ((balsF (lgOf e) en d).map balV))
theorem k_rbalS_14 {args : List PV} : AI 14 args = rchkS args := rfl
theorem k_rbalS_33 {args : List PV} : AI 33 args = rsumS args := rfl
theorem k_rbalS_35 {args : List PV} : AI 35 args = rlstS args := rfl
theorem w_rbalS : PSound GG 17 rbalS := by
  refine PSound.of_wpc (C := cxP Tryz.prog AI [] 16) (T := plan0) Tryz.func17 rfl rfl rfl (Fit.pure (G := GG) hAI mixed) (fun args h => ?_)
  unfold rbalS at h
  obtain ⟨e, en, d, rfl, hp⟩ := on_pii_inv h
  refine ⟨by simp [cxP], ?_⟩
  simp only [rbalS, on_pii_eq, Tryz.f17, argL, plan0]
  obtain ⟨l, rfl, hl⟩ := hp
  simp only [lgV, lgOf_agg, map_psOf, arrOf_arr, List.length_map, k_rbalS_14, rchkS, on_p_eq, k_rbalS_33, rsumS, on_liii_eq, k_rbalS_35, rlstS, List.take_succ_cons, List.take_nil, Tryz.underlying3, sz3, by3, ze3, Tryz.underlying4, sz4, by4, ze4, Tryz.underlying25, sz25, by25, ze25, Tryz.underlying27, sz27, by27, ze27, fa27_0, Tryz.underlying33, sz33, by33, ze33, Tryz.underlying46, sz46, by46, ze46, Tryz.underlying57, sz57, by57, ze57, fa57_0, fa57_1, fa57_2, fa57_3, fa57_4, fa57_5, fa57_6, fa57_7, Tryz.underlying68, sz68, by68, Tryz.underlying72, sz72, by72, ze72, fa72_0, fa72_1, go_sem, ↓reduceIte, reduceCtorEq, Nat.reduceEqDiff, Nat.reduceLT, ↓all_qV, Int.reduceToNat, Int.reduceLT, Int.reduceLE, Nat.reduceAdd, Nat.reduceLeDiff, Nat.reduceMul, ev_callG, gcallK_b, gcallK_w, callGc_true, callGc_false]
  refine ⟨⟨okL1, l, rfl, hl⟩, fun h1 => by unfold balsF; rw [h1]; rfl, fun h1 => ?_⟩
  have h0 : lkF l = 0 := by simpa using h1
  obtain ⟨g1, g2, _⟩ := lkF_ok h0
  exact ⟨⟨l, rfl, g2, by omega⟩, ⟨_, rfl, tab_len⟩, by unfold balsF; rw [h1]; rfl⟩
noncomputable def AJ (g : FuncId) : PSpec := (putΦ AI 17 rbalS) g
theorem hAJ : TabSound GG AJ := (hAI.put w_rbalS)
end Go.AM
namespace Go.AM
open Go Go.Proofs Go.IntWalk
set_option maxRecDepth 100000
set_option maxHeartbeats 1000000
set_option linter.unusedSimpArgs false
set_option linter.unusedVariables false
/-- A ledger that can be closed for an entity on day 719. -/
def closable (n : Nat) (l : List Pst) : Prop := lkF l = 0 ∧ l.length ≤ n ∧ ∀ x, x ∈ l → x.d ≤ 719
def accSmall (l : List Pst) (en : Int) : Prop := (-10000 ≤ balF en 0 719 120 l ∧ balF en 0 719 120 l ≤ 10000) ∧ (-10000 ≤ balF en 0 719 119 l ∧ balF en 0 719 119 l ≤ 10000)
theorem close_gen {n : Nat} {l : List Pst} {c : Clo} {en : Int} (hl : closable n l) (hn : n ≤ 100) (hc : cloG c) (he : 1 ≤ en ∧ en ≤ 10) (ha : accSmall l en) :
    cloF l en 719 c = (l ++ outA l en 719 c, 0) ∧ closable (n + 5) (l ++ outA l en 719 c) := by
  obtain ⟨h1, h2, h3, h4, h5⟩ := hc
  obtain ⟨l1, l2, l3⟩ := hl
  obtain ⟨a1, a2⟩ := ha
  have hs := set_open 719 c.cl h5
  have hp := prov_of (day := 719) (by omega) (clG_clB h5) (by omega)
  rw [← accOf_ok l1] at a1 a2
  have s1 : small12 c.i := by unfold small12; omega
  have s2 : small12 c.u := by unfold small12; omega
  have s3 : small12 c.p := by unfold small12; omega
  have s4 : small12 (sumI (c.cl.map openF) - accOf l en 120 719) := by unfold small12; omega
  have s5 : small12 (-(provF c.cl 719).1 - accOf l en 119 719) := by rw [hp]; unfold small12; simp only; omega
  have := adj_ok (l := l) (en := en) (day := 719) (c := c) l1 (by omega) (ack_of (by omega) (clG_clB h5) (by omega) (by omega) (by omega)) he (by omega) (by omega) l3 (by rw [hp]) s1 s2 s3 s4 s5
  have hol := outA_len (l := l) (en := en) (day := 719) (c := c)
  refine ⟨?_, this.2, by rw [List.length_append]; omega, fun x hx => ?_⟩
  · unfold cloF; rw [this.1]; rfl
  rcases List.mem_append.1 hx with hx | hx
  · exact l3 x hx
  · obtain ⟨i, hi, rfl⟩ := List.getElem_of_mem hx
    have hg := outA_good (l := l) (en := en) (day := 719) (c := c) (by omega) he (by omega) s1 s2 s3 s4 s5
    rw [(hg i _ (List.getElem?_eq_getElem hi)).2.1]; omega
/-- What a closing adds to a balance. -/
def dltA (l : List Pst) (en : Int) (c : Clo) (a : Int) : Int :=
  signA a 520 220 c.i + signA a 510 210 c.u + signA a 130 510 c.p + signA a 120 420 (sumI (c.cl.map openF) - accOf l en 120 719) + signA a 119 530 (-(provF c.cl 719).1 - accOf l en 119 719)
theorem bal_own {l : List Pst} {en a : Int} {c : Clo} : balF en 0 719 a (l ++ outA l en 719 c) = balF en 0 719 a l + dltA l en c a := by
  rw [bal_app, bal_outA]
  have : ((en == 0 || en == en) && amg 719 0 719) = true := by simp [amg]
  rw [this]; rfl
theorem bal_other {l : List Pst} {e en a : Int} {c : Clo} (h0 : e ≠ 0) (h : en ≠ e) : balF e 0 719 a (l ++ outA l en 719 c) = balF e 0 719 a l := by
  rw [bal_app, bal_outA]
  have : ((e == 0 || en == e) && amg 719 0 719) = false := by
    have h1 : (e == 0) = false := by simpa using h0
    have h2 : (en == e) = false := by simpa using h
    rw [h1, h2]; rfl
  rw [this]; simp
theorem dlt_same {l l' : List Pst} {en : Int} {c : Clo} (h1 : accOf l en 120 719 = accOf l' en 120 719) (h2 : accOf l en 119 719 = accOf l' en 119 719) (a : Int) : dltA l en c a = dltA l' en c a := by
  unfold dltA; rw [h1, h2]
theorem sums_same {l l' : List Pst} {en : Int} (h : ∀ a, balF en 0 719 a l = balF en 0 719 a l') : sumsT en 0 719 l = sumsT en 0 719 l' := by
  unfold sumsT
  exact tab_congr (fun i _ => h _)
theorem bals_same {l l' : List Pst} {en : Int} (h1 : lkF l = 0) (h2 : lkF l' = 0) (h : ∀ a, balF en 0 719 a l = balF en 0 719 a l') : balsF l en 719 = balsF l' en 719 := by
  unfold balsF; rw [h1, h2, sums_same h]
theorem led_closable {ents : Int} {l : List Pst} (hl : ledG ents 700 l) (hn : l.length ≤ 10) : closable 10 l ∧ ∀ en, accSmall l en := by
  refine ⟨⟨hl.1, hn, fun x hx => by have := (hl.2 x hx).1; omega⟩, fun en => ?_⟩
  have hb := fun a => bal_small en 0 719 a l (fun x hx => by
    have h1 := pB_parts ((lkF_ok hl.1).2.1 x hx)
    have h2 := hl.2 x hx
    omega)
  have h1 := hb 120
  have h2 := hb 119
  exact ⟨by omega, by omega⟩
theorem ents_plain {l : List Pst} {c d : Clo} (hl : ledG 2 700 l) (hn : l.length ≤ 10) (hc : cloG c) (hd : cloG d) :
    ∃ A B X Y, cloF l 1 719 c = (A, 0) ∧ cloF A 2 719 d = (B, 0) ∧ cloF l 2 719 d = (X, 0) ∧ cloF X 1 719 c = (Y, 0) ∧ (∀ k : Int, (k = 1 ∨ k = 2) → balsF B k 719 = balsF Y k 719) ∧ balsF A 2 719 = balsF l 2 719 ∧ balsF X 1 719 = balsF l 1 719 ∧ A.length ≤ 50 ∧ B.length ≤ 50 ∧ X.length ≤ 50 ∧ Y.length ≤ 50 := by
  obtain ⟨cl, sm⟩ := led_closable hl hn
  obtain ⟨rA, cA⟩ := close_gen cl (by omega) hc (en := 1) (by omega) (sm 1)
  obtain ⟨rX, cX⟩ := close_gen cl (by omega) hd (en := 2) (by omega) (sm 2)
  have bA2 : ∀ a, balF 2 0 719 a (l ++ outA l 1 719 c) = balF 2 0 719 a l := fun a => bal_other (by decide) (by decide)
  have bA1 : ∀ a, balF 1 0 719 a (l ++ outA l 1 719 c) = balF 1 0 719 a l + dltA l 1 c a := fun a => bal_own
  have bX1 : ∀ a, balF 1 0 719 a (l ++ outA l 2 719 d) = balF 1 0 719 a l := fun a => bal_other (by decide) (by decide)
  have bX2 : ∀ a, balF 2 0 719 a (l ++ outA l 2 719 d) = balF 2 0 719 a l + dltA l 2 d a := fun a => bal_own
  generalize l ++ outA l 1 719 c = A at rA cA bA1 bA2
  generalize l ++ outA l 2 719 d = X at rX cX bX1 bX2
  have smA : accSmall A 2 := by unfold accSmall; rw [bA2, bA2]; exact sm 2
  have smX : accSmall X 1 := by unfold accSmall; rw [bX1, bX1]; exact sm 1
  obtain ⟨rB, cB⟩ := close_gen cA (by omega) hd (en := 2) (by omega) smA
  obtain ⟨rY, cY⟩ := close_gen cX (by omega) hc (en := 1) (by omega) smX
  have bB1 : ∀ a, balF 1 0 719 a (A ++ outA A 2 719 d) = balF 1 0 719 a A := fun a => bal_other (by decide) (by decide)
  have bB2 : ∀ a, balF 2 0 719 a (A ++ outA A 2 719 d) = balF 2 0 719 a A + dltA A 2 d a := fun a => bal_own
  have bY2 : ∀ a, balF 2 0 719 a (X ++ outA X 1 719 c) = balF 2 0 719 a X := fun a => bal_other (by decide) (by decide)
  have bY1 : ∀ a, balF 1 0 719 a (X ++ outA X 1 719 c) = balF 1 0 719 a X + dltA X 1 c a := fun a => bal_own
  have dA : ∀ a, dltA A 2 d a = dltA l 2 d a := dlt_same (by rw [accOf_ok cA.1, accOf_ok cl.1, bA2]) (by rw [accOf_ok cA.1, accOf_ok cl.1, bA2])
  have dX : ∀ a, dltA X 1 c a = dltA l 1 c a := dlt_same (by rw [accOf_ok cX.1, accOf_ok cl.1, bX1]) (by rw [accOf_ok cX.1, accOf_ok cl.1, bX1])
  generalize A ++ outA A 2 719 d = B at rB cB bB1 bB2
  generalize X ++ outA X 1 719 c = Y at rY cY bY1 bY2
  have lA := cA.2.1
  have lB := cB.2.1
  have lX := cX.2.1
  have lY := cY.2.1
  refine ⟨A, B, X, Y, rA, rB, rX, rY, fun k hk => ?_, bals_same cA.1 cl.1 bA2, bals_same cX.1 cl.1 bX1, by omega, by omega, by omega, by omega⟩
  rcases hk with rfl | rfl
  · exact bals_same cB.1 cY.1 (fun a => by rw [bB1, bA1, bY1, bX1, dX])
  · exact bals_same cB.1 cY.1 (fun a => by rw [bB2, bA2, bY2, bX2, dA])
end Go.AM
