/-
  A part of a proof: see the last text of this claim for what is proved.
-/
import Derived.Test.YteapbfeojedjoaaGreatDoorU2h
/-! AccrualClaims: the plain law -/
namespace Go.AM
open Go Go.Proofs Go.IntWalk
set_option maxRecDepth 100000
set_option maxHeartbeats 1000000
set_option linter.unusedSimpArgs false
set_option linter.unusedVariables false
theorem idx_all : ∀ (es : List PV) (i : Int), (∀ e, e ∈ es → clB e = true) → idxF es i = -1
  | [], i, _ => rfl
  | x :: r, i, h => by
    unfold idxF
    rw [h x List.mem_cons_self]
    exact idx_all r (i + 1) (fun e he => h e (List.mem_cons_of_mem _ he))
theorem cls_of {es : List PV} (hn : es.length ≤ 60) (h : ∀ e, e ∈ es → clB e = true) : clsF es = 0 := by
  unfold clsF
  rw [show decide (60 < (es.length : Int)) = false from decide_eq_false (by omega), idx_all es 0 h]
  rfl
theorem prov_of {es : List PV} {day : Int} (hn : es.length ≤ 60) (h : ∀ e, e ∈ es → clB e = true) (hd : 0 ≤ day ∧ day ≤ 36000) : provF es day = (sumI (es.map (setF day)), 0) := by
  unfold provF
  rw [cls_of hn h, show amg day 0 36000 = true by unfold amg; simp; omega]
  rfl
theorem ack_of {c : Clo} (hn : c.cl.length ≤ 60) (h : ∀ e, e ∈ c.cl → clB e = true) (hi : 0 ≤ c.i ∧ c.i ≤ 1000) (hu : 0 ≤ c.u ∧ c.u ≤ 1000) (hp : 0 ≤ c.p ∧ c.p ≤ 1000) : ackF c = 0 := by
  unfold ackF
  rw [cls_of hn h, show vldM c.i = true by unfold vldM; simp; omega, show vldM c.u = true by unfold vldM; simp; omega, show vldM c.p = true by unfold vldM; simp; omega]
  rfl
theorem set_open (day : Int) : ∀ es : List PV, (∀ e, e ∈ es → clG e) → 0 ≤ sumI (es.map (setF day)) ∧ sumI (es.map (setF day)) ≤ sumI (es.map openF) ∧ sumI (es.map openF) ≤ 250 * es.length
  | [], _ => by simp [sumI]
  | e :: r, h => by
    have ih := set_open day r (fun x hx => h x (List.mem_cons_of_mem _ hx))
    obtain ⟨⟨id, pa, am, op, d, c, rfl, hcl⟩, h2, h3⟩ := h e List.mem_cons_self
    obtain ⟨k1, k2, k3, k4, k5⟩ := set_le day h2
    have e1 : setF day (claimV id pa am op d c) = op * pctF (day - d) / 100 := k3
    have e2 : openF (claimV id pa am op d c) = op := rfl
    rw [e2] at h3
    have hp := pct_le (day - d)
    have h4 : op * pctF (day - d) ≤ op * 100 := Int.mul_le_mul_of_nonneg_left hp.2 k1.1
    simp only [List.map_cons, sumI, List.length_cons, e1, e2, Int.natCast_add, Int.mul_add]
    omega
theorem bal_small (en fr to a : Int) : ∀ l : List Pst, (∀ x, x ∈ l → 0 ≤ x.am ∧ x.am ≤ 1000) → -(l.length * 1000 : Int) ≤ balF en fr to a l ∧ balF en fr to a l ≤ l.length * 1000
  | [], _ => by simp [balF]
  | x :: r, h => by
    have ih := bal_small en fr to a r (fun y hy => h y (List.mem_cons_of_mem _ hy))
    have hx := h x List.mem_cons_self
    simp only [balF, List.length_cons, Int.natCast_add, Int.add_mul]
    cases cntB en fr to x with
    | false => simp only [cond_false]; omega
    | true =>
      simp only [cond_true]
      split <;> split <;> omega
theorem accOf_ok {l : List Pst} {en ac d : Int} (h : lkF l = 0) : accOf l en ac d = balF en 0 d ac l := by unfold accOf; rw [h]; rfl
theorem rof_ok {l : List Pst} {en ac d : Int} (h : lkF l = 0) (hac : clsI ac ≠ 0) : rofF l en ac d = balF en 0 d ac l := by
  unfold rofF; rw [h, show (clsI ac == 0) = false by simpa using hac]; rfl
theorem acc_small {ents days : Int} {l : List Pst} (h : ledG ents days l) (hn : l.length ≤ 10) (en ac d : Int) : -10000 ≤ accOf l en ac d ∧ accOf l en ac d ≤ 10000 := by
  rw [accOf_ok h.1]
  have := bal_small en 0 d ac l (fun x hx => by
    have h1 := pB_parts ((lkF_ok h.1).2.1 x hx)
    have h2 := h.2 x hx
    omega)
  omega
theorem addP_zero {n en day db cr re : Int} {o : List Pst} : addP n en day db cr 0 re o = o := by simp [addP, postL]
theorem clG_clB {es : List PV} (h : ∀ e, e ∈ es → clG e) : ∀ e, e ∈ es → clB e = true := fun e he => (h e he).2.1
/-- Closing a made ledger: what comes of it. -/
theorem close_made {ents : Int} {l : List Pst} {c : Clo} {en : Int} (hl : ledG ents 700 l) (hn : l.length ≤ 10) (hc : cloG c) (he : 1 ≤ en ∧ en ≤ 10) :
    cloF l en 719 c = (l ++ outA l en 719 c, 0) ∧ lkF (l ++ outA l en 719 c) = 0 := by
  obtain ⟨h1, h2, h3, h4, h5⟩ := hc
  have hs := set_open 719 c.cl h5
  have hp := prov_of (day := 719) (by omega) (clG_clB h5) (by omega)
  have a1 := acc_small hl hn en 120 719
  have a2 := acc_small hl hn en 119 719
  have := adj_ok (l := l) (en := en) (day := 719) (c := c) hl.1 (by omega) (ack_of (by omega) (clG_clB h5) (by omega) (by omega) (by omega)) he (by omega) (by omega) (fun x hx => by have := (hl.2 x hx).1; omega) (by rw [hp])
    (by unfold small12; omega) (by unfold small12; omega) (by unfold small12; omega) (by unfold small12; omega) (by rw [hp]; unfold small12; simp only; omega)
  refine ⟨?_, this.2⟩
  unfold cloF; rw [this.1]; rfl
theorem claims_plain {l : List Pst} {c : Clo} (hl : ledG 2 700 l) (hn : l.length ≤ 10) (hc : cloG c) :
    ∃ X n, cloF l 1 719 c = (X, 0) ∧ cloF X 1 719 ⟨0, 0, 0, c.cl⟩ = (X, 0) ∧ provF c.cl 719 = (n, 0) ∧ rofF X 1 120 719 = sumI (c.cl.map openF) ∧ rofF X 1 119 719 = -n ∧ lkF X = 0 ∧ (0 ≤ n ∧ n ≤ sumI (c.cl.map openF) ∧ sumI (c.cl.map openF) ≤ 1250) ∧ X.length ≤ 15 := by
  obtain ⟨r1, r2⟩ := close_made hl hn hc (en := 1) (by omega)
  have hol := outA_len (l := l) (en := 1) (day := 719) (c := c)
  obtain ⟨h1, h2, h3, h4, h5⟩ := hc
  have hs := set_open 719 c.cl h5
  have hp := prov_of (day := 719) (by omega) (clG_clB h5) (by omega)
  have hb : ∀ a, balF 1 0 719 a (l ++ outA l 1 719 c) = balF 1 0 719 a l + (signA a 520 220 c.i + signA a 510 210 c.u + signA a 130 510 c.p + signA a 120 420 (sumI (c.cl.map openF) - accOf l 1 120 719) + signA a 119 530 (-(provF c.cl 719).1 - accOf l 1 119 719)) := fun a => by
    rw [bal_app, bal_outA]; rfl
  have b1 : balF 1 0 719 120 (l ++ outA l 1 719 c) = sumI (c.cl.map openF) := by
    rw [hb, accOf_ok hl.1, accOf_ok hl.1]; simp [signA]; omega
  have b2 : balF 1 0 719 119 (l ++ outA l 1 719 c) = -(provF c.cl 719).1 := by
    rw [hb, accOf_ok hl.1, accOf_ok hl.1]; simp [signA]; omega
  generalize hX : l ++ outA l 1 719 c = X at r1 r2 b1 b2
  have hXl : X.length ≤ 15 := by rw [← hX, List.length_append]; omega
  have ho : outA X 1 719 ⟨0, 0, 0, c.cl⟩ = [] := by
    unfold outA
    simp only [accOf_ok r2, b1, b2, Int.sub_self, addP_zero]
  have hXd : ∀ x, x ∈ X → x.d ≤ 719 := by
    intro x hx
    rw [← hX] at hx
    rcases List.mem_append.1 hx with hx | hx
    · have := (hl.2 x hx).1; omega
    · obtain ⟨i, hi, rfl⟩ := List.getElem_of_mem hx
      have a1 := acc_small hl hn 1 120 719
      have a2 := acc_small hl hn 1 119 719
      have hg := outA_good (l := l) (en := 1) (day := 719) (c := c) (by omega) (by omega) (by omega) (by unfold small12; omega) (by unfold small12; omega) (by unfold small12; omega) (by unfold small12; omega) (by rw [hp]; unfold small12; simp only; omega)
      rw [(hg i _ (List.getElem?_eq_getElem hi)).2.1]; omega
  have r3 := adj_ok (l := X) (en := 1) (day := 719) (c := ⟨0, 0, 0, c.cl⟩) r2 (by omega) (ack_of (by simp only; omega) (clG_clB h5) (by simp only; omega) (by simp only; omega) (by simp only; omega)) (by omega) (by omega) (by omega) hXd (by rw [hp])
    (by unfold small12; simp only; omega) (by unfold small12; simp only; omega) (by unfold small12; simp only; omega) (by rw [accOf_ok r2, b1]; unfold small12; simp only; omega) (by rw [accOf_ok r2, b2]; unfold small12; simp only; omega)
  rw [ho] at r3
  refine ⟨X, (provF c.cl 719).1, r1, ?_, by rw [hp], ?_, ?_, r2, ?_, hXl⟩
  · unfold cloF; rw [r3.1]; simp
  · rw [rof_ok r2 (by decide), b1]
  · rw [rof_ok r2 (by decide), b2]
  · rw [hp]; simp only; omega
end Go.AM
