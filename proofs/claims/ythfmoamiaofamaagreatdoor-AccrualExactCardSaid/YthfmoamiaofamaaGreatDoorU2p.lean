/-
  A part of a proof: see the last text of this claim for what is proved.
-/
import Derived.Test.YthfmoamiaofamaaGreatDoorU1g
/-! accrual: what a closing does to the books (plain) -/
namespace Go.AM
open Go Go.Proofs Go.IntWalk
set_option maxRecDepth 100000
set_option maxHeartbeats 1000000
set_option linter.unusedSimpArgs false
set_option linter.unusedVariables false
theorem bal_app (e fr to a : Int) : ∀ x y : List Pst, balF e fr to a (x ++ y) = balF e fr to a x + balF e fr to a y
  | [], y => by simp [balF]
  | p :: r, y => by rw [List.cons_append, balF, balF, bal_app e fr to a r y]; omega
def signA (a db cr am : Int) : Int := (if a == db then am else 0) - (if a == cr then am else 0)
theorem bal_postL {e fr to a n en day db cr am re : Int} : balF e fr to a (postL n en day db cr am re) = bif ((e == 0 || en == e) && amg day fr to) then signA a db cr am else 0 := by
  unfold postL signA
  by_cases h1 : am < 0
  · rw [show decide (am < 0) = true from decide_eq_true h1]
    simp only [cond_true, balF, cntB]
    cases ((e == 0 || en == e) && amg day fr to) with
    | false => rfl
    | true => simp only [cond_true]; split <;> split <;> omega
  · rw [show decide (am < 0) = false from decide_eq_false h1]
    by_cases h2 : 0 < am
    · rw [show decide (0 < am) = true from decide_eq_true h2]
      simp only [cond_true, cond_false, balF, cntB]
      cases ((e == 0 || en == e) && amg day fr to) with
      | false => rfl
      | true => simp only [cond_true]; omega
    · rw [show decide (0 < am) = false from decide_eq_false h2]
      have : am = 0 := by omega
      subst this
      simp only [cond_false, balF]
      cases ((e == 0 || en == e) && amg day fr to) with
      | false => rfl
      | true => simp
theorem bal_addP {e fr to a n en day db cr am re : Int} {o : List Pst} : balF e fr to a (addP n en day db cr am re o) = balF e fr to a o + bif ((e == 0 || en == e) && amg day fr to) then signA a db cr am else 0 := by
  unfold addP; rw [bal_app, bal_postL]
/-- What the five postings of a closing do to a balance. -/
theorem bal_outA {e fr to a en day : Int} {l : List Pst} {c : Clo} : balF e fr to a (outA l en day c) = bif ((e == 0 || en == e) && amg day fr to) then
    signA a 520 220 c.i + signA a 510 210 c.u + signA a 130 510 c.p + signA a 120 420 (sumI (c.cl.map openF) - accOf l en 120 day) + signA a 119 530 (-(provF c.cl day).1 - accOf l en 119 day) else 0 := by
  unfold outA
  simp only [bal_addP, balF]
  cases ((e == 0 || en == e) && amg day fr to) with
  | false => rfl
  | true => simp only [cond_true]; omega
/-- Good new postings: numbers that go on, of one day and one entity. -/
def GoodO (n : Nat) (en day : Int) (o : List Pst) : Prop := ∀ (i : Nat) x, o[i]? = some x → x.nu = (n : Int) + i + 1 ∧ x.d = day ∧ x.en = en ∧ pB x = true
theorem pB_of {x : Pst} (h : (1 ≤ x.nu ∧ x.nu ≤ 1000000) ∧ (0 ≤ x.d ∧ x.d ≤ 36000) ∧ (1 ≤ x.en ∧ x.en ≤ 10) ∧ 0 < clsI x.db ∧ 0 < clsI x.cr ∧ x.db ≠ x.cr ∧ (1 ≤ x.am ∧ x.am ≤ 1000000000000) ∧ (0 ≤ x.pa ∧ x.pa ≤ 10) ∧ x.pa ≠ x.en ∧ (0 ≤ x.re ∧ x.re ≤ 1000000)) : pB x = true := by
  unfold pB amg
  simp only [Bool.and_eq_true, decide_eq_true_eq, bne_iff_ne]
  obtain ⟨h1, h2, h3, h4, h5, h6, h7, h8, h9, h10⟩ := h
  exact ⟨⟨⟨⟨⟨⟨⟨⟨⟨h1, h2⟩, h3⟩, h4⟩, h5⟩, h6⟩, h7⟩, h8⟩, h9⟩, h10⟩
theorem goodO_snoc {n : Nat} {en day : Int} {o : List Pst} {x : Pst} (h : GoodO n en day o) (hx : x.nu = (n : Int) + o.length + 1 ∧ x.d = day ∧ x.en = en ∧ pB x = true) : GoodO n en day (o ++ [x]) := by
  intro i y hi
  rw [List.getElem?_append] at hi
  split at hi
  · exact h i y hi
  · have : i - o.length = 0 := by
      rcases Nat.eq_zero_or_pos (i - o.length) with h0 | h0
      · exact h0
      · rw [List.getElem?_eq_none (by simp; omega)] at hi; cases hi
    rw [this] at hi
    simp at hi
    subst hi
    have : i = o.length := by omega
    rw [this]; exact hx
theorem goodO_add {n : Nat} {en day db cr am re : Int} {o : List Pst} (h : GoodO n en day o) (hn : n + o.length < 1000000) (he : 1 ≤ en ∧ en ≤ 10) (hd : 0 ≤ day ∧ day ≤ 36000) (h1 : 0 < clsI db) (h2 : 0 < clsI cr) (h3 : db ≠ cr) (ha : -1000000000000 ≤ am ∧ am ≤ 1000000000000) (hr : 0 ≤ re ∧ re ≤ 1000000) : GoodO n en day (addP n en day db cr am re o) := by
  unfold addP postL
  by_cases c1 : am < 0
  · rw [show decide (am < 0) = true from decide_eq_true c1]
    refine goodO_snoc h ⟨rfl, rfl, rfl, pB_of ⟨?_, hd, he, h2, h1, h3.symm, ?_, ?_, ?_, hr⟩⟩ <;> simp only <;> omega
  · rw [show decide (am < 0) = false from decide_eq_false c1]
    by_cases c2 : 0 < am
    · rw [show decide (0 < am) = true from decide_eq_true c2]
      refine goodO_snoc h ⟨rfl, rfl, rfl, pB_of ⟨?_, hd, he, h1, h2, h3, ?_, ?_, ?_, hr⟩⟩ <;> simp only <;> omega
    · rw [show decide (0 < am) = false from decide_eq_false c2]
      simpa using h
theorem outA_len {l : List Pst} {en day : Int} {c : Clo} : (outA l en day c).length ≤ 5 := by
  unfold outA
  refine Nat.le_trans addP_len (Nat.succ_le_succ (Nat.le_trans addP_len (Nat.succ_le_succ (Nat.le_trans addP_len (Nat.succ_le_succ (Nat.le_trans addP_len (Nat.succ_le_succ (Nat.le_trans addP_len (Nat.le_refl _)))))))))
def small12 (n : Int) : Prop := -1000000000000 ≤ n ∧ n ≤ 1000000000000
theorem outA_good {l : List Pst} {en day : Int} {c : Clo} (hl : l.length ≤ 400) (he : 1 ≤ en ∧ en ≤ 10) (hd : 0 ≤ day ∧ day ≤ 36000) (hi : small12 c.i) (hu : small12 c.u) (hp : small12 c.p) (ho : small12 (sumI (c.cl.map openF) - accOf l en 120 day)) (hv : small12 (-(provF c.cl day).1 - accOf l en 119 day)) : GoodO l.length en day (outA l en day c) := by
  unfold outA
  have g0 : GoodO l.length en day [] := fun i x h => by simp at h
  have g1 := goodO_add (db := 520) (cr := 220) (re := 1000000) g0 (by simp; omega) he hd (by decide) (by decide) (by decide) hi (by omega)
  have n1 := addP_len (n := l.length) (en := en) (day := day) (db := 520) (cr := 220) (am := c.i) (re := 1000000) (o := [])
  generalize addP l.length en day 520 220 c.i 1000000 [] = o1 at g1 n1 ⊢
  simp only [List.length_nil] at n1
  have g2 := goodO_add (db := 510) (cr := 210) (re := 1000000) g1 (by omega) he hd (by decide) (by decide) (by decide) hu (by omega)
  have n2 := addP_len (n := l.length) (en := en) (day := day) (db := 510) (cr := 210) (am := c.u) (re := 1000000) (o := o1)
  generalize addP l.length en day 510 210 c.u 1000000 o1 = o2 at g2 n2 ⊢
  have g3 := goodO_add (db := 130) (cr := 510) (re := 1000000) g2 (by omega) he hd (by decide) (by decide) (by decide) hp (by omega)
  have n3 := addP_len (n := l.length) (en := en) (day := day) (db := 130) (cr := 510) (am := c.p) (re := 1000000) (o := o2)
  generalize addP l.length en day 130 510 c.p 1000000 o2 = o3 at g3 n3 ⊢
  have g4 := goodO_add (db := 120) (cr := 420) (re := 0) g3 (by omega) he hd (by decide) (by decide) (by decide) ho (by omega)
  have n4 := addP_len (n := l.length) (en := en) (day := day) (db := 120) (cr := 420) (am := sumI (c.cl.map openF) - accOf l en 120 day) (re := 0) (o := o3)
  generalize addP l.length en day 120 420 (sumI (c.cl.map openF) - accOf l en 120 day) 0 o3 = o4 at g4 n4 ⊢
  exact goodO_add (db := 119) (cr := 530) (re := 0) g4 (by omega) he hd (by decide) (by decide) (by decide) hv (by omega)
/-! ### A ledger that goes on -/
def lastO : Option Int → List Pst → Option Int
  | o, [] => o
  | _, x :: r => lastO (some x.d) r
theorem seqG_app : ∀ (k : Nat) (o : Option Int) (a b : List Pst), seqG k o (a ++ b) = (seqG k o a && seqG (k + a.length) (lastO o a) b)
  | k, o, [], b => by simp [seqG_nil, lastO]
  | k, o, x :: r, b => by
    rw [List.cons_append, seqG_cons, seqG_cons, seqG_app (k + 1) _ r b, lastO, List.length_cons, show k + 1 + r.length = k + (r.length + 1) by omega, ← Bool.and_assoc]
theorem lastO_le {d : Int} : ∀ (o : Option Int) (a : List Pst), leO o d = true → (∀ x, x ∈ a → x.d ≤ d) → leO (lastO o a) d = true
  | o, [], h, _ => h
  | o, x :: r, _, h => lastO_le (some x.d) r (by simp only [leO, decide_eq_true_eq]; exact h x List.mem_cons_self) (fun y hy => h y (List.mem_cons_of_mem _ hy))
theorem seqG_same {d : Int} : ∀ (k : Nat) (o : Option Int) (b : List Pst), leO o d = true → (∀ (i : Nat) x, b[i]? = some x → x.nu = (k : Int) + i + 1 ∧ x.d = d) → seqG k o b = true
  | k, o, [], _, _ => rfl
  | k, o, x :: r, h, hb => by
    obtain ⟨h1, h2⟩ := hb 0 x rfl
    rw [seqG_cons, seqG_same (d := d) (k + 1) (some x.d) r (by rw [h2]; simp [leO]) (fun i y hy => by
      obtain ⟨g1, g2⟩ := hb (i + 1) y (by simpa using hy)
      exact ⟨by rw [g1]; omega, g2⟩), h2, h]
    simp [h1]
theorem lkF_of {l : List Pst} (h1 : l.length ≤ 400) (h2 : ∀ x, x ∈ l → pB x = true) (h3 : seqG 0 none l = true) : lkF l = 0 := by
  unfold lkF
  rw [show decide (400 < (l.length : Int)) = false from decide_eq_false (by omega), show (l.any fun x => !pB x) = false from List.any_eq_false.2 (fun x hx => by simp [h2 x hx]), h3]
  rfl
theorem lk_goes {l o : List Pst} {en day : Int} (h : lkF l = 0) (hd : ∀ x, x ∈ l → x.d ≤ day) (hg : GoodO l.length en day o) (hn : l.length + o.length ≤ 400) : lkF (l ++ o) = 0 := by
  obtain ⟨h1, h2, h3⟩ := lkF_ok h
  refine lkF_of (by rw [List.length_append]; omega) (fun x hx => ?_) ?_
  · rcases List.mem_append.1 hx with hx | hx
    · exact h2 x hx
    · obtain ⟨i, hi, rfl⟩ := List.getElem_of_mem hx
      exact (hg i _ (List.getElem?_eq_getElem hi)).2.2.2
  · rw [seqG_app, h3, seqG_same (d := day) _ _ o (lastO_le none l rfl hd) (fun i x hx => by
      have := hg i x hx
      rw [Nat.zero_add]; exact ⟨this.1, this.2.1⟩)]
    rfl
theorem lastD_le {l : List Pst} {day : Int} (h0 : 0 ≤ day) (hd : ∀ x, x ∈ l → x.d ≤ day) : lastD l ≤ day := by
  unfold lastD
  by_cases h : 0 < (l.length : Int)
  · rw [show decide (0 < (l.length : Int)) = true from decide_eq_true h]
    exact hd _ (mem_getD' (by omega))
  · rw [show decide (0 < (l.length : Int)) = false from decide_eq_false h]; exact h0
theorem adj_ok {l : List Pst} {en day : Int} {c : Clo} (h : lkF l = 0) (hn : l.length ≤ 395) (hk : ackF c = 0) (he : 1 ≤ en ∧ en ≤ 10) (h0 : 0 ≤ day) (h36 : day ≤ 36000) (hd : ∀ x, x ∈ l → x.d ≤ day) (hp : (provF c.cl day).2 = 0)
    (hi : small12 c.i) (hu : small12 c.u) (hq : small12 c.p) (ho : small12 (sumI (c.cl.map openF) - accOf l en 120 day)) (hv : small12 (-(provF c.cl day).1 - accOf l en 119 day)) :
    adjF l en day c = (outA l en day c, 0) ∧ lkF (l ++ outA l en day c) = 0 := by
  have hg := outA_good (l := l) (by omega) he ⟨h0, h36⟩ hi hu hq ho hv
  have hl := outA_len (l := l) (en := en) (day := day) (c := c)
  refine ⟨?_, lk_goes h hd hg (by omega)⟩
  have hld := lastD_le h0 hd
  have a1 : amg en 1 10 = true := by unfold amg; simp; omega
  have a2 : amg day (lastD l) 36000 = true := by unfold amg; simp; omega
  have a3 : ((outA l en day c).any fun x => !vldM x.am) = false := List.any_eq_false.2 (fun x hx => by
    obtain ⟨i, hi, rfl⟩ := List.getElem_of_mem hx
    have := (pB_parts (hg i _ (List.getElem?_eq_getElem hi)).2.2.2).2.2.2.2.2.2.1
    unfold vldM; simp; omega)
  have a4 : decide (400 < (l.length : Int) + (outA l en day c).length) = false := by simp; omega
  unfold adjF
  rw [h, hk, hp, a1, a2, a3, a4]
  rfl
end Go.AM
