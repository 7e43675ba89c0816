/-
  A part of a proof: see the last text of this claim for what is proved.
-/
import Derived.Test.YteapbfeojedjoaaGreatDoorUP3
/-! AccrualEntities: the plain law -/
namespace Go.AM
open Go Go.Proofs Go.IntWalk
set_option maxRecDepth 100000
set_option maxHeartbeats 1000000
set_option linter.unusedSimpArgs false
set_option linter.unusedVariables false
/-- A ledger that can be closed for an entity on day 719. -/
def closable (n : Nat) (l : List Pst) : Prop := lkF l = 0 ∧ l.length ≤ n ∧ ∀ x, x ∈ l → x.d ≤ 719
def accSmall (l : List Pst) (en : Int) : Prop := (-10000 ≤ balF en 0 719 120 l ∧ balF en 0 719 120 l ≤ 10000) ∧ (-10000 ≤ balF en 0 719 119 l ∧ balF en 0 719 119 l ≤ 10000)
theorem close_gen {n : Nat} {l : List Pst} {c : Clo} {en : Int} (hl : closable n l) (hn : n ≤ 100) (hc : cloG c) (he : 1 ≤ en ∧ en ≤ 10) (ha : accSmall l en) :
    cloF l en 719 c = (l ++ outA l en 719 c, 0) ∧ closable (n + 5) (l ++ outA l en 719 c) := by
  obtain ⟨h1, h2, h3, h4, h5⟩ := hc
  obtain ⟨l1, l2, l3⟩ := hl
  obtain ⟨a1, a2⟩ := ha
  have hs := set_open 719 c.cl h5
  have hp := prov_of (day := 719) (by omega) (clG_clB h5) (by omega)
  rw [← accOf_ok l1] at a1 a2
  have s1 : small12 c.i := by unfold small12; omega
  have s2 : small12 c.u := by unfold small12; omega
  have s3 : small12 c.p := by unfold small12; omega
  have s4 : small12 (sumI (c.cl.map openF) - accOf l en 120 719) := by unfold small12; omega
  have s5 : small12 (-(provF c.cl 719).1 - accOf l en 119 719) := by rw [hp]; unfold small12; simp only; omega
  have := adj_ok (l := l) (en := en) (day := 719) (c := c) l1 (by omega) (ack_of (by omega) (clG_clB h5) (by omega) (by omega) (by omega)) he (by omega) (by omega) l3 (by rw [hp]) s1 s2 s3 s4 s5
  have hol := outA_len (l := l) (en := en) (day := 719) (c := c)
  refine ⟨?_, this.2, by rw [List.length_append]; omega, fun x hx => ?_⟩
  · unfold cloF; rw [this.1]; rfl
  rcases List.mem_append.1 hx with hx | hx
  · exact l3 x hx
  · obtain ⟨i, hi, rfl⟩ := List.getElem_of_mem hx
    have hg := outA_good (l := l) (en := en) (day := 719) (c := c) (by omega) he (by omega) s1 s2 s3 s4 s5
    rw [(hg i _ (List.getElem?_eq_getElem hi)).2.1]; omega
/-- What a closing adds to a balance. -/
def dltA (l : List Pst) (en : Int) (c : Clo) (a : Int) : Int :=
  signA a 520 220 c.i + signA a 510 210 c.u + signA a 130 510 c.p + signA a 120 420 (sumI (c.cl.map openF) - accOf l en 120 719) + signA a 119 530 (-(provF c.cl 719).1 - accOf l en 119 719)
theorem bal_own {l : List Pst} {en a : Int} {c : Clo} : balF en 0 719 a (l ++ outA l en 719 c) = balF en 0 719 a l + dltA l en c a := by
  rw [bal_app, bal_outA]
  have : ((en == 0 || en == en) && amg 719 0 719) = true := by simp [amg]
  rw [this]; rfl
theorem bal_other {l : List Pst} {e en a : Int} {c : Clo} (h0 : e ≠ 0) (h : en ≠ e) : balF e 0 719 a (l ++ outA l en 719 c) = balF e 0 719 a l := by
  rw [bal_app, bal_outA]
  have : ((e == 0 || en == e) && amg 719 0 719) = false := by
    have h1 : (e == 0) = false := by simpa using h0
    have h2 : (en == e) = false := by simpa using h
    rw [h1, h2]; rfl
  rw [this]; simp
theorem dlt_same {l l' : List Pst} {en : Int} {c : Clo} (h1 : accOf l en 120 719 = accOf l' en 120 719) (h2 : accOf l en 119 719 = accOf l' en 119 719) (a : Int) : dltA l en c a = dltA l' en c a := by
  unfold dltA; rw [h1, h2]
theorem sums_same {l l' : List Pst} {en : Int} (h : ∀ a, balF en 0 719 a l = balF en 0 719 a l') : sumsT en 0 719 l = sumsT en 0 719 l' := by
  unfold sumsT
  exact tab_congr (fun i _ => h _)
theorem bals_same {l l' : List Pst} {en : Int} (h1 : lkF l = 0) (h2 : lkF l' = 0) (h : ∀ a, balF en 0 719 a l = balF en 0 719 a l') : balsF l en 719 = balsF l' en 719 := by
  unfold balsF; rw [h1, h2, sums_same h]
theorem led_closable {ents : Int} {l : List Pst} (hl : ledG ents 700 l) (hn : l.length ≤ 10) : closable 10 l ∧ ∀ en, accSmall l en := by
  refine ⟨⟨hl.1, hn, fun x hx => by have := (hl.2 x hx).1; omega⟩, fun en => ?_⟩
  have hb := fun a => bal_small en 0 719 a l (fun x hx => by
    have h1 := pB_parts ((lkF_ok hl.1).2.1 x hx)
    have h2 := hl.2 x hx
    omega)
  have h1 := hb 120
  have h2 := hb 119
  exact ⟨by omega, by omega⟩
theorem ents_plain {l : List Pst} {c d : Clo} (hl : ledG 2 700 l) (hn : l.length ≤ 10) (hc : cloG c) (hd : cloG d) :
    ∃ A B X Y, cloF l 1 719 c = (A, 0) ∧ cloF A 2 719 d = (B, 0) ∧ cloF l 2 719 d = (X, 0) ∧ cloF X 1 719 c = (Y, 0) ∧ (∀ k : Int, (k = 1 ∨ k = 2) → balsF B k 719 = balsF Y k 719) ∧ balsF A 2 719 = balsF l 2 719 ∧ balsF X 1 719 = balsF l 1 719 ∧ A.length ≤ 50 ∧ B.length ≤ 50 ∧ X.length ≤ 50 ∧ Y.length ≤ 50 := by
  obtain ⟨cl, sm⟩ := led_closable hl hn
  obtain ⟨rA, cA⟩ := close_gen cl (by omega) hc (en := 1) (by omega) (sm 1)
  obtain ⟨rX, cX⟩ := close_gen cl (by omega) hd (en := 2) (by omega) (sm 2)
  have bA2 : ∀ a, balF 2 0 719 a (l ++ outA l 1 719 c) = balF 2 0 719 a l := fun a => bal_other (by decide) (by decide)
  have bA1 : ∀ a, balF 1 0 719 a (l ++ outA l 1 719 c) = balF 1 0 719 a l + dltA l 1 c a := fun a => bal_own
  have bX1 : ∀ a, balF 1 0 719 a (l ++ outA l 2 719 d) = balF 1 0 719 a l := fun a => bal_other (by decide) (by decide)
  have bX2 : ∀ a, balF 2 0 719 a (l ++ outA l 2 719 d) = balF 2 0 719 a l + dltA l 2 d a := fun a => bal_own
  generalize l ++ outA l 1 719 c = A at rA cA bA1 bA2
  generalize l ++ outA l 2 719 d = X at rX cX bX1 bX2
  have smA : accSmall A 2 := by unfold accSmall; rw [bA2, bA2]; exact sm 2
  have smX : accSmall X 1 := by unfold accSmall; rw [bX1, bX1]; exact sm 1
  obtain ⟨rB, cB⟩ := close_gen cA (by omega) hd (en := 2) (by omega) smA
  obtain ⟨rY, cY⟩ := close_gen cX (by omega) hc (en := 1) (by omega) smX
  have bB1 : ∀ a, balF 1 0 719 a (A ++ outA A 2 719 d) = balF 1 0 719 a A := fun a => bal_other (by decide) (by decide)
  have bB2 : ∀ a, balF 2 0 719 a (A ++ outA A 2 719 d) = balF 2 0 719 a A + dltA A 2 d a := fun a => bal_own
  have bY2 : ∀ a, balF 2 0 719 a (X ++ outA X 1 719 c) = balF 2 0 719 a X := fun a => bal_other (by decide) (by decide)
  have bY1 : ∀ a, balF 1 0 719 a (X ++ outA X 1 719 c) = balF 1 0 719 a X + dltA X 1 c a := fun a => bal_own
  have dA : ∀ a, dltA A 2 d a = dltA l 2 d a := dlt_same (by rw [accOf_ok cA.1, accOf_ok cl.1, bA2]) (by rw [accOf_ok cA.1, accOf_ok cl.1, bA2])
  have dX : ∀ a, dltA X 1 c a = dltA l 1 c a := dlt_same (by rw [accOf_ok cX.1, accOf_ok cl.1, bX1]) (by rw [accOf_ok cX.1, accOf_ok cl.1, bX1])
  generalize A ++ outA A 2 719 d = B at rB cB bB1 bB2
  generalize X ++ outA X 1 719 c = Y at rY cY bY1 bY2
  have lA := cA.2.1
  have lB := cB.2.1
  have lX := cX.2.1
  have lY := cY.2.1
  refine ⟨A, B, X, Y, rA, rB, rX, rY, fun k hk => ?_, bals_same cA.1 cl.1 bA2, bals_same cX.1 cl.1 bX1, by omega, by omega, by omega, by omega⟩
  rcases hk with rfl | rfl
  · exact bals_same cB.1 cY.1 (fun a => by rw [bB1, bA1, bY1, bX1, dX])
  · exact bals_same cB.1 cY.1 (fun a => by rw [bB2, bA2, bY2, bX2, dA])
end Go.AM
