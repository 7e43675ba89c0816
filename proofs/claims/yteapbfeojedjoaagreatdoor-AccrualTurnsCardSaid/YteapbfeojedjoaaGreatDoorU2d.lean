/-
  A part of a proof: see the last text of this claim for what is proved.
-/
import Derived.Test.YteapbfeojedjoaaGreatDoorU2x
import Derived.Test.YteapbfeojedjoaaGreatDoorU2p
import Derived.Test.YteapbfeojedjoaaGreatDoorQR
import Derived.Test.YteapbfeojedjoaaGreatDoorZMa
/-! the reference of ledger: Sums, Of -/
namespace Go.AM
open Go Go.Proofs Go.IntWalk
set_option maxRecDepth 100000
set_option maxHeartbeats 4000000
set_option linter.unusedSimpArgs false
set_option linter.unusedVariables false
def on_liii (p : List PV → Int → Int → Int → Prop) (f : List PV → Int → Int → Int → PV) : PSpec
  | [.sl a0, .int .i64 a1, .int .i64 a2, .int .i64 a3] => (p a0 a1 a2 a3, f a0 a1 a2 a3)
  | _ => (False, default)
theorem on_liii_eq {p : List PV → Int → Int → Int → Prop} {f : List PV → Int → Int → Int → PV} {a0 : List PV} {a1 : Int} {a2 : Int} {a3 : Int} : on_liii p f [.sl a0, .int .i64 a1, .int .i64 a2, .int .i64 a3] = (p a0 a1 a2 a3, f a0 a1 a2 a3) := rfl
theorem on_liii_inv {p : List PV → Int → Int → Int → Prop} {f : List PV → Int → Int → Int → PV} {args : List PV} (h : (on_liii p f args).1) : ∃ a0 : List PV, ∃ a1 : Int, ∃ a2 : Int, ∃ a3 : Int, args = [.sl a0, .int .i64 a1, .int .i64 a2, .int .i64 a3] ∧ p a0 a1 a2 a3 := by
  unfold on_liii at h
  split at h
  · exact ⟨_, _, _, _, rfl, h⟩
  · exact h.elim
theorem ze500 : zeroT Tryz.prog 68 = some (.agg (Array.replicate 500 (.int .i64 0))) := by kernel_rfl
def sumsT (en fr to : Int) (l : List Pst) : List Int := tab 500 fun i => balF en fr to ((i : Int) + 100) l
theorem rcnt {en fr to : Int} {x : Pst} : (decide (x.d < fr) || decide (to < x.d) || (en != 0) && (x.en != en)) = !cntB en fr to x := by
  unfold cntB amg
  rw [Bool.eq_iff_iff]
  by_cases h1 : en = 0 <;> by_cases h2 : x.en = en <;> simp [h1, h2] <;> omega
theorem clsI_pos {n : Int} (h : 0 < clsI n) : 100 ≤ n ∧ n ≤ 599 := by
  unfold clsI at h
  cases h1 : amg n 100 599 with
  | false => rw [h1] at h; simp at h
  | true => simpa [amg] using h1
/-- One posting more. -/
theorem sums_step {en fr to : Int} {l : List Pst} {x : Pst} (hc : cntB en fr to x = true) (hne : x.db ≠ x.cr) (hd : 100 ≤ x.db ∧ x.db ≤ 599) (hr : 100 ≤ x.cr ∧ x.cr ≤ 599) :
    ((sumsT en fr to l).set (x.db - 100).toNat (balF en fr to x.db l + x.am)).set (x.cr - 100).toNat (balF en fr to x.cr l - x.am) = sumsT en fr to (l ++ [x]) := by
  unfold sumsT
  rw [tab_set, tab_set]
  refine tab_congr (fun i hi => ?_)
  rw [bal_app]
  simp only [balF, hc, cond_true]
  by_cases h1 : i = (x.cr - 100).toNat
  · have e1 : (i : Int) + 100 = x.cr := by omega
    have e2 : ¬ i = (x.db - 100).toNat := by omega
    rw [e1]
    have e3 : (x.cr == x.db) = false := by simpa using fun h => hne h.symm
    simp [h1, e3]
    omega
  · have e1 : ((i : Int) + 100 == x.cr) = false := by simp; omega
    rw [e1]
    by_cases h2 : i = (x.db - 100).toNat
    · have e2 : (i : Int) + 100 = x.db := by omega
      rw [e2]; simp [h1, h2]
      intro h; omega
    · have e2 : ((i : Int) + 100 == x.db) = false := by simp; omega
      simp [h1, h2, e2]
theorem sums_skip {en fr to : Int} {l : List Pst} {x : Pst} (hc : cntB en fr to x = false) : sumsT en fr to (l ++ [x]) = sumsT en fr to l := by
  unfold sumsT
  refine tab_congr (fun i hi => ?_)
  rw [bal_app]
  simp [balF, hc]
def lsOf : PV → List Pst
  | .sl es => es.map psOf
  | _ => []
noncomputable def rsumS : PSpec := on_liii (fun es _ _ _ => ∃ l : List Pst, es = l.map psV ∧ (∀ x, x ∈ l → pB x = true) ∧ l.length ≤ 1000) (fun es en fr to => .agg (arrP (sumsT en fr to (es.map psOf))))
theorem w_rsumS : PSound GG 33 rsumS := by
  refine PSound.of_wpc (C := cxP Tryz.prog AE [] 58) (T := plan0) Tryz.func33 rfl rfl rfl (Fit.pure (G := GG) hAE mixed) (fun args h => ?_)
  unfold rsumS at h
  obtain ⟨es, en, fr, to, rfl, hp⟩ := on_liii_inv h
  refine ⟨by simp [cxP], ?_⟩
  simp only [rsumS, on_liii_eq, Tryz.f33, argL, plan0]
  obtain ⟨l, rfl, hpb, hl⟩ := hp
  simp only [map_psOf, ze500, arrV_rep, arrV_one, List.length_map, Tryz.underlying1, sz1, by1, ze1, Tryz.underlying2, sz2, by2, ze2, Tryz.underlying3, sz3, by3, ze3, Tryz.underlying4, sz4, by4, ze4, Tryz.underlying5, sz5, by5, ze5, Tryz.underlying25, sz25, by25, ze25, Tryz.underlying57, sz57, by57, ze57, fa57_0, fa57_1, fa57_2, fa57_3, fa57_4, fa57_5, fa57_6, fa57_7, Tryz.underlying68, sz68, by68, go_sem, ↓reduceIte, reduceCtorEq, Nat.reduceEqDiff, Nat.reduceLT, ↓all_qV, Int.reduceToNat, Int.reduceLT, Int.reduceLE, Nat.reduceAdd, Nat.reduceLeDiff, Nat.reduceMul]
  refine AWp.loop (T := plan0) (α := Nat) (fun i => ([(1, .pv (.int .i64 en)), (2, .pv (.int .i64 fr)), (3, .pv (.int .i64 to)), (8, .ptr 8 0), (9, .ptr 9 0), (12, .pv (.sl (l.map psV))), (13, .pv (.int .i64 l.length)), (14, .pv (.int .i64 i))], [(8, .cells (arrV (List.replicate 500 0))), (9, .cells (arrV (sumsT en fr to (l.take i))))]))
    (fun i => i ≤ l.length) (fun i => l.length - i)
    ⟨0, Nat.zero_le _, ⟨by simp [fitR, look], by simp [fitH, hget, sumsT, balF, tab_rep], rfl, rfl, rfl⟩⟩ ?_
  intro i hi
  have hi1 : IntKind.i64.wrap ((i : Int) + 1) = ((i + 1 : Nat) : Int) := by rw [i64_in _ (by omega)]; omega
  have hS : (sumsT en fr to (l.take i)).length = 500 := tab_len
  by_cases hlt : i < l.length
  · have c0 : decide ((i : Int) < (l.length : Int)) = true := by simp; omega
    have e1 := getD_ps hlt
    have hx := pB_parts (hpb _ (mem_getD' hlt))
    have hst := fun h1 h2 h3 h4 => sums_step (en := en) (fr := fr) (to := to) (l := l.take i) (x := l.getD i default) h1 h2 h3 h4
    have hsk := fun h1 => sums_skip (en := en) (fr := fr) (to := to) (l := l.take i) (x := l.getD i default) h1
    rw [← take_succ' hlt] at hst hsk
    have hrc := rcnt (en := en) (fr := fr) (to := to) (x := l.getD i default)
    have hbl := fun a => bal_le en fr to a (l.take i) (fun y hy => by have := pB_parts (hpb y (List.mem_of_mem_take hy)); omega)
    have htl : (l.take i).length ≤ 1000 := by rw [List.length_take]; omega
    generalize l.getD i default = x at e1 hx hst hsk hrc
    have hd := clsI_pos hx.2.2.2.1
    have hc := clsI_pos hx.2.2.2.2.1
    have hne := hx.2.2.2.2.2.1
    have ham := hx.2.2.2.2.2.2.1
    have gt : ∀ a : Int, 100 ≤ a → a ≤ 599 → (sumsT en fr to (l.take i)).getD (a - 100).toNat 0 = balF en fr to a (l.take i) := fun a h1 h2 => by
      unfold sumsT
      rw [tab_get (by omega), show (((a - 100).toNat : Nat) : Int) + 100 = a by omega]
    have hbd := hbl x.db
    have hbc := hbl x.cr
    have g1 := arrV_get (s := sumsT en fr to (l.take i)) (i := (x.db - 100).toNat) (by omega)
    rw [gt _ hd.1 hd.2] at g1
    have g2 := arrV_get_ne (s := sumsT en fr to (l.take i)) (i := (x.db - 100).toNat) (j := (x.cr - 100).toNat) (v := balF en fr to x.db (l.take i) + x.am) (by omega) (by omega)
    rw [gt _ hc.1 hc.2] at g2
    have hst := fun h1 => hst h1 hne hd hc
    generalize balF en fr to x.db (l.take i) = B1 at g1 g2 hst hbd
    generalize balF en fr to x.cr (l.take i) = B2 at g2 hst hbc
    generalize sumsT en fr to (l.take i) = S at hS g1 g2 hst hsk
    obtain ⟨nu, d, e, db, cr, am, pa, re⟩ := x
    simp only [psV] at e1
    simp only at hd hc ham g1 g2 hst hsk hrc
    have w1 : IntKind.i64.wrap (db - 100) = db - 100 := i64_in _ (by omega)
    have w2 : IntKind.i64.wrap (cr - 100) = cr - 100 := i64_in _ (by omega)
    have w3 : IntKind.i64.wrap (B1 + am) = B1 + am := i64_in _ (by omega)
    have w4 : IntKind.i64.wrap (B2 - am) = B2 - am := i64_in _ (by omega)
    simp (config := {maxSteps := 1000000}) only [c0, e1, hi1, hrc, w1, w2, w3, w4, g1, g2, Nat.mul_one, arrV_len, List.length_set, hS, arrV_set, arrV_kill, List.length_map, List.take_succ_cons, List.take_nil, Tryz.underlying1, sz1, by1, ze1, Tryz.underlying2, sz2, by2, ze2, Tryz.underlying3, sz3, by3, ze3, Tryz.underlying4, sz4, by4, ze4, Tryz.underlying5, sz5, by5, ze5, Tryz.underlying25, sz25, by25, ze25, Tryz.underlying57, sz57, by57, ze57, fa57_0, fa57_1, fa57_2, fa57_3, fa57_4, fa57_5, fa57_6, fa57_7, Tryz.underlying68, sz68, by68, plan0, go_sem, ↓reduceIte, reduceCtorEq, Nat.reduceEqDiff, Nat.reduceLT, ↓all_qV, Int.reduceToNat, Int.reduceLT, Int.reduceLE, Nat.reduceAdd, Nat.reduceLeDiff, Nat.reduceMul]
    have hb9 : cntB en fr to ⟨nu, d, e, db, cr, am, pa, re⟩ = false → sumsT en fr to (l.take (i + 1)) = S := fun h9 => hsk h9
    refine ⟨⟨by omega, by omega⟩, fun a b => by rw [a, b]; rfl, fun h9 => ⟨i + 1, by omega, by omega, ⟨by simp [fitR, look], by rw [hsk (by simpa using h9)]; simp [fitH, hget], rfl, rfl, rfl⟩⟩, fun h9 => ?_⟩
    and_intros
    all_goals try first | (show checkD _ _ _ = true; kernel_rfl) | omega | rfl
    exact ⟨i + 1, by omega, by omega, ⟨by simp [fitR, look], by rw [← hst (by simpa using h9)]; simp [fitH, hget], rfl, rfl, rfl⟩⟩
  · have c0 : decide ((i : Int) < (l.length : Int)) = false := by simp; omega
    rw [List.take_of_length_le (by omega)] at hS ⊢
    have hp := arrV_put (s := sumsT en fr to l) (t := List.replicate 500 0) (by rw [hS, List.length_replicate])
    simp only [c0, hp, hS, loadC_eq, arrV_len, arrV_one, arrV_take hS, arrV_frz, List.length_replicate, Tryz.underlying1, sz1, by1, ze1, Tryz.underlying2, sz2, by2, ze2, Tryz.underlying3, sz3, by3, ze3, Tryz.underlying4, sz4, by4, ze4, Tryz.underlying5, sz5, by5, ze5, Tryz.underlying25, sz25, by25, ze25, Tryz.underlying57, sz57, by57, ze57, fa57_0, fa57_1, fa57_2, fa57_3, fa57_4, fa57_5, fa57_6, fa57_7, Tryz.underlying68, sz68, by68, plan0, go_sem, ↓reduceIte, reduceCtorEq, Nat.reduceEqDiff, Nat.reduceLT, ↓all_qV, Int.reduceToNat, Int.reduceLT, Int.reduceLE, Nat.reduceAdd, Nat.reduceLeDiff, Nat.reduceMul]
    exact arrV_frzOk
noncomputable def AF (g : FuncId) : PSpec := (putΦ AE 33 rsumS) g
theorem hAF : TabSound GG AF := (hAE.put w_rsumS)
end Go.AM
