/-
  A part of a proof: see the last text of this claim for what is proved.
-/
import Derived.Test.YtdbnifmcikljdaaGreatDoorR6t
import Derived.Test.YtdbnifmcikljdaaGreatDoorCD
import Derived.Test.YtdbnifmcikljdaaGreatDoorDM
import Derived.IntWalk
import Derived.Test.YtdbnifmcikljdaaGreatDoorZMa
namespace Go.AM
open Go Go.Proofs Go.IntWalk
set_option maxRecDepth 100000
set_option linter.unusedSimpArgs false
set_option linter.unusedVariables false
def plan0 : Plan := { keep := fun _ => none, cut := fun _ => false, stop := fun _ => false }
noncomputable def GG : Glob := globE Tryz.prog 0 1 4 5 6 (by decide) (by kernel_rfl)
theorem mixed : GG.P.follows .mixedOrders = true := by kernel_rfl
noncomputable def Φ0 : FuncId → PSpec := fun _ => noSpec
theorem hΦ0 : TabSound GG Φ0 := TabSound.nil
theorem hnoΘ : QTab GG noΘ := QTab.nil
theorem hnoΨ : ETab GG noΨ := ETab.nil
def on_ (p : Prop) (f : PV) : PSpec
  | [] => (p , f )
  | _ => (False, default)
theorem on__eq {p : Prop} {f : PV}  : on_ p f [] = (p , f ) := rfl
theorem on__inv {p : Prop} {f : PV} {args : List PV} (h : (on_ p f args).1) : args = [] ∧ p  := by
  unfold on_ at h
  split at h
  · exact ⟨rfl, h⟩
  · exact h.elim
def on_ii (p : Int → Int → Prop) (f : Int → Int → PV) : PSpec
  | [.int .i64 a0, .int .i64 a1] => (p a0 a1, f a0 a1)
  | _ => (False, default)
theorem on_ii_eq {p : Int → Int → Prop} {f : Int → Int → PV} {a0 : Int} {a1 : Int} : on_ii p f [.int .i64 a0, .int .i64 a1] = (p a0 a1, f a0 a1) := rfl
theorem on_ii_inv {p : Int → Int → Prop} {f : Int → Int → PV} {args : List PV} (h : (on_ii p f args).1) : ∃ a0 : Int, ∃ a1 : Int, args = [.int .i64 a0, .int .i64 a1] ∧ p a0 a1 := by
  unfold on_ii at h
  split at h
  · exact ⟨_, _, rfl, h⟩
  · exact h.elim
def on_iii (p : Int → Int → Int → Prop) (f : Int → Int → Int → PV) : PSpec
  | [.int .i64 a0, .int .i64 a1, .int .i64 a2] => (p a0 a1 a2, f a0 a1 a2)
  | _ => (False, default)
theorem on_iii_eq {p : Int → Int → Int → Prop} {f : Int → Int → Int → PV} {a0 : Int} {a1 : Int} {a2 : Int} : on_iii p f [.int .i64 a0, .int .i64 a1, .int .i64 a2] = (p a0 a1 a2, f a0 a1 a2) := rfl
theorem on_iii_inv {p : Int → Int → Int → Prop} {f : Int → Int → Int → PV} {args : List PV} (h : (on_iii p f args).1) : ∃ a0 : Int, ∃ a1 : Int, ∃ a2 : Int, args = [.int .i64 a0, .int .i64 a1, .int .i64 a2] ∧ p a0 a1 a2 := by
  unfold on_iii at h
  split at h
  · exact ⟨_, _, _, rfl, h⟩
  · exact h.elim
def on_l (p : List PV → Prop) (f : List PV → PV) : PSpec
  | [.sl a0] => (p a0, f a0)
  | _ => (False, default)
theorem on_l_eq {p : List PV → Prop} {f : List PV → PV} {a0 : List PV} : on_l p f [.sl a0] = (p a0, f a0) := rfl
theorem on_l_inv {p : List PV → Prop} {f : List PV → PV} {args : List PV} (h : (on_l p f args).1) : ∃ a0 : List PV, args = [.sl a0] ∧ p a0 := by
  unfold on_l at h
  split at h
  · exact ⟨_, rfl, h⟩
  · exact h.elim
def on_p (p : PV → Prop) (f : PV → PV) : PSpec
  | [a0] => (p a0, f a0)
  | _ => (False, default)
theorem on_p_eq {p : PV → Prop} {f : PV → PV} {a0 : PV} : on_p p f [a0] = (p a0, f a0) := rfl
theorem on_p_inv {p : PV → Prop} {f : PV → PV} {args : List PV} (h : (on_p p f args).1) : ∃ a0 : PV, args = [a0] ∧ p a0 := by
  unfold on_p at h
  split at h
  · exact ⟨_, rfl, h⟩
  · exact h.elim
def on_lp (p : List PV → PV → Prop) (f : List PV → PV → PV) : PSpec
  | [.sl a0, a1] => (p a0 a1, f a0 a1)
  | _ => (False, default)
theorem on_lp_eq {p : List PV → PV → Prop} {f : List PV → PV → PV} {a0 : List PV} {a1 : PV} : on_lp p f [.sl a0, a1] = (p a0 a1, f a0 a1) := rfl
theorem on_lp_inv {p : List PV → PV → Prop} {f : List PV → PV → PV} {args : List PV} (h : (on_lp p f args).1) : ∃ a0 : List PV, ∃ a1 : PV, args = [.sl a0, a1] ∧ p a0 a1 := by
  unfold on_lp at h
  split at h
  · exact ⟨_, _, rfl, h⟩
  · exact h.elim
def isI (p : PV) : Prop := ∃ n, p = .int .i64 n ∧ -9223372036854775808 ≤ n ∧ n ≤ 9223372036854775807
def intV (n : Int) : PV := .int .i64 n
def arg1 : List PV → Int
  | .int _ k :: _ => k
  | _ => 0
def arg2 : List PV → Int
  | _ :: .int _ k :: _ => k
  | _ => 0
def Tp (cs : List PV) : Prop := ∃ (ints : List PV) (k : Nat), cs = [.sl ints, .int .i64 k] ∧ k ≤ ints.length ∧ ints.length ≤ 900 ∧ ∀ e, e ∈ ints → isI e
def preN (args : List PV) : Prop := ∃ k : Int, args = [.int .i64 k] ∧ 1 ≤ k ∧ k ≤ 1000000000000000000
theorem preN_eq {k : Int} : preN [.int .i64 k] = (1 ≤ k ∧ k ≤ 1000000000000000000) := propext ⟨fun ⟨k', e, h⟩ => by simp only [List.cons.injEq, PV.int.injEq, and_true, true_and] at e; subst e; exact h, fun h => ⟨k, rfl, h⟩⟩
def okN (args : List PV) (n : Int) : Prop := 0 ≤ n ∧ n < arg1 args
noncomputable def nS : QSpec := qV Tp preN intV okN
theorem w_nS : QSound GG 25 nS := by
  unfold nS
  refine QSound.of_wpcV (C := cxQ Tryz.prog Φ0 noΘ noΨ [] [9000] 43) 9000 Tryz.func25 rfl rfl rfl (Fit.all (G := GG) hΦ0 hnoΘ hnoΨ mixed) rfl (fun args h => ?_) (fun args h => ?_)
  · obtain ⟨k, rfl, h1, h2⟩ := h
    exact ⟨0, Int.le_refl _, h1⟩
  · obtain ⟨k, rfl, h1, h2⟩ := h
    refine ⟨by simp [cxQ], ?_⟩
    refine AWp.look_in (κ := 9000) (J := Tp) rfl (fun cs hJ hone => ?_)
    obtain ⟨ints, at', rfl, hk, hl, hi⟩ := hJ
    refine wpc_sound (T := plan0) _ _ _ ?_
    have ck : decide (k < 1) = false := by simp; omega
    by_cases hlt : at' < ints.length
    · obtain ⟨m, hm, hm1, hm2⟩ : ∃ m, ints.getD at' default = .int .i64 m ∧ -9223372036854775808 ≤ m ∧ m ≤ 9223372036854775807 := by
        have h3 := hi (ints[at']'hlt) (List.getElem_mem _)
        obtain ⟨m, e, b1, b2⟩ := h3
        exact ⟨m, by simp [List.getD_eq_getElem?_getD, hlt, e], b1, b2⟩
      have c1 : decide ((ints.length : Int) ≤ (at' : Int)) = false := by simp; omega
      have hw : IntKind.i64.wrap ((at' : Int) + 1) = ((at' + 1 : Nat) : Int) := by rw [i64_in _ (by omega)]; omega
      have hw2 : IntKind.i64.wrap (((at' + 1 : Nat) : Int) - 1) = (at' : Int) := by rw [i64_in _ (by omega)]; omega
      simp only [c1, ck, hm, hw, hw2, List.map_cons, List.map_nil, Tryz.underlying1, sz1, by1, ze1, Tryz.underlying3, sz3, by3, ze3, Tryz.underlying4, sz4, by4, ze4, Tryz.underlying22, sz22, by22, ze22, Tryz.underlying29, sz29, by29, ze29, Tryz.underlying59, sz59, by59, ze59, fa59_0, fa59_1, Tryz.f25, plan0, go_sem, ↓reduceIte, reduceCtorEq, Nat.reduceEqDiff, Nat.reduceLT, ↓all_qV, Int.reduceToNat, Int.reduceLT, Int.reduceLE, Nat.reduceAdd, Nat.reduceLeDiff, Nat.reduceMul]
      have tp : Tp [.sl ints, .int .i64 ((at' + 1 : Nat) : Int)] := ⟨ints, at' + 1, rfl, by omega, hl, hi⟩
      have b1 : m.tmod k < k := Int.tmod_lt_of_pos m (by omega)
      have b2 : -k < m.tmod k := Int.lt_tmod_of_pos m (by omega)
      have b3 : IntKind.i64.wrap (m.tmod k + k) = m.tmod k + k := i64_in _ (by omega)
      have b4 : (m.tmod k + k).tmod k = (m.tmod k + k) % k := Int.tmod_eq_emod_of_nonneg (by omega)
      rw [b3, b4]
      refine ⟨by kernel_rfl, by kernel_rfl, by omega, by omega, by omega, ⟨_, rfl, tp, rfl⟩, ⟨_, rfl, Int.emod_nonneg _ (by omega), Int.emod_lt_of_pos _ (by omega)⟩⟩
    · have c1 : decide ((ints.length : Int) ≤ (at' : Int)) = true := by simp; omega
      simp only [c1, ck, List.map_cons, List.map_nil, Tryz.underlying1, sz1, by1, ze1, Tryz.underlying3, sz3, by3, ze3, Tryz.underlying4, sz4, by4, ze4, Tryz.underlying22, sz22, by22, ze22, Tryz.underlying29, sz29, by29, ze29, Tryz.underlying59, sz59, by59, ze59, fa59_0, fa59_1, Tryz.f25, plan0, go_sem, ↓reduceIte, reduceCtorEq, Nat.reduceEqDiff, Nat.reduceLT, ↓all_qV, Int.reduceToNat, Int.reduceLT, Int.reduceLE, Nat.reduceAdd, Nat.reduceLeDiff, Nat.reduceMul]
      refine ⟨by kernel_rfl, ⟨_, rfl, ⟨ints, at', rfl, hk, hl, hi⟩, rfl⟩, ⟨0, rfl, Int.le_refl _, h1⟩⟩
noncomputable def Θ1 (g : FuncId) : Option QSpec := putΘ noΘ 25 (qV Tp preN intV okN) g
theorem hΘ1 : QTab GG Θ1 := hnoΘ.put w_nS
def preT (args : List PV) : Prop := ∃ es, args = [.sl es] ∧ es.length ≤ 9223372036854775807 ∧ ∀ e, e ∈ es → isI e
theorem preT_eq {es : List PV} : preT [.sl es] = (es.length ≤ 9223372036854775807 ∧ ∀ e, e ∈ es → isI e) := propext ⟨fun ⟨es', e, h⟩ => by simp only [List.cons.injEq, PV.sl.injEq, and_true] at e; subst e; exact h, fun h => ⟨es, rfl, h⟩⟩
noncomputable def newS : ESpec := psiNew Tp preT
theorem w_newS : ESound GG 6 newS := by
  unfold newS
  refine ESound.of_new (C := cxQ Tryz.prog Φ0 noΘ noΨ [] [] 10) (T := plan0) Tryz.func6 rfl rfl rfl rfl (Fit.all (G := GG) hΦ0 hnoΘ hnoΨ mixed) (fun args h => ?_)
  obtain ⟨es, rfl, h1, h2⟩ := h
  refine ⟨by simp [cxQ], ?_⟩
  simp only [Tryz.underlying3, sz3, by3, ze3, Tryz.underlying22, sz22, by22, ze22, Tryz.underlying29, sz29, by29, ze29, Tryz.underlying59, sz59, by59, ze59, fa59_0, fa59_1, Tryz.f6, plan0, go_sem, ↓reduceIte, reduceCtorEq, Nat.reduceEqDiff, Nat.reduceLT, ↓all_qV, Int.reduceToNat, Int.reduceLT, Int.reduceLE, Nat.reduceAdd, Nat.reduceLeDiff, Nat.reduceMul]
  refine ⟨⟨by split <;> omega, by split <;> omega, fun p hp => ?_⟩, _, rfl, ⟨_, 0, rfl, Nat.zero_le _, ?_, fun e he => h2 e (List.mem_of_mem_take he)⟩, rfl⟩
  · obtain ⟨n, rfl, _⟩ := h2 p hp; rfl
  · rw [List.length_take]
    split <;> omega
noncomputable def Ψ1 (g : FuncId) : Option ESpec := putΨ noΨ 6 newS g
theorem hΨ1 : ETab GG Ψ1 := hnoΨ.put w_newS psiNew_mono
end Go.AM
