/-
  A part of a proof: see the last text of this claim for what is proved.
-/
import Derived.Test.YtamiheckgglgaaaGreatDoorB4u
import Derived.Test.YtamiheckgglgaaaGreatDoorZMa
namespace Go.AM
open Go Go.Proofs Go.IntWalk
set_option maxRecDepth 100000
set_option maxHeartbeats 1000000
set_option linter.unusedSimpArgs false
set_option linter.unusedVariables false
noncomputable def Cg (g : FuncId) : PSpec := (putΦ (putΦ Cf 9 rfmtS) 61 numS) g
theorem hCg : TabSound GG Cg := ((hCf.put w_rfmtS).put w_numS)
def rdS : Nat → List (List UInt8) → List UInt8 → List (List UInt8)
  | _, fs, [] => fs
  | k, fs, c :: r => bif c == 32 && decide (k < 3) then rdS (k + 1) fs r else rdS k (fs.set k (fs.getD k [] ++ [c])) r
def rrdW : List (List UInt8) → Bid
  | [a, b, c, d] => ⟨numF a, numF b, bif d == freeT then 0 else numF d, numF c, d == freeT⟩
  | _ => default
def rreadL (s : List UInt8) : Bid := rrdW (rdS 0 [[], [], [], []] s)
noncomputable def rreadS : PSpec := on_s (fun s => s.length ≤ 1000000) (fun s => bidV (rreadL s))
theorem k_rreadS_61 {args : List PV} : Cg 61 args = numS args := rfl
theorem w_rreadS : PSound GG 44 rreadS := by
  refine PSound.of_wpc (C := cxP Tryz.prog Cg [] 52) (T := plan0) Tryz.func44 rfl rfl rfl (Fit.pure (G := GG) hCg mixed) (fun args h => ?_)
  unfold rreadS at h
  obtain ⟨s, rfl, hp⟩ := on_s_inv h
  refine ⟨by simp [cxP], ?_⟩
  simp only [rreadS, on_s_eq, Tryz.f44, argL, plan0]
  simp only [k_rreadS_61, numS, on_s_eq, Tryz.underlying2, sz2, by2, ze2, Tryz.underlying3, sz3, by3, ze3, Tryz.underlying4, sz4, by4, ze4, Tryz.underlying5, sz5, by5, ze5, Tryz.underlying9, sz9, by9, ze9, Tryz.underlying29, sz29, by29, ze29, fa29_0, fa29_1, fa29_2, fa29_3, fa29_4, Tryz.underlying44, sz44, by44, ze44, go_sem, ↓reduceIte, reduceCtorEq, Nat.reduceEqDiff, Nat.reduceLT, ↓all_qV, Int.reduceToNat, Int.reduceLT, Int.reduceLE, Nat.reduceAdd, Nat.reduceLeDiff, Nat.reduceMul]
  refine AWp.loop (T := plan0) (α := Nat × Nat × List UInt8 × List UInt8 × List UInt8 × List UInt8) (fun z => ([(0, .pv (.str s)), (3, .ptr 3 0), (4, .pv (.int .i64 z.2.1)), (5, .pv (.int .i64 z.1)), (2, .ptr 2 0)], [(3, .cells [.pv (.str z.2.2.1), .pv (.str z.2.2.2.1), .pv (.str z.2.2.2.2.1), .pv (.str z.2.2.2.2.2)]), (2, .cells [.pv (.int .i64 0), .pv (.int .i64 0), .pv (.int .i64 0), .pv (.int .i64 0), .pv (.bool false)])]))
    (fun z => (z.1 ≤ s.length ∧ z.2.1 ≤ 3) ∧ (z.2.2.1.length ≤ z.1 ∧ z.2.2.2.1.length ≤ z.1 ∧ z.2.2.2.2.1.length ≤ z.1 ∧ z.2.2.2.2.2.length ≤ z.1) ∧ rdS 0 [[], [], [], []] s = rdS z.2.1 [z.2.2.1, z.2.2.2.1, z.2.2.2.2.1, z.2.2.2.2.2] (s.drop z.1)) (fun z => s.length - z.1)
    ⟨(0, 0, [], [], [], []), ⟨⟨Nat.zero_le _, by decide⟩, ⟨by decide, by decide, by decide, by decide⟩, rfl⟩, ⟨by simp [fitR, look], by simp [fitH, hget], rfl, rfl, rfl⟩⟩ ?_
  rintro ⟨i, k, f0, f1, f2, f3⟩ ⟨⟨g1, g2⟩, ⟨l0, l1, l2, l3⟩, g4⟩
  simp only at g1 g2 l0 l1 l2 l3 g4
  have hi1 : IntKind.i64.wrap ((i : Int) + 1) = ((i + 1 : Nat) : Int) := by rw [i64_in _ (by omega)]; omega
  by_cases hlt : i < s.length
  · have c0 : decide ((i : Int) < (s.length : Int)) = true := by simp; omega
    have hd : s.drop i = s.getD i 0 :: s.drop (i + 1) := by rw [List.drop_eq_getElem_cons hlt]; simp [List.getD_eq_getElem?_getD, hlt]
    rw [hd, rdS] at g4
    have htk : (s.take (i + 1)).drop i = [s.getD i 0] := by
      rw [List.drop_take, hd]; simp
    obtain ⟨c, hc⟩ : ∃ c, s.getD i 0 = c := ⟨_, rfl⟩
    rw [hc] at g4 hd htk
    have k1 : ((c.toNat : Int) == 32) = (c == 32) := by
      rw [Bool.eq_iff_iff]; simp only [beq_iff_eq]
      exact ⟨fun h => UInt8.toNat_inj.1 (by simp; omega), fun h => by subst h; rfl⟩
    have q1 : IntKind.i64.wrap (0 + 1) = 1 := by decide
    have q2 : IntKind.i64.wrap (1 + 1) = 2 := by decide
    have q3 : IntKind.i64.wrap (2 + 1) = 3 := by decide
    rcases (show k = 0 ∨ k = 1 ∨ k = 2 ∨ k = 3 by omega) with rfl | rfl | rfl | rfl
    · simp only [c0, hi1, hc, k1, htk, q1, q2, q3, indexA, Int.toNat_natCast, decide_true, decide_false, Bool.and_true, Bool.and_false, Bool.false_eq_true, false_implies, true_and, k_rreadS_61, numS, on_s_eq, Tryz.underlying2, sz2, by2, ze2, Tryz.underlying3, sz3, by3, ze3, Tryz.underlying4, sz4, by4, ze4, Tryz.underlying5, sz5, by5, ze5, Tryz.underlying9, sz9, by9, ze9, Tryz.underlying29, sz29, by29, ze29, fa29_0, fa29_1, fa29_2, fa29_3, fa29_4, Tryz.underlying44, sz44, by44, ze44, plan0, go_sem, ↓reduceIte, reduceCtorEq, Nat.reduceEqDiff, Nat.reduceLT, ↓all_qV, Int.reduceToNat, Int.reduceLT, Int.reduceLE, Nat.reduceAdd, Nat.reduceLeDiff, Nat.reduceMul, ev_callG, gcallK_b, gcallK_w, callGc_true, callGc_false, List.forall_mem_cons, List.not_mem_nil, PV.one, AV.one]
      refine ⟨⟨by omega, by omega⟩, fun h9 => ⟨(i + 1, 1, f0, f1, f2, f3), ⟨⟨by simp only; omega, by simp only; omega⟩, ⟨by simp only; omega, by simp only; omega, by simp only; omega, by simp only; omega⟩, by rw [g4, h9]; rfl⟩, by simp only; omega, ⟨by simp [fitR, look], by simp [fitH, hget], rfl, rfl, rfl⟩⟩, fun h9 => ?_⟩
      rw [h9] at g4
      and_intros
      all_goals try first | (show checkD _ _ _ = true; kernel_rfl) | omega | (simp only [List.length_cons, List.length_nil]; omega)
      exact ⟨(i + 1, 0, f0 ++ [c], f1, f2, f3), ⟨⟨by simp only; omega, by simp only; omega⟩, ⟨by simp only [List.length_append, List.length_cons, List.length_nil]; omega, by simp only; omega, by simp only; omega, by simp only; omega⟩, g4⟩, by simp only; omega, ⟨by simp [fitR, look], by simp [fitH, hget, hset], rfl, rfl, rfl⟩⟩
    · simp only [c0, hi1, hc, k1, htk, q1, q2, q3, indexA, Int.toNat_natCast, decide_true, decide_false, Bool.and_true, Bool.and_false, Bool.false_eq_true, false_implies, true_and, k_rreadS_61, numS, on_s_eq, Tryz.underlying2, sz2, by2, ze2, Tryz.underlying3, sz3, by3, ze3, Tryz.underlying4, sz4, by4, ze4, Tryz.underlying5, sz5, by5, ze5, Tryz.underlying9, sz9, by9, ze9, Tryz.underlying29, sz29, by29, ze29, fa29_0, fa29_1, fa29_2, fa29_3, fa29_4, Tryz.underlying44, sz44, by44, ze44, plan0, go_sem, ↓reduceIte, reduceCtorEq, Nat.reduceEqDiff, Nat.reduceLT, ↓all_qV, Int.reduceToNat, Int.reduceLT, Int.reduceLE, Nat.reduceAdd, Nat.reduceLeDiff, Nat.reduceMul, ev_callG, gcallK_b, gcallK_w, callGc_true, callGc_false, List.forall_mem_cons, List.not_mem_nil, PV.one, AV.one]
      refine ⟨⟨by omega, by omega⟩, fun h9 => ⟨(i + 1, 2, f0, f1, f2, f3), ⟨⟨by simp only; omega, by simp only; omega⟩, ⟨by simp only; omega, by simp only; omega, by simp only; omega, by simp only; omega⟩, by rw [g4, h9]; rfl⟩, by simp only; omega, ⟨by simp [fitR, look], by simp [fitH, hget], rfl, rfl, rfl⟩⟩, fun h9 => ?_⟩
      rw [h9] at g4
      and_intros
      all_goals try first | (show checkD _ _ _ = true; kernel_rfl) | omega | (simp only [List.length_cons, List.length_nil]; omega)
      exact ⟨(i + 1, 1, f0, f1 ++ [c], f2, f3), ⟨⟨by simp only; omega, by simp only; omega⟩, ⟨by simp only; omega, by simp only [List.length_append, List.length_cons, List.length_nil]; omega, by simp only; omega, by simp only; omega⟩, g4⟩, by simp only; omega, ⟨by simp [fitR, look], by simp [fitH, hget, hset], rfl, rfl, rfl⟩⟩
    · simp only [c0, hi1, hc, k1, htk, q1, q2, q3, indexA, Int.toNat_natCast, decide_true, decide_false, Bool.and_true, Bool.and_false, Bool.false_eq_true, false_implies, true_and, k_rreadS_61, numS, on_s_eq, Tryz.underlying2, sz2, by2, ze2, Tryz.underlying3, sz3, by3, ze3, Tryz.underlying4, sz4, by4, ze4, Tryz.underlying5, sz5, by5, ze5, Tryz.underlying9, sz9, by9, ze9, Tryz.underlying29, sz29, by29, ze29, fa29_0, fa29_1, fa29_2, fa29_3, fa29_4, Tryz.underlying44, sz44, by44, ze44, plan0, go_sem, ↓reduceIte, reduceCtorEq, Nat.reduceEqDiff, Nat.reduceLT, ↓all_qV, Int.reduceToNat, Int.reduceLT, Int.reduceLE, Nat.reduceAdd, Nat.reduceLeDiff, Nat.reduceMul, ev_callG, gcallK_b, gcallK_w, callGc_true, callGc_false, List.forall_mem_cons, List.not_mem_nil, PV.one, AV.one]
      refine ⟨⟨by omega, by omega⟩, fun h9 => ⟨(i + 1, 3, f0, f1, f2, f3), ⟨⟨by simp only; omega, by simp only; omega⟩, ⟨by simp only; omega, by simp only; omega, by simp only; omega, by simp only; omega⟩, by rw [g4, h9]; rfl⟩, by simp only; omega, ⟨by simp [fitR, look], by simp [fitH, hget], rfl, rfl, rfl⟩⟩, fun h9 => ?_⟩
      rw [h9] at g4
      and_intros
      all_goals try first | (show checkD _ _ _ = true; kernel_rfl) | omega | (simp only [List.length_cons, List.length_nil]; omega)
      exact ⟨(i + 1, 2, f0, f1, f2 ++ [c], f3), ⟨⟨by simp only; omega, by simp only; omega⟩, ⟨by simp only; omega, by simp only; omega, by simp only [List.length_append, List.length_cons, List.length_nil]; omega, by simp only; omega⟩, g4⟩, by simp only; omega, ⟨by simp [fitR, look], by simp [fitH, hget, hset], rfl, rfl, rfl⟩⟩
    · simp only [c0, hi1, hc, k1, htk, q1, q2, q3, indexA, Int.toNat_natCast, decide_true, decide_false, Bool.and_true, Bool.and_false, Bool.false_eq_true, false_implies, true_and, k_rreadS_61, numS, on_s_eq, Tryz.underlying2, sz2, by2, ze2, Tryz.underlying3, sz3, by3, ze3, Tryz.underlying4, sz4, by4, ze4, Tryz.underlying5, sz5, by5, ze5, Tryz.underlying9, sz9, by9, ze9, Tryz.underlying29, sz29, by29, ze29, fa29_0, fa29_1, fa29_2, fa29_3, fa29_4, Tryz.underlying44, sz44, by44, ze44, plan0, go_sem, ↓reduceIte, reduceCtorEq, Nat.reduceEqDiff, Nat.reduceLT, ↓all_qV, Int.reduceToNat, Int.reduceLT, Int.reduceLE, Nat.reduceAdd, Nat.reduceLeDiff, Nat.reduceMul, ev_callG, gcallK_b, gcallK_w, callGc_true, callGc_false, List.forall_mem_cons, List.not_mem_nil, PV.one, AV.one]
      have h9 : (c == 32 && decide (3 < 3)) = false := by simp
      rw [h9] at g4
      and_intros
      all_goals try first | (show checkD _ _ _ = true; kernel_rfl) | omega | (simp only [List.length_cons, List.length_nil]; omega)
      exact ⟨(i + 1, 3, f0, f1, f2, f3 ++ [c]), ⟨⟨by simp only; omega, by simp only; omega⟩, ⟨by simp only; omega, by simp only; omega, by simp only; omega, by simp only [List.length_append, List.length_cons, List.length_nil]; omega⟩, g4⟩, by simp only; omega, ⟨by simp [fitR, look], by simp [fitH, hget, hset], rfl, rfl, rfl⟩⟩
  · have c0 : decide ((i : Int) < (s.length : Int)) = false := by simp; omega
    rw [List.drop_eq_nil_of_le (by omega), rdS] at g4
    have hres : rreadL s = ⟨numF f0, numF f1, bif f3 == freeT then 0 else numF f3, numF f2, f3 == freeT⟩ := by unfold rreadL; rw [g4]; rfl
    rw [hres]
    cases hf : f3 == freeT
    all_goals
      have hf2 := hf
      unfold freeT at hf2
      simp only [c0, hf2, loadC_eq, bidV, cond_true, cond_false, List.take_succ_cons, List.take_nil, Bool.false_eq_true, false_implies, true_and, k_rreadS_61, numS, on_s_eq, Tryz.underlying2, sz2, by2, ze2, Tryz.underlying3, sz3, by3, ze3, Tryz.underlying4, sz4, by4, ze4, Tryz.underlying5, sz5, by5, ze5, Tryz.underlying9, sz9, by9, ze9, Tryz.underlying29, sz29, by29, ze29, fa29_0, fa29_1, fa29_2, fa29_3, fa29_4, Tryz.underlying44, sz44, by44, ze44, plan0, go_sem, ↓reduceIte, reduceCtorEq, Nat.reduceEqDiff, Nat.reduceLT, ↓all_qV, Int.reduceToNat, Int.reduceLT, Int.reduceLE, Nat.reduceAdd, Nat.reduceLeDiff, Nat.reduceMul, ev_callG, gcallK_b, gcallK_w, callGc_true, callGc_false, List.forall_mem_cons, List.not_mem_nil, PV.one, AV.one]
      exact ⟨by kernel_rfl, by omega, by omega, by omega, by omega⟩
noncomputable def Ch (g : FuncId) : PSpec := (putΦ Cg 44 rreadS) g
theorem hCh : TabSound GG Ch := (hCg.put w_rreadS)
end Go.AM
namespace Go.AM
open Go Go.Proofs Go.IntWalk
set_option maxRecDepth 100000
set_option maxHeartbeats 1000000
set_option linter.unusedSimpArgs false
set_option linter.unusedVariables false
theorem nDig10 : ∀ (k u : Nat), u < 10 ^ (k + 1) → Lib.nDigits u ≤ k + 1
  | 0, u, h => by rw [Lib.nDigits_small (by simpa using h)]; exact Nat.le_refl _
  | k + 1, u, h => by
    by_cases h1 : u < 10
    · rw [Lib.nDigits_small h1]; omega
    · rw [Lib.nDigits_big h1]
      have := nDig10 k (u / 10) (by rw [Nat.pow_succ] at h; omega)
      omega
theorem numG_dec (u : Nat) : ∀ r : List UInt8, numG 0 (Lib.decDigits u ++ r) = numG u r := by
  have dstep : ∀ (n : Int) (d : Nat) (r : List UInt8), d < 10 → numG n (UInt8.ofNat (48 + d) :: r) = numG (10 * n + d) r := by
    intro n d r hd
    have h := digB hd
    rw [numG, h, decide_eq_false (by omega), decide_eq_false (by omega)]
    simp only [Bool.or_self, cond_false]
    congr 1
    omega
  induction u using Nat.strongRecOn with
  | _ u ih =>
    intro r
    by_cases h : u < 10
    · rw [Lib.decDigits_one h]
      show numG 0 (UInt8.ofNat (48 + u) :: r) = _
      rw [dstep 0 u r h]
      congr 1
      omega
    · have hm : u % 10 < 10 := Nat.mod_lt _ (by decide)
      rw [Lib.decDigits, dif_neg h, List.append_assoc, ih (u / 10) (by omega)]
      show numG ((u / 10 : Nat) : Int) (UInt8.ofNat (48 + u % 10) :: r) = _
      rw [dstep _ (u % 10) r hm]
      congr 1
      omega
theorem numF_itoa {n : Int} (h0 : 0 ≤ n) (h1 : n ≤ 1000000000) : numF (Lib.itoa n) = n := by
  obtain ⟨u, rfl⟩ := Int.eq_ofNat_of_zero_le h0
  rw [itoa_dec h0, Int.toNat_natCast]
  unfold numF
  have hne := dec_ne u
  have hl := Lib.decDigits_length u
  have h10 := nDig10 9 u (by have : (10 : Nat) ^ 10 = 10000000000 := by decide
                             omega)
  have hg := numG_dec u []
  rw [List.append_nil, numG] at hg
  have : ((Lib.decDigits u).isEmpty || decide (10 < (Lib.decDigits u).length)) = false := by
    cases hd : Lib.decDigits u with
    | nil => exact absurd hd hne
    | cons c r => rw [← hd, hl]; simp only [Bool.or_eq_false_iff, decide_eq_false_iff_not]; exact ⟨by rw [hd]; rfl, by omega⟩
  rw [this, hg]; rfl
theorem rdS_field : ∀ (a : List UInt8) (k : Nat) (fs : List (List UInt8)) (r : List UInt8), (32 : UInt8) ∉ a → k < fs.length → rdS k fs (a ++ r) = rdS k (fs.set k (fs.getD k [] ++ a)) r
  | [], k, fs, r, _, hk => by
    have : fs.set k (fs.getD k [] ++ []) = fs := by
      rw [List.append_nil]
      apply List.ext_getElem?
      intro j
      rw [List.getElem?_set]
      split
      · rename_i e; subst e; simp [hk, List.getD_eq_getElem?_getD]
      · rfl
    rw [this]; rfl
  | c :: a, k, fs, r, h, hk => by
    have hc : (c == 32) = false := by
      simp only [List.mem_cons, not_or] at h
      simp only [beq_eq_false_iff_ne]; exact fun e => h.1 e.symm
    rw [List.cons_append, rdS, hc]
    simp only [Bool.false_and, cond_false]
    rw [rdS_field a k _ r (fun h9 => h (List.mem_cons_of_mem _ h9)) (by rw [List.length_set]; exact hk)]
    congr 1
    rw [List.set_set]
    congr 1
    simp [List.getD_eq_getElem?_getD, hk]
theorem rdS_space {k : Nat} {fs : List (List UInt8)} {r : List UInt8} (h : k < 3) : rdS k fs (32 :: r) = rdS (k + 1) fs r := by
  rw [rdS, decide_eq_true h]; rfl
theorem rread_line {x : Bid} (h : vB x = true) : rreadL (lineL x) = x := by
  obtain ⟨⟨b1, b2⟩, ⟨n1, n2⟩, ⟨a1, a2⟩, p1, p2⟩ := vB_parts h
  have hp : 0 ≤ x.p ∧ x.p ≤ 200000 := by cases hf : x.f <;> simp [hf] at p1 p2 <;> omega
  have s1 := itoa_no (n := x.b) (by omega) (c := 32) (by decide)
  have s2 := itoa_no (n := x.n) (by omega) (c := 32) (by decide)
  have s3 := itoa_no (n := x.a) (by omega) (c := 32) (by decide)
  have s4 := last_no h (c := 32) (by decide)
  have e4 : lineL x = Lib.itoa x.b ++ 32 :: (Lib.itoa x.n ++ 32 :: (Lib.itoa x.a ++ 32 :: (lastW x ++ []))) := by rw [List.append_nil]; rfl
  unfold rreadL
  rw [e4, rdS_field _ _ _ _ s1 (by decide), rdS_space (by decide), rdS_field _ _ _ _ s2 (by simp), rdS_space (by decide), rdS_field _ _ _ _ s3 (by simp), rdS_space (by decide), rdS_field _ _ _ _ s4 (by simp)]
  show (⟨numF (Lib.itoa x.b), numF (Lib.itoa x.n), bif lastW x == freeT then 0 else numF (lastW x), numF (Lib.itoa x.a), lastW x == freeT⟩ : Bid) = x
  rw [numF_itoa (by omega) (by omega), numF_itoa (by omega) (by omega), numF_itoa (by omega) (by omega)]
  obtain ⟨b, n, p, a, f⟩ := x
  simp only at p1 p2 hp
  cases f with
  | true => simp only [lastW, cond_true, beq_self_eq_true]; rw [p1 rfl]
  | false => simp only [lastW, cond_false, free_ne hp.1]; rw [numF_itoa hp.1 (by omega)]
/-- The reference's test of a line. -/
def rcond (acc : List Bid) (b : Bid) (a : List UInt8) : Bool := !vB b || (!(lineL b == a) || lastB acc b)
theorem cond_eq {acc : List Bid} {a : List UInt8} : condB acc (readL a) (a ++ [10]) = rcond acc (rreadL a) a ∧ (rcond acc (rreadL a) a = false → readL a = rreadL a) := by
  by_cases h : ∃ x, vB x = true ∧ lineL x = a
  · obtain ⟨x, hv, rfl⟩ := h
    rw [read_line hv, rread_line hv]
    refine ⟨?_, fun _ => rfl⟩
    unfold condB rcond
    simp [hv]
  · have e1 : condB acc (readL a) (a ++ [10]) = true := by
      unfold condB
      cases hv : vB (readL a) with
      | false => rfl
      | true =>
        have : (lineL (readL a) ++ [10] == a ++ [10]) = false := by
          simp only [beq_eq_false_iff_ne]
          exact fun e => h ⟨_, hv, List.append_cancel_right e⟩
        rw [this]; simp
    have e2 : rcond acc (rreadL a) a = true := by
      unfold rcond
      cases hv : vB (rreadL a) with
      | false => rfl
      | true =>
        have : (lineL (rreadL a) == a) = false := by
          simp only [beq_eq_false_iff_ne]
          exact fun e => h ⟨_, hv, e⟩
        rw [this]; simp
    rw [e1, e2]
    exact ⟨rfl, fun h9 => by cases h9⟩
theorem prsG_step {acc : List Bid} {a r : List UInt8} (h : (10 : UInt8) ∉ a) : prsG acc (linesOf (a ++ 10 :: r)) = bif rcond acc (rreadL a) a then ([], (acc.length : Int) + 1, 4) else prsG (acc ++ [rreadL a]) (linesOf r) := by
  rw [lines_step h, prsG, trim_line]
  obtain ⟨h1, h2⟩ := cond_eq (acc := acc) (a := a)
  rw [h1]
  cases hc : rcond acc (rreadL a) a with
  | true => rfl
  | false => rw [h2 hc]
theorem cut_none : ∀ a : List UInt8, (10 : UInt8) ∉ a → lineCut a = (a, [])
  | [], _ => by simp [lineCut]
  | x :: a, h => by
    rw [List.mem_cons, not_or] at h
    have hx : x ≠ 10 := fun e => h.1 e.symm
    rw [lineCut, if_neg hx, cut_none a h.2]
theorem prsG_end {acc : List Bid} {a : List UInt8} (h : (10 : UInt8) ∉ a) (hne : a ≠ []) : prsG acc (linesOf a) = ([], (acc.length : Int) + 1, 4) := by
  have hl : linesOf a = [a] := by
    cases a with
    | nil => exact absurd rfl hne
    | cons c r => rw [linesOf_cons, cut_none _ h, linesOf_nil]
  rw [hl]
  refine prs_bad ?_
  unfold condB
  have : (lineL (readL (Lib.trimSuffix a [10])) ++ [10] == a) = false := by
    simp only [beq_eq_false_iff_ne]
    exact fun e => h (by rw [← e]; simp)
  rw [this]; simp
end Go.AM
