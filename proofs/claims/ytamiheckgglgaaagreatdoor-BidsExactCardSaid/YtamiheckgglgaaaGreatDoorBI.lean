/-
  A part of a proof: see the last text of this claim for what is proved.
-/
import Derived.Test.YtamiheckgglgaaaGreatDoorB4h
import Derived.Test.YtamiheckgglgaaaGreatDoorZMa
namespace Go.AM
open Go Go.Proofs Go.IntWalk
set_option maxRecDepth 100000
set_option maxHeartbeats 1000000
set_option linter.unusedSimpArgs false
set_option linter.unusedVariables false
/-! ### Numbers in decimal -/
theorem digB {d : Nat} (h : d < 10) : (UInt8.ofNat (48 + d)).toNat = 48 + d := by
  rw [UInt8.toNat_ofNat']; omega
theorem parse_dec (u : Nat) : ∀ r : List UInt8, u < 9223372036854775808 → Lib.parseUint10 0 (Lib.decDigits u ++ r) = Lib.parseUint10 u r := by
  induction u using Nat.strongRecOn with
  | _ u ih =>
    intro r hu
    by_cases h : u < 10
    · rw [Lib.decDigits_one h]
      have hd := digB h
      show Lib.parseUint10 0 (UInt8.ofNat (48 + u) :: r) = _
      rw [Lib.parseUint10, hd, if_pos (by omega), if_neg (by omega), if_neg (by omega)]
      congr 1
      omega
    · have hm : u % 10 < 10 := Nat.mod_lt _ (by decide)
      rw [Lib.decDigits, dif_neg h, List.append_assoc, ih (u / 10) (by omega) _ (by omega)]
      have hd := digB hm
      show Lib.parseUint10 (u / 10) (UInt8.ofNat (48 + u % 10) :: r) = _
      rw [Lib.parseUint10, hd, if_pos (by omega), if_neg (by omega), if_neg (by omega)]
      congr 1
      omega
theorem dec_dig (u : Nat) : ∀ c, c ∈ Lib.decDigits u → 48 ≤ c.toNat ∧ c.toNat ≤ 57 := by
  induction u using Nat.strongRecOn with
  | _ u ih =>
    intro c hc
    by_cases h : u < 10
    · rw [Lib.decDigits_one h, List.mem_singleton] at hc
      rw [hc, digB h]; omega
    · have hm : u % 10 < 10 := Nat.mod_lt _ (by decide)
      rw [Lib.decDigits, dif_neg h, List.mem_append, List.mem_singleton] at hc
      rcases hc with hc | hc
      · exact ih (u / 10) (by omega) c hc
      · rw [hc, digB hm]; omega
theorem dec_ne (u : Nat) : Lib.decDigits u ≠ [] := by
  intro h
  have h1 := Lib.decDigits_length u
  have h2 := Lib.nDigits_pos u
  rw [h] at h1
  simp at h1
  omega
theorem itoa_dec {n : Int} (h : 0 ≤ n) : Lib.itoa n = Lib.decDigits n.toNat := by unfold Lib.itoa; rw [if_neg (by omega)]
theorem atF_itoa {n : Int} (h0 : 0 ≤ n) (h1 : n < 9223372036854775808) : atF (Lib.itoa n) = n := by
  rw [itoa_dec h0]
  have hp := parse_dec n.toNat [] (by omega)
  rw [List.append_nil, Lib.parseUint10] at hp
  have hd := dec_dig n.toNat
  have hne := dec_ne n.toNat
  have ha : Lib.atoiAll (Lib.decDigits n.toNat) = .ok n := by
    generalize Lib.decDigits n.toNat = l at hp hd hne
    cases l with
    | nil => exact absurd rfl hne
    | cons c r =>
      have hc := hd c List.mem_cons_self
      unfold Lib.atoiAll
      simp only
      rw [if_neg (by omega)]
      unfold Lib.parseMag
      rw [if_neg (by simp), hp]
      simp only
      rw [if_neg (by omega), if_neg (by omega), if_neg (by omega)]
      congr 1
      omega
  unfold atF
  rw [ha]
/-! ### Words -/
def noB (c : UInt8) (l : List UInt8) : Prop := c ∉ l
theorem itoa_no {n : Int} (h : 0 ≤ n) {c : UInt8} (hc : c.toNat < 48) : c ∉ Lib.itoa n := by
  rw [itoa_dec h]
  intro hm
  have := dec_dig _ c hm
  omega
theorem ixB_app : ∀ (a r : List UInt8) (c : UInt8), c ∉ a → Lib.indexByte (a ++ c :: r) c = a.length
  | [], r, c, _ => by simp [Lib.indexByte]
  | x :: a, r, c, h => by
    rw [List.mem_cons, not_or] at h
    have ih := ixB_app a r c h.2
    have hx : (x == c) = false := by simpa using fun e => h.1 e.symm
    rw [List.cons_append, Lib.indexByte, hx, ih]
    have : ((a.length : Int) == -1) = false := by simp
    rw [this]
    simp
theorem split_step {a r : List UInt8} {c : UInt8} {k : Nat} (h : c ∉ a) : Lib.splitK [c] 0 (k + 1) (a ++ c :: r) = a :: Lib.splitK [c] 0 k r := by
  have h1 : Lib.index (a ++ c :: r) [c] = a.length := by rw [Lib.index_one, ixB_app _ _ _ h]
  rw [Lib.splitK, h1]
  have : ((a.length : Int) == -1) = false := by simp
  rw [this]
  simp
theorem count_step {a r : List UInt8} {c : UInt8} (h : c ∉ a) : (a ++ c :: r).count c = r.count c + 1 := by
  rw [List.count_append, List.count_cons, List.count_eq_zero_of_not_mem h]; simp
theorem vB_parts {x : Bid} (h : vB x = true) : (1 ≤ x.b ∧ x.b ≤ 40) ∧ (1 ≤ x.n ∧ x.n ≤ 40) ∧ (1000 ≤ x.a ∧ x.a ≤ 1000000000) ∧ (x.f = true → x.p = 0) ∧ (x.f = false → 1 ≤ x.p ∧ x.p ≤ 200000) := by
  unfold vB lotB amg at h
  simp only [Bool.and_eq_true, decide_eq_true_eq] at h
  obtain ⟨⟨⟨h1, h2⟩, h3⟩, h4⟩ := h
  refine ⟨h1, h2, h3.1, fun hf => ?_, fun hf => ?_⟩
  · rw [hf] at h4; simpa using h4
  · rw [hf] at h4; simpa using h4
def lastW (x : Bid) : List UInt8 := bif x.f then freeT else Lib.itoa x.p
theorem atF_free : atF freeT = 0 := by kernel_rfl
theorem last_no {x : Bid} (h : vB x = true) {c : UInt8} (hc : c.toNat < 48) : c ∉ lastW x := by
  obtain ⟨_, _, _, h4, h5⟩ := vB_parts h
  unfold lastW
  cases hf : x.f with
  | true =>
    intro hm
    simp only [cond_true, freeT, List.mem_cons, List.not_mem_nil, or_false] at hm
    rcases hm with rfl | rfl | rfl | rfl <;> exact absurd hc (by decide)
  | false =>
    have := h5 hf
    exact itoa_no (by omega) hc
theorem free_ne {n : Int} (h : 0 ≤ n) : (Lib.itoa n == freeT) = false := by
  rw [beq_eq_false_iff_ne]
  intro e
  rw [itoa_dec h] at e
  have := dec_dig n.toNat 102 (by rw [e]; simp [freeT])
  simp at this
theorem line_ws {x : Bid} (h : vB x = true) : Lib.splitK [32] 0 (Lib.count (lineL x) [32]) (lineL x) = [Lib.itoa x.b, Lib.itoa x.n, Lib.itoa x.a, lastW x] := by
  obtain ⟨h1, h2, h3, _, _⟩ := vB_parts h
  have n1 : (32 : UInt8) ∉ Lib.itoa x.b := itoa_no (by omega) (by decide)
  have n2 : (32 : UInt8) ∉ Lib.itoa x.n := itoa_no (by omega) (by decide)
  have n3 : (32 : UInt8) ∉ Lib.itoa x.a := itoa_no (by omega) (by decide)
  have n4 : (32 : UInt8) ∉ lastW x := last_no h (by decide)
  have e : lineL x = Lib.itoa x.b ++ 32 :: (Lib.itoa x.n ++ 32 :: (Lib.itoa x.a ++ 32 :: lastW x)) := rfl
  rw [e, Lib.count_one, count_step n1, count_step n2, count_step n3, List.count_eq_zero_of_not_mem n4, split_step n1, split_step n2, split_step n3]
  rfl
theorem read_line {x : Bid} (h : vB x = true) : readL (lineL x) = x := by
  obtain ⟨h1, h2, h3, h4, h5⟩ := vB_parts h
  unfold readL
  rw [line_ws h, rdW, atF_itoa (by omega) (by omega), atF_itoa (by omega) (by omega), atF_itoa (by omega) (by omega)]
  obtain ⟨b, n, p, a, f⟩ := x
  simp only at h4 h5
  unfold lastW
  cases f with
  | true => rw [h4 rfl]; simp only [cond_true, atF_free, beq_self_eq_true]
  | false =>
    have := h5 rfl
    simp only [cond_false]
    rw [atF_itoa (by omega) (by omega), free_ne (by omega)]
theorem line_no {x : Bid} (h : vB x = true) : (10 : UInt8) ∉ lineL x := by
  obtain ⟨h1, h2, h3, _, _⟩ := vB_parts h
  have e : lineL x = Lib.itoa x.b ++ 32 :: (Lib.itoa x.n ++ 32 :: (Lib.itoa x.a ++ 32 :: lastW x)) := rfl
  rw [e]
  simp only [List.mem_append, List.mem_cons, not_or]
  exact ⟨itoa_no (by omega) (by decide), by decide, itoa_no (by omega) (by decide), by decide, itoa_no (by omega) (by decide), by decide, last_no h (by decide)⟩
/-! ### Lines -/
theorem cut_line : ∀ (a r : List UInt8), (10 : UInt8) ∉ a → lineCut (a ++ 10 :: r) = (a ++ [10], r)
  | [], r, _ => by simp [lineCut]
  | x :: a, r, h => by
    rw [List.mem_cons, not_or] at h
    have hx : x ≠ 10 := fun e => h.1 e.symm
    rw [List.cons_append, lineCut, if_neg hx, cut_line a r h.2]
    rfl
theorem lines_step {a r : List UInt8} (h : (10 : UInt8) ∉ a) : linesOf (a ++ 10 :: r) = (a ++ [10]) :: linesOf r := by
  cases a with
  | nil => rw [List.nil_append, linesOf_cons]; simp [lineCut]
  | cons x a => rw [List.cons_append, linesOf_cons, ← List.cons_append, cut_line _ _ h]
def lineN (x : Bid) : List UInt8 := lineL x ++ [10]
theorem lines_fmt : ∀ (l : List Bid) (r : List UInt8), (∀ x, x ∈ l → vB x = true) → linesOf (fmtL l ++ r) = l.map lineN ++ linesOf r
  | [], r, _ => rfl
  | x :: l, r, h => by
    rw [fmtL, List.append_assoc, List.cons_append, lines_step (line_no (h x List.mem_cons_self)), lines_fmt l r (fun y hy => h y (List.mem_cons_of_mem _ hy))]
    rfl
theorem trim_line (a : List UInt8) : Lib.trimSuffix (a ++ [10]) [10] = a := by
  unfold Lib.trimSuffix Lib.hasSuffix
  rw [if_pos (by rw [List.isSuffixOf_iff_suffix]; exact List.suffix_append _ _)]
  simp
theorem count_fmt : ∀ l : List Bid, (∀ x, x ∈ l → vB x = true) → (fmtL l).count 10 = l.length
  | [], _ => rfl
  | x :: l, h => by
    rw [fmtL, count_step (line_no (h x List.mem_cons_self)), count_fmt l (fun y hy => h y (List.mem_cons_of_mem _ hy))]
    rfl
/-! ### Order -/
theorem ltB_iff {x y : Bid} : ltB x y = true ↔ x.b < y.b ∨ x.b = y.b ∧ x.n < y.n := by unfold ltB; rw [decide_eq_true_eq, cmpB_lt]
theorem ltB_no {x y : Bid} : ltB x y = false ↔ ¬ (x.b < y.b ∨ x.b = y.b ∧ x.n < y.n) := by rw [← ltB_iff, Bool.not_eq_true]
theorem ltB_t {a b c : Bid} (h1 : ltB b a = false) (h2 : ltB c b = false) : ltB c a = false := by
  rw [ltB_no] at *; omega
theorem ltB_a {a b : Bid} (h : ltB a b = true) : ltB b a = false := by
  rw [ltB_iff] at h; rw [ltB_no]; omega
/-- Strictly in order. -/
def strB (l : List Bid) : Prop := l.Pairwise fun a b => cmpB a b < 0
theorem srt_str {l : List Bid} (h : l.Pairwise fun a b => a.n ≠ b.n) : strB (srtL l) := by
  have h1 := isort_sorted (lt := ltB) (S := fun _ => True) (fun a b c _ _ _ => ltB_t) (fun a b _ _ => ltB_a) (l := l) (fun _ _ => trivial)
  have h2 : (srtL l).Pairwise fun a b => a.n ≠ b.n := (List.Perm.pairwise_iff (fun {a b} hab => Ne.symm hab) (isort_perm ltB l)).2 h
  refine (h1.and h2).imp (fun {a b} hab => ?_)
  have := ltB_no.1 hab.1
  rw [cmpB_lt]
  have := hab.2
  omega
theorem srt_perm {l m : List Bid} (h : l.Pairwise fun a b => a.n ≠ b.n) (hp : m.Perm l) : srtL m = srtL l := by
  refine isort_unique (lt := ltB) (S := fun _ => True) (fun a b c _ _ _ => ltB_t) (fun a b _ _ => ltB_a) (fun _ _ => trivial) hp (fun a b ha hb h1 h2 => ?_)
  rw [ltB_no] at h1 h2
  have hn : a.n = b.n := by omega
  rw [List.pairwise_iff_getElem] at h
  obtain ⟨i, hi, rfl⟩ := List.mem_iff_getElem.1 ha
  obtain ⟨j, hj, rfl⟩ := List.mem_iff_getElem.1 hb
  rcases Nat.lt_trichotomy i j with hij | hij | hij
  · exact absurd hn (h i j hi hj hij)
  · subst hij; rfl
  · exact absurd hn.symm (h j i hj hi hij)
theorem bidsG_nd {l : List Bid} (h : bidsG l) : l.Pairwise fun a b => a.n ≠ b.n := by
  rw [List.pairwise_iff_getElem]
  intro i j hi hj hij
  have h1 := (h i _ (List.getElem?_eq_getElem hi)).2
  have h2 := (h j _ (List.getElem?_eq_getElem hj)).2
  omega
theorem bidsG_vB {l : List Bid} (h : bidsG l) : ∀ x, x ∈ l → vB x = true := by
  intro x hx
  obtain ⟨i, hi⟩ := List.mem_iff_getElem?.1 hx
  exact (h i x hi).1
/-! ### Parse -/
theorem last_ok {acc r : List Bid} {b : Bid} (h : strB (acc ++ b :: r)) : lastB acc b = false := by
  unfold lastB
  cases hl : acc.getLast? with
  | none => rfl
  | some y =>
    have hy : y ∈ acc := List.mem_of_getLast? hl
    have := (List.pairwise_append.1 h).2.2 y hy b List.mem_cons_self
    simp [this]
theorem prs_good : ∀ (h acc : List Bid) (t : List (List UInt8)), (∀ x, x ∈ h → vB x = true) → strB (acc ++ h) → prsG acc (h.map lineN ++ t) = prsG (acc ++ h) t
  | [], acc, t, _, _ => by simp
  | b :: r, acc, t, hv, hs => by
    have hb := hv b List.mem_cons_self
    rw [List.map_cons, List.cons_append, prsG]
    have hrd : readL (Lib.trimSuffix (lineN b) [10]) = b := by unfold lineN; rw [trim_line, read_line hb]
    have hc : condB acc b (lineN b) = false := by unfold condB; rw [hb, last_ok hs]; simp [lineN]
    rw [hrd, hc, cond_false, prs_good r (acc ++ [b]) t (fun x hx => hv x (List.mem_cons_of_mem _ hx)) (by rw [List.append_assoc]; exact hs)]
    simp
theorem prs_bad {acc : List Bid} {x : List UInt8} {t : List (List UInt8)} (h : condB acc (readL (Lib.trimSuffix x [10])) x = true) : prsG acc (x :: t) = ([], (acc.length : Int) + 1, 4) := by
  rw [prsG, h]; rfl
theorem prs_small {s : List UInt8} (h1 : s.length ≤ 12000) (h2 : s.count 10 ≤ 60) : prs s = prsG [] (linesOf s) := by
  unfold prs
  rw [show (decide (12000 < (s.length : Int)) || decide (60 < ((s.count 10 : Nat) : Int))) = false by simp; omega]
  rfl
theorem prs_fmt {l : List Bid} (hv : ∀ x, x ∈ l → vB x = true) (hs : strB l) (hn : l.length ≤ 12) : prs (fmtL l) = (l, 0, 0) := by
  have h1 := fmtL_len l hv
  have h2 := count_fmt l hv
  have h3 := lines_fmt l [] hv
  rw [List.append_nil] at h3
  rw [prs_small (by omega) (by omega), h3, linesOf_nil, List.append_nil]
  have := prs_good l [] [] hv hs
  rw [List.append_nil] at this
  rw [this]; rfl
/-- A text with one line that is not right. -/
theorem prs_broken {a b : List Bid} {m : List UInt8} (ha : ∀ x, x ∈ a → vB x = true) (hb : ∀ x, x ∈ b → vB x = true) (hs : strB a) (hn : a.length + b.length ≤ 12) (hm : (10 : UInt8) ∉ m) (hl : m.length ≤ 100)
    (hc : condB a (readL m) (m ++ [10]) = true) : prs (fmtL a ++ m ++ 10 :: fmtL b) = ([], (a.length : Int) + 1, 4) := by
  have h1 := fmtL_len a ha
  have h2 := fmtL_len b hb
  have c1 := count_fmt a ha
  have c2 := count_fmt b hb
  have hL : linesOf (fmtL a ++ m ++ 10 :: fmtL b) = a.map lineN ++ (m ++ [10]) :: linesOf (fmtL b) := by rw [List.append_assoc, lines_fmt a _ ha, lines_step hm]
  rw [prs_small (by simp only [List.length_append, List.length_cons]; omega) (by rw [List.append_assoc, List.count_append, count_step hm]; omega), hL, prs_good a [] _ ha hs, prs_bad (by rw [List.nil_append, trim_line]; exact hc)]
  rfl
end Go.AM
namespace Go.AM
open Go Go.Proofs Go.IntWalk
set_option maxRecDepth 100000
set_option maxHeartbeats 1000000
set_option linter.unusedSimpArgs false
set_option linter.unusedVariables false
def on_ll (p : List PV → List PV → Prop) (f : List PV → List PV → PV) : PSpec
  | [.sl a0, .sl a1] => (p a0 a1, f a0 a1)
  | _ => (False, default)
theorem on_ll_eq {p : List PV → List PV → Prop} {f : List PV → List PV → PV} {a0 : List PV} {a1 : List PV} : on_ll p f [.sl a0, .sl a1] = (p a0 a1, f a0 a1) := rfl
theorem on_ll_inv {p : List PV → List PV → Prop} {f : List PV → List PV → PV} {args : List PV} (h : (on_ll p f args).1) : ∃ a0 : List PV, ∃ a1 : List PV, args = [.sl a0, .sl a1] ∧ p a0 a1 := by
  unfold on_ll at h
  split at h
  · exact ⟨_, _, rfl, h⟩
  · exact h.elim
noncomputable def sameS : PSpec := on_ll (fun a b => a = b ∧ a.length ≤ 1000 ∧ ∃ l : List Bid, a = l.map bidV) (fun _ _ => .bool true)
theorem w_sameS : PSound GG 12 sameS := by
  refine PSound.of_wpc (C := cxP Tryz.prog Bg [] 26) (T := plan0) Tryz.func12 rfl rfl rfl (Fit.pure (G := GG) hBg mixed) (fun args h => ?_)
  unfold sameS at h
  obtain ⟨a, b, rfl, hp⟩ := on_ll_inv h
  refine ⟨by simp [cxP], ?_⟩
  simp only [sameS, on_ll_eq, Tryz.f12, argL, plan0]
  obtain ⟨rfl, hn, l, rfl⟩ := hp
  simp only [List.length_map] at hn
  simp only [List.length_map, Tryz.underlying3, sz3, by3, ze3, Tryz.underlying4, sz4, by4, ze4, Tryz.underlying23, sz23, by23, ze23, Tryz.underlying29, sz29, by29, ze29, fa29_0, fa29_1, fa29_2, fa29_3, fa29_4, go_sem, ↓reduceIte, reduceCtorEq, Nat.reduceEqDiff, Nat.reduceLT, ↓all_qV, Int.reduceToNat, Int.reduceLT, Int.reduceLE, Nat.reduceAdd, Nat.reduceLeDiff, Nat.reduceMul]
  refine ⟨by simp, fun _ => ?_⟩
  refine AWp.loop (T := plan0) (α := Nat) (fun i => ([(0, .pv (.sl (l.map bidV))), (1, .pv (.sl (l.map bidV))), (12, .pv (.int .i64 l.length)), (13, .pv (.int .i64 i))], []))
    (fun i => i ≤ l.length) (fun i => l.length - i)
    ⟨0, Nat.zero_le _, ⟨by simp [fitR, look], trivial, rfl, rfl, rfl⟩⟩ ?_
  rintro i h1
  have hi1 : IntKind.i64.wrap ((i : Int) + 1) = ((i + 1 : Nat) : Int) := by rw [i64_in _ (by omega)]; omega
  by_cases hlt : i < l.length
  · have c0 : decide ((i : Int) < (l.length : Int)) = true := by simp; omega
    have e1 := getD_bid hlt
    generalize l.getD i default = x at e1
    cases x
    simp only [bidV] at e1
    simp only [c0, e1, hi1, List.length_map, List.take_succ_cons, List.take_nil, Tryz.underlying3, sz3, by3, ze3, Tryz.underlying4, sz4, by4, ze4, Tryz.underlying23, sz23, by23, ze23, Tryz.underlying29, sz29, by29, ze29, fa29_0, fa29_1, fa29_2, fa29_3, fa29_4, plan0, go_sem, ↓reduceIte, reduceCtorEq, Nat.reduceEqDiff, Nat.reduceLT, ↓all_qV, Int.reduceToNat, Int.reduceLT, Int.reduceLE, Nat.reduceAdd, Nat.reduceLeDiff, Nat.reduceMul, ev_callG, gcallK_b, gcallK_w, callGc_true, callGc_false]
    exact ⟨by kernel_rfl, ⟨by omega, by omega⟩, ⟨by omega, by omega⟩, by kernel_rfl, fun h9 => by simp [keyEqL, keyEq1] at h9, fun _ => ⟨i + 1, by omega, by omega, ⟨by simp [fitR, look], trivial, rfl, rfl, rfl⟩⟩⟩
  · have c0 : decide ((i : Int) < (l.length : Int)) = false := by simp; omega
    simp only [c0, List.length_map, Tryz.underlying3, sz3, by3, ze3, Tryz.underlying4, sz4, by4, ze4, Tryz.underlying23, sz23, by23, ze23, Tryz.underlying29, sz29, by29, ze29, fa29_0, fa29_1, fa29_2, fa29_3, fa29_4, plan0, go_sem, ↓reduceIte, reduceCtorEq, Nat.reduceEqDiff, Nat.reduceLT, ↓all_qV, Int.reduceToNat, Int.reduceLT, Int.reduceLE, Nat.reduceAdd, Nat.reduceLeDiff, Nat.reduceMul]
noncomputable def Bh (g : FuncId) : PSpec := (putΦ Bg 12 sameS) g
theorem hBh : TabSound GG Bh := (hBg.put w_sameS)
/-! ### The example -/
def exB : Bid := ⟨3, 1, 99500, 5000, false⟩
theorem ex_line : lineL exB = [51, 32, 49, 32, 53, 48, 48, 48, 32, 57, 57, 53, 48, 48] := by
  have d1 : Lib.itoa 3 = [51] := by simp [Lib.itoa, Lib.decDigits]
  have d2 : Lib.itoa 1 = [49] := by simp [Lib.itoa, Lib.decDigits]
  have d3 : Lib.itoa 5000 = [53, 48, 48, 48] := by simp [Lib.itoa, Lib.decDigits]
  have d4 : Lib.itoa 99500 = [57, 57, 53, 48, 48] := by simp [Lib.itoa, Lib.decDigits]
  unfold lineL exB
  simp only [d1, d2, d3, d4]
  rfl
theorem ex_prs : prs [51, 32, 49, 32, 53, 48, 48, 48, 32, 57, 57, 53, 48, 48, 10] = ([exB], 0, 0) := by
  have h := prs_fmt (l := [exB]) (fun x hx => by rw [List.mem_singleton] at hx; subst hx; kernel_rfl) (List.pairwise_singleton _ _) (by simp)
  rw [fmtL, fmtL, ex_line] at h
  exact h
theorem ex_lineB : lineL ⟨3, 1, 99500, 5000, false⟩ = [51, 32, 49, 32, 53, 48, 48, 48, 32, 57, 57, 53, 48, 48] := ex_line
theorem ex_vB : vB ⟨3, 1, 99500, 5000, false⟩ = true := by kernel_rfl
theorem ex_bV : bidV exB = .agg [.int .i64 3, .int .i64 1, .int .i64 99500, .int .i64 5000, .bool false] := rfl
noncomputable def saneS : PSpec := on_ (True) (.bool true)
theorem k_saneS_17 {args : List PV} : Bh 17 args = LineS args := rfl
theorem k_saneS_25 {args : List PV} : Bh 25 args = parseS args := rfl
theorem w_saneS : PSound GG 4 saneS := by
  refine PSound.of_wpc (C := cxP Tryz.prog Bh [] 42) (T := plan0) Tryz.func4 rfl rfl rfl (Fit.pure (G := GG) hBh mixed) (fun args h => ?_)
  unfold saneS at h
  obtain ⟨rfl, hp⟩ := on__inv h
  refine ⟨by simp [cxP], ?_⟩
  simp only [saneS, on__eq, Tryz.f4, argL, plan0]
  simp only [ex_prs, bidOf_agg, ex_lineB, ex_vB, ex_bV, cond_true, List.map_cons, List.map_nil, k_saneS_17, LineS, on_p_eq, k_saneS_25, parseS, on_s_eq, List.take_succ_cons, List.take_nil, Tryz.underlying1, sz1, by1, ze1, Tryz.underlying2, sz2, by2, ze2, Tryz.underlying3, sz3, by3, ze3, Tryz.underlying4, sz4, by4, ze4, Tryz.underlying9, sz9, by9, ze9, Tryz.underlying23, sz23, by23, ze23, Tryz.underlying29, sz29, by29, ze29, fa29_0, fa29_1, fa29_2, fa29_3, fa29_4, Tryz.underlying32, sz32, by32, ze32, Tryz.underlying33, sz33, by33, ze33, Tryz.underlying45, sz45, by45, ze45, go_sem, ↓reduceIte, reduceCtorEq, Nat.reduceEqDiff, Nat.reduceLT, ↓all_qV, Int.reduceToNat, Int.reduceLT, Int.reduceLE, Nat.reduceAdd, Nat.reduceLeDiff, Nat.reduceMul, ev_callG, gcallK_b, gcallK_w, callGc_true, callGc_false, List.forall_mem_cons, List.not_mem_nil, PV.one, AV.one]
  exact isBid_agg
noncomputable def Bi (g : FuncId) : PSpec := (putΦ Bh 4 saneS) g
theorem hBi : TabSound GG Bi := (hBh.put w_saneS)
end Go.AM
