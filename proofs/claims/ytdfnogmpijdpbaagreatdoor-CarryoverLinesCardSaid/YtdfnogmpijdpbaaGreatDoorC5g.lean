/-
  A part of a proof: see the last text of this claim for what is proved.
-/
import Derived.Test.YtdfnogmpijdpbaaGreatDoorC5f
/-! carrying over: plain laws -/
namespace Go.AM
open Go Go.Proofs Go.IntWalk
set_option maxRecDepth 100000
set_option maxHeartbeats 1000000
set_option linter.unusedSimpArgs false
set_option linter.unusedVariables false
/-! ### The four codes -/
def rk (k : List UInt8) : Int := if k = k11 then 0 else if k = k12 then 1 else if k = k29 then 2 else 3
theorem four_cmp : ∀ a, a ∈ four → ∀ b, b ∈ four → cmpC a b = cmpI (rk a) (rk b) ∧ (rk a = rk b → a = b) := by decide +kernel
theorem four_parts : ∀ a, a ∈ four → (0 : Int) < (partsR a).length ∧ a.length ≤ 30 := by decide +kernel
theorem four_und : ∀ a, a ∈ four → ∀ b, b ∈ four → undC a b = (a == b) := by decide +kernel
theorem four_top : ∀ a, a ∈ four → undC a [49] = (a == k11 || a == k12) ∧ undC a [50] = (a == k29 || a == k210) := by decide +kernel
theorem four_ltK {a b : List UInt8} (ha : a ∈ four) (hb : b ∈ four) (h : rk a < rk b) : decide (cmpC a b < 0) = true := by
  rw [(four_cmp a ha b hb).1]; unfold cmpI
  simp [h]
theorem lt_iff {x y : Opn} (hx : x.k ∈ four) (hy : y.k ∈ four) : ltO x y = true ↔ (rk x.k < rk y.k ∨ (rk x.k = rk y.k ∧ (x.o < y.o ∨ (x.o = y.o ∧ x.c < y.c)))) := by
  unfold ltO cmpO
  rw [(four_cmp _ hx _ hy).1]
  generalize rk x.k = a
  generalize rk y.k = b
  unfold cmpI
  simp only [orF, decide_eq_true_eq]
  by_cases h1 : a < b
  · simp [h1]
  by_cases h2 : b < a
  · simp [h1, h2]; omega
  have h3 : a = b := by omega
  subst h3
  by_cases h4 : x.o < y.o
  · simp [h4]
  by_cases h5 : y.o < x.o
  · simp [h4, h5]; omega
  have h6 : x.o = y.o := by omega
  by_cases h7 : x.c < y.c
  · simp [h6, h7]
  by_cases h8 : y.c < x.c
  · simp [h6, h7, h8]
  · simp [h6, h7, h8]
theorem lt_false {x y : Opn} (hx : x.k ∈ four) (hy : y.k ∈ four) : ltO x y = false ↔ ¬ (rk x.k < rk y.k ∨ (rk x.k = rk y.k ∧ (x.o < y.o ∨ (x.o = y.o ∧ x.c < y.c)))) := by
  rw [← lt_iff hx hy]; simp
/-! ### The lists of the tape are right -/
theorem opsG_mem {l : List Opn} (h : opsG l) {x : Opn} (hx : x ∈ l) : ∃ i, opG i x := by
  obtain ⟨i, hi⟩ := List.mem_iff_getElem?.1 hx
  exact ⟨i, h i x hi⟩
theorem opsG_four {l : List Opn} (h : opsG l) : ∀ x, x ∈ l → x.k ∈ four := fun x hx => by obtain ⟨i, h⟩ := opsG_mem h hx; exact h.2.2.1
theorem opsG_isOps {l : List Opn} (h : opsG l) : isOps l := fun x hx => by have := (four_parts _ (opsG_four h x hx)).2; omega
theorem opsG_pw {l : List Opn} (h : opsG l) : l.Pairwise (fun x y => x.c ≠ y.c) := by
  rw [List.pairwise_iff_getElem]
  intro i j hi hj hij
  have h1 := (h i l[i] (List.getElem?_eq_getElem hi)).2.1
  have h2 := (h j l[j] (List.getElem?_eq_getElem hj)).2.1
  omega
/-- Right lists, in any order. -/
def opsR (l : List Opn) : Prop := (∀ x, x ∈ l → opB x = true ∧ x.y = 3 ∧ x.k ∈ four ∧ 1 ≤ x.a ∧ x.a ≤ 100) ∧ l.Pairwise (fun x y => x.c ≠ y.c)
theorem opsG_R {l : List Opn} (h : opsG l) (hn : l.length ≤ 12) : opsR l := by
  refine ⟨fun x hx => ?_, opsG_pw h⟩
  obtain ⟨i, hi⟩ := List.mem_iff_getElem?.1 hx
  have hlt : i < l.length := by
    rcases Nat.lt_or_ge i l.length with h | h
    · exact h
    · rw [List.getElem?_eq_none h] at hi; cases hi
  obtain ⟨⟨h1, h2⟩, h3, h4, h5, h6⟩ := h i x hi
  have h7 := (four_parts _ h4).1
  have ha : 1 ≤ x.a ∧ x.a ≤ 100 := by unfold am4 at h6; omega
  refine ⟨?_, h5, h4, ha.1, ha.2⟩
  unfold opB amg vldM
  simp only [Bool.and_eq_true, decide_eq_true_eq]
  omega
theorem opsR_rev {l : List Opn} (h : opsR l) : opsR l.reverse :=
  ⟨fun x hx => h.1 x (List.mem_reverse.1 hx), List.pairwise_reverse.2 (h.2.imp (fun hab => hab.symm))⟩
theorem opsR_filter {l : List Opn} (h : opsR l) (q : Opn → Bool) : opsR (l.filter q) :=
  ⟨fun x hx => h.1 x (List.mem_filter.1 hx).1, h.2.sublist List.filter_sublist⟩
theorem opsR_isOps {l : List Opn} (h : opsR l) : isOps l := fun x hx => by have := (four_parts _ (h.1 x hx).2.2.1).2; omega
theorem okOs_of : ∀ {l seen : List Opn}, opsR l → (∀ x, x ∈ l → ∀ y, y ∈ seen → y.c ≠ x.c) → okOs 3 seen l = true
  | [], _, _, _ => rfl
  | x :: r, seen, h, hs => by
    have hx := h.1 x List.mem_cons_self
    have hp := List.pairwise_cons.1 h.2
    have hn : namB x seen = false := by
      unfold namB
      rw [Bool.eq_false_iff]
      intro hany
      obtain ⟨y, hy, he⟩ := List.any_eq_true.1 hany
      simp only [Bool.and_eq_true, beq_iff_eq] at he
      exact hs x List.mem_cons_self y hy he.2
    unfold okOs
    rw [hx.1, hn, hx.2.1]
    simp only [beq_self_eq_true, Bool.not_false, Bool.and_self, Bool.true_and]
    refine okOs_of ⟨fun y hy => h.1 y (List.mem_cons_of_mem _ hy), hp.2⟩ (fun y hy z hz => ?_)
    rcases List.mem_append.1 hz with hz | hz
    · exact hs y (List.mem_cons_of_mem _ hy) z hz
    · simp only [List.mem_singleton] at hz; subst hz; exact hp.1 y hy
/-- What is left: ascending, of the four codes. -/
def lfR (left : List Lft) : Prop := (left.map Lft.k).Sublist four ∧ ∀ x, x ∈ left → 0 ≤ x.a ∧ x.a ≤ 1000
theorem lfG_R {left : List Lft} (h : lfG left) : lfR left := ⟨h.1, fun x hx => by have := h.2 x hx; unfold amL at this; omega⟩
theorem four_pw : four.Pairwise (fun a b => decide (cmpC a b < 0) = true) := by decide +kernel
theorem four_nd : four.Nodup := by decide +kernel
theorem lfR_four {left : List Lft} (h : lfR left) : ∀ x, x ∈ left → x.k ∈ four := fun x hx => h.1.subset (List.mem_map.2 ⟨x, hx, rfl⟩)
theorem lfR_isLfs {left : List Lft} (h : lfR left) : isLfs left := fun x hx => by have := (four_parts _ (lfR_four h x hx)).2; omega
theorem lfR_len {left : List Lft} (h : lfR left) : left.length ≤ 4 := by have := h.1.length_le; simpa [four] using this
theorem okLs_of : ∀ {left : List Lft} {pr : Option (List UInt8)}, (∀ x, x ∈ left → x.k ∈ four ∧ 0 ≤ x.a ∧ x.a ≤ 1000) → (left.map Lft.k).Pairwise (fun a b => decide (cmpC a b < 0) = true) → (∀ x, x ∈ left → ltK pr x.k = true) → okLs pr left = true
  | [], _, _, _, _ => rfl
  | x :: r, pr, h, hp, hl => by
    rw [List.map_cons, List.pairwise_cons] at hp
    have hx := h x List.mem_cons_self
    have h1 := (four_parts _ hx.1).1
    rw [okLs_cons, hl x List.mem_cons_self, okLs_of (pr := some x.k) (fun y hy => h y (List.mem_cons_of_mem _ hy)) hp.2 (fun y hy => hp.1 _ (List.mem_map.2 ⟨y, hy, rfl⟩))]
    unfold amg
    simp only [Bool.and_true, Bool.and_eq_true, decide_eq_true_eq]
    omega
theorem chk_0 {l : List Opn} {left : List Lft} (h : opsR l) (hn : l.length ≤ 12) (hf : lfR left) : chkF l left = 0 := by
  have h1 := lfR_len hf
  have e1 : okLs none left = true := okLs_of (fun x hx => ⟨lfR_four hf x hx, hf.2 x hx⟩) (four_pw.sublist hf.1) (fun x hx => rfl)
  have e2 : okOs (l.headD default).y [] l = true := by
    cases l with
    | nil => rfl
    | cons x r =>
      have := (h.1 x List.mem_cons_self).2.1
      show okOs x.y [] (x :: r) = true
      rw [this]
      exact okOs_of h (fun x hx y hy => by cases hy)
  unfold chkF
  rw [e1, e2]
  have e3 : (decide (60 < (l.length : Int)) || decide (60 < (left.length : Int))) = false := by simp; omega
  rw [e3]; rfl
theorem car_0 {l : List Opn} {left : List Lft} (h : chkF l left = 0) : carF l left = .tup [carV (runC l left).2.1 (runC l left).2.2 (lapF (runC l left).1 left), .int .i64 0] := by
  unfold carF; rw [h]; rfl
/-! ### The order does not matter -/
theorem pw_c : ∀ {l : List Opn} {a b : Opn}, l.Pairwise (fun x y => x.c ≠ y.c) → a ∈ l → b ∈ l → a.c = b.c → a = b
  | [], _, _, _, h, _, _ => by cases h
  | x :: r, a, b, hp, ha, hb, e => by
    rw [List.pairwise_cons] at hp
    rcases List.mem_cons.1 ha with h1 | h1
    · rcases List.mem_cons.1 hb with h2 | h2
      · rw [h1, h2]
      · rw [h1] at e; exact absurd e (hp.1 b h2)
    · rcases List.mem_cons.1 hb with h2 | h2
      · rw [h2] at e; exact absurd e.symm (hp.1 a h1)
      · exact pw_c hp.2 h1 h2 e
theorem sort_rev {l : List Opn} (h : opsR l) : isort ltO l.reverse = isort ltO l := by
  refine isort_unique (S := fun x => x.k ∈ four) (fun a b c ha hb hc h1 h2 => ?_) (fun a b ha hb h1 => ?_) (fun y hy => (h.1 y hy).2.2.1) (List.reverse_perm l) (fun a b ha hb h1 h2 => ?_)
  · rw [lt_false hb ha] at h1
    rw [lt_false hc hb] at h2
    rw [lt_false hc ha]
    omega
  · rw [lt_iff ha hb] at h1
    rw [lt_false hb ha]
    omega
  · have fa := (h.1 a ha).2.2.1
    have fb := (h.1 b hb).2.2.1
    rw [lt_false fa fb] at h1
    rw [lt_false fb fa] at h2
    have hc : a.c = b.c := by omega
    exact pw_c h.2 ha hb hc
theorem run_rev {l : List Opn} (h : opsR l) (left : List Lft) : runC l.reverse left = runC l left := by unfold runC; rw [sort_rev h]
/-! ### Code by code -/
def sumK (c : List UInt8) : List Opn → Int
  | [] => 0
  | x :: r => (if x.k = c then x.a else 0) + sumK c r
def sumKL (c : List UInt8) : List Lft → Int
  | [] => 0
  | x :: r => (if x.k = c then x.a else 0) + sumKL c r
theorem sumK_append (c : List UInt8) : ∀ a b : List Opn, sumK c (a ++ b) = sumK c a + sumK c b
  | [], b => by simp [sumK]
  | x :: r, b => by simp only [List.cons_append, sumK, sumK_append c r b]; omega
theorem sumK_perm (c : List UInt8) {a b : List Opn} (h : a.Perm b) : sumK c a = sumK c b := by
  induction h with
  | nil => rfl
  | cons x _ ih => simp only [sumK, ih]
  | swap x y l => simp only [sumK]; omega
  | trans _ _ h1 h2 => exact h1.trans h2
theorem sumU_four {c : List UInt8} (hc : c ∈ four) : ∀ {l : List Opn}, (∀ x, x ∈ l → x.k ∈ four) → sumU c l = sumK c l
  | [], _ => rfl
  | x :: r, h => by
    simp only [sumU, sumK]
    rw [sumU_four hc (fun y hy => h y (List.mem_cons_of_mem _ hy)), four_und _ (h x List.mem_cons_self) c hc]
    by_cases e : x.k = c
    · simp [e]
    · have e2 : (x.k == c) = false := by simpa using e
      rw [e2, if_neg e]; simp
theorem sumU_top : ∀ {l : List Opn}, (∀ x, x ∈ l → x.k ∈ four) → sumU [49] l = sumK k11 l + sumK k12 l ∧ sumU [50] l = sumK k29 l + sumK k210 l
  | [], _ => ⟨rfl, rfl⟩
  | x :: r, h => by
    obtain ⟨i1, i2⟩ := sumU_top (l := r) (fun y hy => h y (List.mem_cons_of_mem _ hy))
    obtain ⟨e1, e2⟩ := four_top _ (h x List.mem_cons_self)
    simp only [sumU, sumK, i1, i2, e1, e2]
    have hx := h x List.mem_cons_self
    simp only [four, List.mem_cons, List.not_mem_nil, or_false] at hx
    have d1 : k11 ≠ k12 := by decide
    have d2 : k11 ≠ k29 := by decide
    have d3 : k11 ≠ k210 := by decide
    have d4 : k12 ≠ k29 := by decide
    have d5 : k12 ≠ k210 := by decide
    have d6 : k29 ≠ k210 := by decide
    have b00 : (k11 == k11) = true := by decide
    have b01 : (k11 == k12) = false := by decide
    have b02 : (k11 == k29) = false := by decide
    have b03 : (k11 == k210) = false := by decide
    have b10 : (k12 == k11) = false := by decide
    have b11 : (k12 == k12) = true := by decide
    have b12 : (k12 == k29) = false := by decide
    have b13 : (k12 == k210) = false := by decide
    have b20 : (k29 == k11) = false := by decide
    have b21 : (k29 == k12) = false := by decide
    have b22 : (k29 == k29) = true := by decide
    have b23 : (k29 == k210) = false := by decide
    have b30 : (k210 == k11) = false := by decide
    have b31 : (k210 == k12) = false := by decide
    have b32 : (k210 == k29) = false := by decide
    have b33 : (k210 == k210) = true := by decide
    rcases hx with hx | hx | hx | hx <;> simp [hx, b00, b01, b02, b03, b10, b11, b12, b13, b20, b21, b22, b23, b30, b31, b32, b33, d1, d2, d3, d4, d5, d6, d1.symm, d2.symm, d3.symm, d4.symm, d5.symm, d6.symm] <;> omega
/-- What holds while commitments are covered. -/
structure Inv (m0 : IM) (s : List Opn) (z : IM × List Opn × List Opn) : Prop where
  nn : ∀ c, 0 ≤ aget c z.1
  left : ∀ c, aget c z.1 + sumK c z.2.1 = aget c m0
  all : ∀ c, sumK c z.2.1 + sumK c z.2.2 = sumK c s
  nc : ∀ c, 0 ≤ sumK c z.2.1
  ns : ∀ c, 0 ≤ sumK c z.2.2
  short : ∀ c, 0 < sumK c z.2.2 → aget c z.1 = 0
  am : (∀ x, x ∈ z.2.1 → x.k ∈ four ∧ 0 ≤ x.a ∧ x.a ≤ 100) ∧ ∀ x, x ∈ z.2.2 → x.k ∈ four ∧ 0 ≤ x.a ∧ x.a ≤ 100
theorem Inv.step {m0 : IM} {s : List Opn} {z : IM × List Opn × List Opn} (h : Inv m0 s z) {x : Opn} (hx : x.k ∈ four ∧ 1 ≤ x.a ∧ x.a ≤ 100) : Inv m0 (s ++ [x]) (stepC z x) := by
  obtain ⟨m, ca, sh⟩ := z
  obtain ⟨h1, h2, h3, h4, h5, h6, h7, h8⟩ := h
  simp only at h1 h2 h3 h4 h5 h6 h7 h8
  have g0 := h1 x.k
  have gcv : covF m x = if aget x.k m < x.a then aget x.k m else x.a := rfl
  have e1 : ∀ c, sumK c (bif decide (0 < covF m x) then ca ++ [{ x with a := covF m x }] else ca) = sumK c ca + if x.k = c then covF m x else 0 := by
    intro c
    cases hd : decide (0 < covF m x) with
    | true => rw [cond_true, sumK_append]; simp [sumK]
    | false =>
      rw [cond_false]
      have : covF m x = 0 := by simp only [decide_eq_false_iff_not] at hd; split at gcv <;> omega
      rw [this]; simp
  have e2 : ∀ c, sumK c (bif decide (0 < x.a - covF m x) then sh ++ [{ x with a := x.a - covF m x }] else sh) = sumK c sh + if x.k = c then x.a - covF m x else 0 := by
    intro c
    cases hd : decide (0 < x.a - covF m x) with
    | true => rw [cond_true, sumK_append]; simp [sumK]
    | false =>
      rw [cond_false]
      have : x.a - covF m x = 0 := by simp only [decide_eq_false_iff_not] at hd; split at gcv <;> omega
      rw [this]; simp
  have e3 : ∀ c, aget c (aput x.k (aget x.k m - covF m x) m) = aget c m - if x.k = c then covF m x else 0 := by
    intro c
    rw [aget_aput]
    by_cases e : x.k = c
    · subst e; simp
    · have : (c == x.k) = false := by simpa using fun h => e h.symm
      rw [this]; simp [e]
  have cv : 0 ≤ covF m x ∧ covF m x ≤ x.a ∧ covF m x ≤ aget x.k m ∧ (covF m x < x.a → covF m x = aget x.k m) := by
    rw [gcv]; split <;> omega
  refine ⟨fun c => ?_, fun c => ?_, fun c => ?_, fun c => ?_, fun c => ?_, fun c hc => ?_, ?_, ?_⟩
  · simp only [stepC]; rw [e3]
    have := h1 c
    split
    · rename_i e; subst e; omega
    · omega
  · simp only [stepC]; rw [e3, e1]
    have := h2 c
    omega
  · simp only [stepC]; rw [e1, e2, sumK_append]
    have := h3 c
    simp only [sumK]
    split <;> omega
  · simp only [stepC]; rw [e1]
    have := h4 c
    split <;> omega
  · simp only [stepC]; rw [e2]
    have := h5 c
    split <;> omega
  · simp only [stepC] at hc ⊢; rw [e2] at hc; rw [e3]
    have a1 := h5 c
    have a2 := h6 c
    have a3 := h1 c
    split
    · rename_i e; subst e
      rw [if_pos rfl] at hc
      by_cases h9 : 0 < sumK x.k sh
      · have := a2 h9; omega
      · have := cv.2.2.2 (by omega); omega
    · rename_i e; rw [if_neg e] at hc; have := a2 (by omega); omega
  · simp only [stepC]
    intro y hy
    cases hd : decide (0 < covF m x) with
    | true =>
      rw [hd, cond_true] at hy
      rcases List.mem_append.1 hy with hy | hy
      · exact h7 y hy
      · simp only [List.mem_singleton] at hy; subst hy; exact ⟨hx.1, by simp only; omega, by simp only; omega⟩
    | false => rw [hd, cond_false] at hy; exact h7 y hy
  · simp only [stepC]
    intro y hy
    cases hd : decide (0 < x.a - covF m x) with
    | true =>
      rw [hd, cond_true] at hy
      rcases List.mem_append.1 hy with hy | hy
      · exact h8 y hy
      · simp only [List.mem_singleton] at hy; subst hy; exact ⟨hx.1, by simp only; omega, by simp only; omega⟩
    | false => rw [hd, cond_false] at hy; exact h8 y hy
theorem Inv.run {m0 : IM} (h0 : ∀ c, 0 ≤ aget c m0) : ∀ {r s : List Opn} {z : IM × List Opn × List Opn}, Inv m0 s z → (∀ x, x ∈ r → x.k ∈ four ∧ 1 ≤ x.a ∧ x.a ≤ 100) → Inv m0 (s ++ r) (r.foldl stepC z)
  | [], s, z, h, _ => by rw [List.append_nil]; exact h
  | x :: r, s, z, h, hr => by
    have := Inv.run h0 (h.step (hr x List.mem_cons_self)) (fun y hy => hr y (List.mem_cons_of_mem _ hy))
    rw [List.append_assoc] at this
    exact this
theorem rest_get (c : List UInt8) : ∀ (left : List Lft) (m : IM), (left.map Lft.k).Nodup → aget c (left.foldl (fun m x => aput x.k x.a m) m) = if c ∈ left.map Lft.k then sumKL c left else aget c m
  | [], m, _ => by simp
  | x :: r, m, h => by
    rw [List.map_cons, List.nodup_cons] at h
    rw [List.foldl_cons, rest_get c r _ h.2, aget_aput]
    by_cases e : c = x.k
    · subst e
      rw [if_neg h.1]
      have : sumKL x.k r = 0 := by
        have key : ∀ r : List Lft, x.k ∉ r.map Lft.k → sumKL x.k r = 0 := by
          intro r
          induction r with
          | nil => intro _; rfl
          | cons y r ih =>
            intro hn
            rw [List.map_cons, List.mem_cons, not_or] at hn
            simp only [sumKL, ih hn.2]
            rw [if_neg (fun e => hn.1 e.symm)]; rfl
        exact key r h.1
      simp [sumKL, this]
    · have e2 : (c == x.k) = false := by simpa using e
      have e3 : ¬ x.k = c := fun h => e h.symm
      rw [e2]
      simp only [List.map_cons, List.mem_cons, e, false_or, sumKL, e3, if_false, Int.zero_add, Bool.false_eq_true]
theorem lfR_nd {left : List Lft} (h : lfR left) : (left.map Lft.k).Nodup := h.1.nodup four_nd
theorem sumKL_0 {c : List UInt8} : ∀ {r : List Lft}, c ∉ r.map Lft.k → sumKL c r = 0
  | [], _ => rfl
  | y :: r, hn => by
    rw [List.map_cons, List.mem_cons, not_or] at hn
    simp only [sumKL, sumKL_0 hn.2]
    rw [if_neg (fun e => hn.1 e.symm)]; rfl
theorem sumKL_nn {c : List UInt8} : ∀ {r : List Lft}, (∀ x, x ∈ r → 0 ≤ x.a) → 0 ≤ sumKL c r
  | [], _ => Int.le_refl _
  | y :: r, hn => by
    have := sumKL_nn (c := c) (r := r) (fun x hx => hn x (List.mem_cons_of_mem _ hx))
    have := hn y List.mem_cons_self
    simp only [sumKL]
    split <;> omega
theorem restI_get {left : List Lft} (h : lfR left) (c : List UInt8) : aget c (restI left) = sumKL c left := by
  unfold restI
  rw [rest_get c left [] (lfR_nd h)]
  split
  · rfl
  · rename_i hn; rw [sumKL_0 hn]; rfl
theorem inv_run {l : List Opn} {left : List Lft} (h : opsR l) (hf : lfR left) : Inv (restI left) (isort ltO l) (runC l left) := by
  have h0 : ∀ c, 0 ≤ aget c (restI left) := fun c => by rw [restI_get hf]; exact sumKL_nn (fun x hx => (hf.2 x hx).1)
  have := Inv.run h0 (s := []) (z := (restI left, [], [])) (r := isort ltO l) ⟨h0, fun c => by simp [sumK], fun c => by simp [sumK], fun c => by simp [sumK], fun c => by simp [sumK], fun c hc => by simp [sumK] at hc, ⟨fun x hx => (by cases hx), fun x hx => (by cases hx)⟩⟩
    (fun x hx => by have := h.1 x ((mem_isort ltO).1 hx); exact ⟨this.2.2.1, this.2.2.2⟩)
  exact this
/-- What is carried, and what is short, by code. -/
theorem run_sums {l : List Opn} {left : List Lft} (h : opsR l) (hf : lfR left) (c : List UInt8) :
    aget c (runC l left).1 + sumK c (runC l left).2.1 = sumKL c left ∧ sumK c (runC l left).2.1 + sumK c (runC l left).2.2 = sumK c l ∧ 0 ≤ aget c (runC l left).1 ∧ 0 ≤ sumK c (runC l left).2.1 ∧ 0 ≤ sumK c (runC l left).2.2 ∧
    (0 < sumK c (runC l left).2.2 → aget c (runC l left).1 = 0) := by
  have := inv_run h hf
  have h1 := this.left c
  rw [restI_get hf] at h1
  have h2 := this.all c
  rw [sumK_perm c (isort_perm ltO l)] at h2
  exact ⟨h1, h2, this.nn c, this.nc c, this.ns c, this.short c⟩
theorem lap_sum (m : IM) (hm : ∀ c, 0 ≤ aget c m) (c : List UInt8) : ∀ {left : List Lft}, (left.map Lft.k).Nodup → sumKL c (lapF m left) = if c ∈ left.map Lft.k then aget c m else 0
  | [], _ => rfl
  | x :: r, h => by
    rw [List.map_cons, List.nodup_cons] at h
    have ih := lap_sum m hm c (left := r) h.2
    have e : sumKL c (lapF m (x :: r)) = (if x.k = c then aget x.k m else 0) + sumKL c (lapF m r) := by
      simp only [lapF]
      cases hd : decide (0 < aget x.k m) with
      | true => rw [cond_true]; rfl
      | false =>
        rw [cond_false]
        have h1 := hm x.k
        simp only [decide_eq_false_iff_not] at hd
        have : aget x.k m = 0 := by omega
        rw [this]; simp
    rw [e, ih]
    by_cases e2 : x.k = c
    · subst e2
      rw [if_pos rfl, if_neg h.1]; simp
    · have e3 : ¬ c = x.k := fun h => e2 h.symm
      simp only [e2, if_false, List.map_cons, List.mem_cons, e3, false_or, Int.zero_add]
theorem lap_run {l : List Opn} {left : List Lft} (h : opsR l) (hf : lfR left) (c : List UInt8) : sumKL c (lapF (runC l left).1 left) = aget c (runC l left).1 := by
  have hi := inv_run h hf
  rw [lap_sum _ hi.nn c (lfR_nd hf)]
  split
  · rfl
  · rename_i hn
    have h1 := (run_sums h hf c).1
    rw [sumKL_0 hn] at h1
    have := (run_sums h hf c).2.2
    omega
end Go.AM
