/-
  A part of a proof: see the last text of this claim for what is proved.
-/
import Derived.Test.YtifefpabgchglaaGreatDoorL3
/-! classification: texts, plain -/
namespace Go.AM
open Go Go.Proofs Go.IntWalk
set_option maxRecDepth 100000
set_option maxHeartbeats 1000000
set_option linter.unusedSimpArgs false
set_option linter.unusedVariables false
/-! ### Lines -/
theorem ixB_app : ∀ (a r : List UInt8) (c : UInt8), c ∉ a → Lib.indexByte (a ++ c :: r) c = a.length
  | [], r, c, _ => by simp [Lib.indexByte]
  | x :: a, r, c, h => by
    rw [List.mem_cons, not_or] at h
    have ih := ixB_app a r c h.2
    have hx : (x == c) = false := by simpa using fun e => h.1 e.symm
    rw [List.cons_append, Lib.indexByte, hx, ih]
    have : ((a.length : Int) == -1) = false := by simp
    rw [this]
    simp
theorem cut_app {a r : List UInt8} {c : UInt8} (h : c ∉ a) : Lib.cut (a ++ c :: r) [c] = (a, r, true) := by
  have h1 : Lib.index (a ++ c :: r) [c] = a.length := by rw [Lib.index_one, ixB_app _ _ _ h]
  unfold Lib.cut
  rw [h1, if_pos (by omega)]
  simp
theorem cut_line : ∀ (a r : List UInt8), (10 : UInt8) ∉ a → lineCut (a ++ 10 :: r) = (a ++ [10], r)
  | [], r, _ => by simp [lineCut]
  | x :: a, r, h => by
    rw [List.mem_cons, not_or] at h
    have hx : x ≠ 10 := fun e => h.1 e.symm
    rw [List.cons_append, lineCut, if_neg hx, cut_line a r h.2]
    rfl
theorem lines_step {a r : List UInt8} (h : (10 : UInt8) ∉ a) : linesOf (a ++ 10 :: r) = (a ++ [10]) :: linesOf r := by
  cases a with
  | nil => rw [List.nil_append, linesOf_cons]; simp [lineCut]
  | cons x a => rw [List.cons_append, linesOf_cons, ← List.cons_append, cut_line _ _ h]
theorem trim_line (a : List UInt8) : Lib.trimSuffix (a ++ [10]) [10] = a := by
  unfold Lib.trimSuffix Lib.hasSuffix
  rw [if_pos (by rw [List.isSuffixOf_iff_suffix]; exact List.suffix_append _ _)]
  simp
theorem linesOf_len : ∀ (n : Nat) (s : List UInt8), s.length ≤ n → (linesOf s).length ≤ s.length ∧ ∀ x, x ∈ linesOf s → x.length ≤ s.length
  | n, [], _ => by rw [linesOf_nil]; exact ⟨Nat.le_refl _, fun x h => by cases h⟩
  | 0, c :: r, h => by simp at h
  | n + 1, c :: r, h => by
    have hlt := lineCut_lt (c := c) (r := r)
    have happ := congrArg List.length (lineCut_app (c :: r))
    rw [List.length_append] at happ
    obtain ⟨i1, i2⟩ := linesOf_len n (lineCut (c :: r)).2 (by omega)
    rw [linesOf_cons]
    refine ⟨by rw [List.length_cons]; omega, fun x hx => ?_⟩
    rcases List.mem_cons.1 hx with rfl | hx
    · omega
    · have := i2 x hx; omega
theorem trim_le (s p : List UInt8) : (Lib.trimSuffix s p).length ≤ s.length := by
  unfold Lib.trimSuffix
  split
  · rw [List.length_take]; omega
  · exact Nat.le_refl _
theorem cut_le (s p : List UInt8) : (Lib.cut s p).1.length ≤ s.length ∧ (Lib.cut s p).2.1.length ≤ s.length := by
  unfold Lib.cut
  split
  · simp only [List.length_take, List.length_drop]; omega
  · simp
/-! ### Lists of headings -/
theorem nm5_ok : ∀ n, n ∈ nm5 → nmF n = true ∧ n.length ≤ 20 ∧ (10 : UInt8) ∉ n := by decide +kernel
theorem SX_nb : ∀ a, a ∈ SX → (32 : UInt8) ∉ a ∧ (10 : UInt8) ∉ a ∧ a.length ≤ 7 := by decide +kernel
theorem SX_ord : SX.Pairwise (fun a b => cmpC a b < 0) := by decide +kernel
theorem SX_self : ∀ a, a ∈ SX → cmpC a a = 0 := by decide +kernel
theorem SX_nd : SX.Nodup := by decide +kernel
theorem SX_up1 : ∀ a, a ∈ SX → a ≠ [] ∧ parF a ≠ a := by decide +kernel
theorem pw_getD {α : Type} [Inhabited α] {R : α → α → Prop} {l : List α} (h : l.Pairwise R) {i j : Nat} (hij : i < j) (hj : j < l.length) : R (l.getD i default) (l.getD j default) := by
  have := List.pairwise_iff_getElem.1 h i j (by omega) hj hij
  rwa [List.getD_eq_getElem?_getD, List.getD_eq_getElem?_getD, List.getElem?_eq_getElem (by omega), List.getElem?_eq_getElem hj]
theorem hCode_getD {l : List PV} {i : Nat} (h : i < l.length) : hCode (l.getD i default) ∈ l.map hCode := List.mem_map.2 ⟨_, getD_mem h, rfl⟩
/-- Codes in order, each once, with good names. -/
def goodH (l : List PV) : Prop := nameP l ∧ l.map hCode = SX.filter (fun c => (l.map hCode).contains c)
def closedH (L : List (List UInt8)) : Prop := ∀ x, x ∈ L → parF x = [] ∨ parF x ∈ L
theorem goodH.sx {l : List PV} (h : goodH l) {x : List UInt8} (hx : x ∈ l.map hCode) : x ∈ SX := by
  rw [h.2] at hx; exact (List.mem_filter.1 hx).1
theorem goodH.ord {l : List PV} (h : goodH l) : (l.map hCode).Pairwise (fun a b => cmpC a b < 0) := by rw [h.2]; exact SX_ord.filter _
theorem goodH.nd {l : List PV} (h : goodH l) : (l.map hCode).Nodup := by rw [h.2]; exact SX_nd.filter _
theorem goodH.len {l : List PV} (h : goodH l) : l.length ≤ 45 := by
  have : (l.map hCode).length ≤ 45 := by rw [h.2]; exact Nat.le_trans (List.length_filter_le _ _) (by decide)
  rwa [List.length_map] at this
theorem goodH.hd {l : List PV} (h : goodH l) {i : Nat} (hi : i < l.length) : hdF l i = 0 ↔ parF (hCode (l.getD i default)) = [] ∨ parF (hCode (l.getD i default)) ∈ l.map hCode := by
  have hm := hCode_getD hi
  have hs := h.sx hm
  obtain ⟨c, n, he, _, hn5⟩ := h.1 _ (getD_mem hi)
  have hc : hCode (l.getD i default) = c := by rw [he]; rfl
  have hnm : hName (l.getD i default) = n := by rw [he]; rfl
  unfold hdF
  rw [hc] at hm hs ⊢
  rw [hnm, (SX_par c hs).1, (nm5_ok n hn5).1]
  simp only [Bool.not_true, cond_false]
  have ho : (decide ((0 : Int) < (i : Int)) && decide (0 ≤ cmpC (hCode (l.getD (i - 1) default)) c)) = false := by
    cases i with
    | zero => rfl
    | succ j =>
      have h1 := h.ord
      rw [List.pairwise_map] at h1
      have h2 := pw_getD h1 (show j < j + 1 by omega) hi
      rw [hc] at h2
      have h3 : decide (0 ≤ cmpC (hCode (l.getD j default)) c) = false := decide_eq_false (by omega)
      show (_ && decide (0 ≤ cmpC (hCode (l.getD j default)) c)) = false
      rw [h3, Bool.and_false]
  rw [ho, cond_false, (SX_par c hs).2]
  have ha : (l.any (fun e => hCode e == parF c)) = true ↔ parF c ∈ l.map hCode := by
    rw [List.any_eq_true, List.mem_map]
    constructor
    · rintro ⟨e, h1, h2⟩; exact ⟨e, h1, by simpa using h2⟩
    · rintro ⟨e, h1, h2⟩; exact ⟨e, h1, by simpa using h2⟩
  rw [← ha]
  cases h1 : (parF c == []) with
  | true =>
    have : parF c = [] := by simpa using h1
    simp [this]
  | false =>
    have h1' : parF c ≠ [] := by simpa using h1
    cases h2 : (l.any fun e => hCode e == parF c) <;> simp [h1']
theorem fstG_iff {l : List PV} : ∀ k i, (fstG l k i).2 = 0 ↔ ∀ j, i ≤ j → j < i + k → hdF l j = 0
  | 0, i => by simp [fstG]; omega
  | k + 1, i => by
    unfold fstG
    have ih := fstG_iff (l := l) k (i + 1)
    cases h : (hdF l i != 0) with
    | true =>
      rw [cond_true]
      have h' : hdF l i ≠ 0 := by simpa using h
      exact ⟨fun h9 => absurd h9 h', fun h9 => absurd (h9 i (Nat.le_refl _) (by omega)) h'⟩
    | false =>
      rw [cond_false, ih]
      have h' : hdF l i = 0 := by simpa using h
      constructor
      · intro h9 j h1 h2
        rcases Nat.eq_or_lt_of_le h1 with rfl | h3
        · exact h'
        · exact h9 j (by omega) (by omega)
      · intro h9 j h1 h2
        exact h9 j (by omega) (by omega)
theorem goodH.valid {l : List PV} (h : goodH l) : (fstF l).2 = 0 ↔ closedH (l.map hCode) := by
  have h45 := h.len
  unfold fstF
  rw [show decide ((60 : Int) < (l.length : Int)) = false by simp; omega, cond_false, fstG_iff]
  constructor
  · intro h9 x hx
    obtain ⟨e, he, rfl⟩ := List.mem_map.1 hx
    obtain ⟨i, hi, rfl⟩ := List.mem_iff_getElem.1 he
    have := (h.hd hi).1 (h9 i (Nat.zero_le _) (by omega))
    simpa [List.getD_eq_getElem?_getD, hi] using this
  · intro h9 j _ hj
    have hj' : j < l.length := by omega
    exact (h.hd hj').2 (h9 _ (hCode_getD hj'))
theorem tree_good {l : List PV} (h : treeC (l.map hCode)) (hn : nameP l) : goodH l ∧ closedH (l.map hCode) := ⟨⟨hn, h.1⟩, h.2⟩
/-! ### One heading less -/
theorem filter_cut {α : Type} [DecidableEq α] {a b : List α} {x : α} (h : (a ++ x :: b).Nodup) : (a ++ x :: b).filter (fun y => decide (y ≠ x)) = a ++ b := by
  rw [List.nodup_append] at h
  obtain ⟨h1, h2, h3⟩ := h
  rw [List.nodup_cons] at h2
  have fa : a.filter (fun y => decide (y ≠ x)) = a := List.filter_eq_self.2 (fun y hy => decide_eq_true (h3 y hy x List.mem_cons_self))
  have fb : b.filter (fun y => decide (y ≠ x)) = b := List.filter_eq_self.2 (fun y hy => decide_eq_true (fun e => h2.1 (by rw [← e]; exact hy)))
  rw [List.filter_append, List.filter_cons, fa, fb]
  simp
theorem less_good {l : List PV} (h : goodH l) {k : Nat} (hk : k < l.length) : goodH (l.take k ++ l.drop (k + 1)) ∧ ∀ y, y ∈ (l.take k ++ l.drop (k + 1)).map hCode ↔ y ∈ l.map hCode ∧ y ≠ hCode (l.getD k default) := by
  have hsplit : l = l.take k ++ l.getD k default :: l.drop (k + 1) := by
    have : l.drop k = l.getD k default :: l.drop (k + 1) := by
      rw [List.drop_eq_getElem_cons hk]; simp [List.getD_eq_getElem?_getD, hk]
    rw [← this, List.take_append_drop]
  have hmap : l.map hCode = (l.take k).map hCode ++ hCode (l.getD k default) :: (l.drop (k + 1)).map hCode := by
    conv => lhs; rw [hsplit]
    rw [List.map_append, List.map_cons]
  have hnd := h.nd
  rw [hmap] at hnd
  have hf := filter_cut hnd
  rw [← hmap] at hf
  have hcodes : (l.take k ++ l.drop (k + 1)).map hCode = (l.map hCode).filter (fun y => decide (y ≠ hCode (l.getD k default))) := by rw [hf, List.map_append]
  refine ⟨⟨fun e he => ?_, ?_⟩, fun y => ?_⟩
  · rcases List.mem_append.1 he with he | he
    · exact h.1 e (List.mem_of_mem_take he)
    · exact h.1 e (List.mem_of_mem_drop he)
  · refine sorted_of (q := fun c => (l.map hCode).contains c && decide (c ≠ hCode (l.getD k default))) ?_
    rw [hcodes]
    conv => lhs; rw [h.2]
    rw [List.filter_filter]
    apply List.filter_congr
    intro x _
    rw [Bool.and_comm]
  · rw [hcodes, List.mem_filter, decide_eq_true_eq]
theorem less_valid {l : List PV} (h : goodH l) (hcl : closedH (l.map hCode)) {k : Nat} (hk : k < l.length) :
    ((fstF (l.take k ++ l.drop (k + 1))).2 == 0) = ((((chC (l.map hCode) (hCode (l.getD k default))).length : Nat) : Int) == 0) := by
  obtain ⟨hg, hm⟩ := less_good h hk
  have hc := h.sx (hCode_getD hk)
  rw [Bool.eq_iff_iff, beq_iff_eq, beq_iff_eq, hg.valid]
  have hch : (((chC (l.map hCode) (hCode (l.getD k default))).length : Nat) : Int) = 0 ↔ ∀ d, d ∈ l.map hCode → parF d ≠ hCode (l.getD k default) := by
    rw [Int.natCast_eq_zero, List.length_eq_zero_iff]
    unfold chC
    rw [List.filter_eq_nil_iff]
    constructor
    · intro h9 d hd e
      have hs := SX_par d (h.sx hd)
      refine h9 d hd ?_
      rw [hs.1, hs.2, e]; simp
    · intro h9 d hd e
      have hs := SX_par d (h.sx hd)
      rw [hs.2] at e
      simp only [Bool.and_eq_true, beq_iff_eq] at e
      exact h9 d hd e.2
  rw [hch]
  generalize hCode (l.getD k default) = c at hm hc
  constructor
  · intro h9 d hd e
    have hdc : d ≠ c := fun e2 => (SX_up1 c hc).2 (by rw [e2] at e; exact e)
    rcases h9 d ((hm d).2 ⟨hd, hdc⟩) with h1 | h1
    · rw [h1] at e; exact (SX_up1 c hc).1 e.symm
    · exact ((hm _).1 h1).2 e
  · intro h9 d hd
    obtain ⟨h1, h2⟩ := (hm d).1 hd
    rcases hcl d h1 with h3 | h3
    · exact .inl h3
    · exact .inr ((hm _).2 ⟨h3, h9 d h1⟩)
/-! ### Texts -/
def hLine (e : PV) : List UInt8 := hCode e ++ 32 :: hName e
def txtL : List PV → List UInt8
  | [] => []
  | e :: r => hLine e ++ 10 :: txtL r
theorem txtL_app : ∀ p q : List PV, txtL (p ++ q) = txtL p ++ txtL q
  | [], q => rfl
  | x :: p, q => by simp [txtL, txtL_app p q]
/-- The headings of lines. -/
def hpG : List PV → List (List UInt8) → List PV × Int × Int
  | acc, [] => bif (fstF acc).2 != 0 then ([], (fstF acc).1, (fstF acc).2) else (acc, 0, 0)
  | acc, x :: r => bif (Lib.cut (Lib.trimSuffix x [10]) [32]).2.2 then hpG (acc ++ [hV (Lib.cut (Lib.trimSuffix x [10]) [32]).1 (Lib.cut (Lib.trimSuffix x [10]) [32]).2.1]) r else ([], (acc.length : Int) + 1, 4)
theorem hpG_cons {acc : List PV} {x : List UInt8} {r : List (List UInt8)} : hpG acc (x :: r) = bif (Lib.cut (Lib.trimSuffix x [10]) [32]).2.2 then hpG (acc ++ [hV (Lib.cut (Lib.trimSuffix x [10]) [32]).1 (Lib.cut (Lib.trimSuffix x [10]) [32]).2.1]) r else ([], (acc.length : Int) + 1, 4) := rfl
def hpF (s : List UInt8) : List PV × Int × Int := bif decide (12000 < (s.length : Int)) then ([], 0, 3) else hpG [] (linesOf s)
/-- Headings whose lines can be read. -/
def lineH (e : PV) : Prop := ∃ c n, e = hV c n ∧ (32 : UInt8) ∉ c ∧ (10 : UInt8) ∉ c ∧ (10 : UInt8) ∉ n ∧ c.length ≤ 100 ∧ n.length ≤ 100
theorem goodH.line {l : List PV} (h : goodH l) : ∀ e, e ∈ l → lineH e := by
  intro e he
  obtain ⟨c, n, rfl, h1, h2⟩ := h.1 e he
  have hs := SX_nb c (h.sx (List.mem_map.2 ⟨_, he, rfl⟩))
  have hn := nm5_ok n h2
  exact ⟨c, n, rfl, hs.1, hs.2.1, hn.2.2, by omega, by omega⟩
theorem lineH.no {e : PV} (h : lineH e) : (10 : UInt8) ∉ hLine e := by
  obtain ⟨c, n, rfl, h1, h2, h3, _⟩ := h
  show (10 : UInt8) ∉ c ++ 32 :: n
  simp only [List.mem_append, List.mem_cons, not_or]
  exact ⟨h2, by decide, h3⟩
theorem lines_txt : ∀ l : List PV, (∀ e, e ∈ l → lineH e) → linesOf (txtL l) = l.map (fun e => hLine e ++ [10])
  | [], _ => linesOf_nil
  | e :: r, h => by
    rw [txtL, lines_step (h e List.mem_cons_self).no, lines_txt r (fun x hx => h x (List.mem_cons_of_mem _ hx))]
    rfl
theorem hp_txt : ∀ (l acc : List PV), (∀ e, e ∈ l → lineH e) → hpG acc (l.map (fun e => hLine e ++ [10])) = hpG (acc ++ l) []
  | [], acc, _ => by simp
  | e :: r, acc, h => by
    have ih := hp_txt r (acc ++ [e]) (fun x hx => h x (List.mem_cons_of_mem _ hx))
    obtain ⟨c, n, rfl, h1, _⟩ := h e List.mem_cons_self
    have hcut : Lib.cut (Lib.trimSuffix (hLine (hV c n) ++ [10]) [10]) [32] = (c, n, true) := by
      rw [trim_line]; exact cut_app h1
    rw [List.map_cons, hpG_cons, hcut]
    simp only [cond_true]
    rw [ih]
    simp
theorem txt_len : ∀ l : List PV, (∀ e, e ∈ l → lineH e) → (txtL l).length ≤ l.length * 202
  | [], _ => by simp [txtL]
  | e :: r, h => by
    have ih := txt_len r (fun x hx => h x (List.mem_cons_of_mem _ hx))
    obtain ⟨c, n, rfl, _, _, _, h1, h2⟩ := h e List.mem_cons_self
    have : (hLine (hV c n)).length = c.length + (n.length + 1) := by show (c ++ 32 :: n).length = _; simp
    simp only [txtL, List.length_append, List.length_cons, Nat.add_mul]; omega
theorem hpF_txt {l : List PV} (h : goodH l) (hc : closedH (l.map hCode)) : hpF (txtL l) = (l, 0, 0) := by
  have h1 := txt_len l h.line
  have h2 := h.len
  have h3 := h.valid.2 hc
  unfold hpF
  rw [show decide (12000 < ((txtL l).length : Int)) = false by simp; omega, cond_false, lines_txt l h.line, hp_txt l [] h.line, List.nil_append, hpG, h3]
  rfl
theorem txt_inj {l m : List PV} (hl : goodH l) (cl : closedH (l.map hCode)) (hm : goodH m) (cm : closedH (m.map hCode)) (h : txtL l = txtL m) : l = m := by
  have h1 := hpF_txt hl cl
  have h2 := hpF_txt hm cm
  rw [h, h2] at h1
  simp only [Prod.mk.injEq, and_true] at h1
  exact h1.symm
end Go.AM
