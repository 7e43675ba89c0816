/-
  A part of a proof: see the last text of this claim for what is proved.
-/
import Derived.Test.YthdlbokgbkejnaaGreatDoorL3
namespace Go.AM
open Go Go.Proofs Go.IntWalk
set_option maxRecDepth 100000
set_option maxHeartbeats 1000000
set_option linter.unusedSimpArgs false
set_option linter.unusedVariables false
theorem ixB_app : ∀ (a r : List UInt8) (c : UInt8), c ∉ a → Lib.indexByte (a ++ c :: r) c = a.length
  | [], r, c, _ => by simp [Lib.indexByte]
  | x :: a, r, c, h => by
    rw [List.mem_cons, not_or] at h
    have ih := ixB_app a r c h.2
    have hx : (x == c) = false := by simpa using fun e => h.1 e.symm
    rw [List.cons_append, Lib.indexByte, hx, ih]
    have : ((a.length : Int) == -1) = false := by simp
    rw [this]
    simp
theorem cut_app {a r : List UInt8} {c : UInt8} (h : c ∉ a) : Lib.cut (a ++ c :: r) [c] = (a, r, true) := by
  have h1 : Lib.index (a ++ c :: r) [c] = a.length := by rw [Lib.index_one, ixB_app _ _ _ h]
  unfold Lib.cut
  rw [h1, if_pos (by omega)]
  simp
theorem cut_line : ∀ (a r : List UInt8), (10 : UInt8) ∉ a → lineCut (a ++ 10 :: r) = (a ++ [10], r)
  | [], r, _ => by simp [lineCut]
  | x :: a, r, h => by
    rw [List.mem_cons, not_or] at h
    have hx : x ≠ 10 := fun e => h.1 e.symm
    rw [List.cons_append, lineCut, if_neg hx, cut_line a r h.2]
    rfl
theorem lines_step {a r : List UInt8} (h : (10 : UInt8) ∉ a) : linesOf (a ++ 10 :: r) = (a ++ [10]) :: linesOf r := by
  cases a with
  | nil => rw [List.nil_append, linesOf_cons]; simp [lineCut]
  | cons x a => rw [List.cons_append, linesOf_cons, ← List.cons_append, cut_line _ _ h]
theorem trim_line (a : List UInt8) : Lib.trimSuffix (a ++ [10]) [10] = a := by
  unfold Lib.trimSuffix Lib.hasSuffix
  rw [if_pos (by rw [List.isSuffixOf_iff_suffix]; exact List.suffix_append _ _)]
  simp
theorem linesOf_len : ∀ (n : Nat) (s : List UInt8), s.length ≤ n → (linesOf s).length ≤ s.length ∧ ∀ x, x ∈ linesOf s → x.length ≤ s.length
  | n, [], _ => by rw [linesOf_nil]; exact ⟨Nat.le_refl _, fun x h => by cases h⟩
  | 0, c :: r, h => by simp at h
  | n + 1, c :: r, h => by
    have hlt := lineCut_lt (c := c) (r := r)
    have happ := congrArg List.length (lineCut_app (c :: r))
    rw [List.length_append] at happ
    obtain ⟨i1, i2⟩ := linesOf_len n (lineCut (c :: r)).2 (by omega)
    rw [linesOf_cons]
    refine ⟨by rw [List.length_cons]; omega, fun x hx => ?_⟩
    rcases List.mem_cons.1 hx with rfl | hx
    · omega
    · have := i2 x hx; omega
theorem trim_le (s p : List UInt8) : (Lib.trimSuffix s p).length ≤ s.length := by
  unfold Lib.trimSuffix
  split
  · rw [List.length_take]; omega
  · exact Nat.le_refl _
theorem cut_le (s p : List UInt8) : (Lib.cut s p).1.length ≤ s.length ∧ (Lib.cut s p).2.1.length ≤ s.length := by
  unfold Lib.cut
  split
  · simp only [List.length_take, List.length_drop]; omega
  · simp
theorem nm5_ok : ∀ n, n ∈ nm5 → nmF n = true ∧ n.length ≤ 20 ∧ (10 : UInt8) ∉ n := by decide +kernel
theorem SX_nb : ∀ a, a ∈ SX → (32 : UInt8) ∉ a ∧ (10 : UInt8) ∉ a ∧ a.length ≤ 7 := by decide +kernel
theorem SX_ord : SX.Pairwise (fun a b => cmpC a b < 0) := by decide +kernel
theorem pw_getD {α : Type} [Inhabited α] {R : α → α → Prop} {l : List α} (h : l.Pairwise R) {i j : Nat} (hij : i < j) (hj : j < l.length) : R (l.getD i default) (l.getD j default) := by
  have := List.pairwise_iff_getElem.1 h i j (by omega) hj hij
  rwa [List.getD_eq_getElem?_getD, List.getD_eq_getElem?_getD, List.getElem?_eq_getElem (by omega), List.getElem?_eq_getElem hj]
theorem hCode_getD {l : List PV} {i : Nat} (h : i < l.length) : hCode (l.getD i default) ∈ l.map hCode := List.mem_map.2 ⟨_, getD_mem h, rfl⟩
def goodH (l : List PV) : Prop := nameP l ∧ l.map hCode = SX.filter (fun c => (l.map hCode).contains c)
def closedH (L : List (List UInt8)) : Prop := ∀ x, x ∈ L → parF x = [] ∨ parF x ∈ L
theorem goodH.sx {l : List PV} (h : goodH l) {x : List UInt8} (hx : x ∈ l.map hCode) : x ∈ SX := by
  rw [h.2] at hx; exact (List.mem_filter.1 hx).1
theorem goodH.ord {l : List PV} (h : goodH l) : (l.map hCode).Pairwise (fun a b => cmpC a b < 0) := by rw [h.2]; exact SX_ord.filter _
theorem goodH.len {l : List PV} (h : goodH l) : l.length ≤ 45 := by
  have : (l.map hCode).length ≤ 45 := by rw [h.2]; exact Nat.le_trans (List.length_filter_le _ _) (by decide)
  rwa [List.length_map] at this
theorem goodH.hd {l : List PV} (h : goodH l) {i : Nat} (hi : i < l.length) : hdF l i = 0 ↔ parF (hCode (l.getD i default)) = [] ∨ parF (hCode (l.getD i default)) ∈ l.map hCode := by
  have hm := hCode_getD hi
  have hs := h.sx hm
  obtain ⟨c, n, he, _, hn5⟩ := h.1 _ (getD_mem hi)
  have hc : hCode (l.getD i default) = c := by rw [he]; rfl
  have hnm : hName (l.getD i default) = n := by rw [he]; rfl
  unfold hdF
  rw [hc] at hm hs ⊢
  rw [hnm, (SX_par c hs).1, (nm5_ok n hn5).1]
  simp only [Bool.not_true, cond_false]
  have ho : (decide ((0 : Int) < (i : Int)) && decide (0 ≤ cmpC (hCode (l.getD (i - 1) default)) c)) = false := by
    cases i with
    | zero => rfl
    | succ j =>
      have h1 := h.ord
      rw [List.pairwise_map] at h1
      have h2 := pw_getD h1 (show j < j + 1 by omega) hi
      rw [hc] at h2
      have h3 : decide (0 ≤ cmpC (hCode (l.getD j default)) c) = false := decide_eq_false (by omega)
      show (_ && decide (0 ≤ cmpC (hCode (l.getD j default)) c)) = false
      rw [h3, Bool.and_false]
  rw [ho, cond_false, (SX_par c hs).2]
  have ha : (l.any (fun e => hCode e == parF c)) = true ↔ parF c ∈ l.map hCode := by
    rw [List.any_eq_true, List.mem_map]
    constructor
    · rintro ⟨e, h1, h2⟩; exact ⟨e, h1, by simpa using h2⟩
    · rintro ⟨e, h1, h2⟩; exact ⟨e, h1, by simpa using h2⟩
  rw [← ha]
  cases h1 : (parF c == []) with
  | true =>
    have : parF c = [] := by simpa using h1
    simp [this]
  | false =>
    have h1' : parF c ≠ [] := by simpa using h1
    cases h2 : (l.any fun e => hCode e == parF c) <;> simp [h1']
theorem tree_good {l : List PV} (h : treeC (l.map hCode)) (hn : nameP l) : goodH l ∧ closedH (l.map hCode) := ⟨⟨hn, h.1⟩, h.2⟩
def hLine (e : PV) : List UInt8 := hCode e ++ 32 :: hName e
def txtL : List PV → List UInt8
  | [] => []
  | e :: r => hLine e ++ 10 :: txtL r
theorem txtL_app : ∀ p q : List PV, txtL (p ++ q) = txtL p ++ txtL q
  | [], q => rfl
  | x :: p, q => by simp [txtL, txtL_app p q]
def hpG : List PV → List (List UInt8) → List PV × Int × Int
  | acc, [] => bif (fstF acc).2 != 0 then ([], (fstF acc).1, (fstF acc).2) else (acc, 0, 0)
  | acc, x :: r => bif (Lib.cut (Lib.trimSuffix x [10]) [32]).2.2 then hpG (acc ++ [hV (Lib.cut (Lib.trimSuffix x [10]) [32]).1 (Lib.cut (Lib.trimSuffix x [10]) [32]).2.1]) r else ([], (acc.length : Int) + 1, 4)
theorem hpG_cons {acc : List PV} {x : List UInt8} {r : List (List UInt8)} : hpG acc (x :: r) = bif (Lib.cut (Lib.trimSuffix x [10]) [32]).2.2 then hpG (acc ++ [hV (Lib.cut (Lib.trimSuffix x [10]) [32]).1 (Lib.cut (Lib.trimSuffix x [10]) [32]).2.1]) r else ([], (acc.length : Int) + 1, 4) := rfl
def hpF (s : List UInt8) : List PV × Int × Int := bif decide (12000 < (s.length : Int)) then ([], 0, 3) else hpG [] (linesOf s)
def lineH (e : PV) : Prop := ∃ c n, e = hV c n ∧ (32 : UInt8) ∉ c ∧ (10 : UInt8) ∉ c ∧ (10 : UInt8) ∉ n ∧ c.length ≤ 100 ∧ n.length ≤ 100
theorem goodH.line {l : List PV} (h : goodH l) : ∀ e, e ∈ l → lineH e := by
  intro e he
  obtain ⟨c, n, rfl, h1, h2⟩ := h.1 e he
  have hs := SX_nb c (h.sx (List.mem_map.2 ⟨_, he, rfl⟩))
  have hn := nm5_ok n h2
  exact ⟨c, n, rfl, hs.1, hs.2.1, hn.2.2, by omega, by omega⟩
theorem txt_len : ∀ l : List PV, (∀ e, e ∈ l → lineH e) → (txtL l).length ≤ l.length * 202
  | [], _ => by simp [txtL]
  | e :: r, h => by
    have ih := txt_len r (fun x hx => h x (List.mem_cons_of_mem _ hx))
    obtain ⟨c, n, rfl, _, _, _, h1, h2⟩ := h e List.mem_cons_self
    have : (hLine (hV c n)).length = c.length + (n.length + 1) := by show (c ++ 32 :: n).length = _; simp
    simp only [txtL, List.length_append, List.length_cons, Nat.add_mul]; omega
end Go.AM
