/-
  A part of a proof: see the last text of this claim for what is proved.
-/
import Derived.Test.YtdbnifmcikljdaaGreatDoorR03
import Derived.Test.YtdbnifmcikljdaaGreatDoorP6
import Derived.Test.YtdbnifmcikljdaaGreatDoorZMa
namespace Go.AM
open Go Go.Proofs Go.IntWalk
set_option maxRecDepth 100000
set_option maxHeartbeats 1000000
set_option linter.unusedSimpArgs false
set_option linter.unusedVariables false
def refW : List UInt8 → Option Int
  | [c] => if 49 ≤ c.toNat ∧ c.toNat ≤ 57 then some ((c.toNat : Int) - 48) else none
  | [c, e] => if (49 ≤ c.toNat ∧ c.toNat ≤ 57) ∧ (48 ≤ e.toNat ∧ e.toNat ≤ 57) then some (10 * ((c.toNat : Int) - 48) + ((e.toNat : Int) - 48)) else none
  | _ => none
theorem refW_1 {c : UInt8} : refW [c] = if 49 ≤ c.toNat ∧ c.toNat ≤ 57 then some ((c.toNat : Int) - 48) else none := rfl
theorem refW_2 {c e : UInt8} : refW [c, e] = if (49 ≤ c.toNat ∧ c.toNat ≤ 57) ∧ (48 ≤ e.toNat ∧ e.toNat ≤ 57) then some (10 * ((c.toNat : Int) - 48) + ((e.toNat : Int) - 48)) else none := rfl
theorem refW_itoa : ∀ k : _root_.Fin 99, refW (Lib.itoa ((k.val : Int) + 1)) = some ((k.val : Int) + 1) := by decide +kernel
theorem goW_one : ∀ k : _root_.Fin 9, goW [UInt8.ofNat (k.val + 49)] = some ((k.val : Int) + 1) := by decide +kernel
theorem goW_two : ∀ k : _root_.Fin 9, ∀ j : _root_.Fin 10, goW [UInt8.ofNat (k.val + 49), UInt8.ofNat (j.val + 48)] = some (10 * ((k.val : Int) + 1) + j.val) := by decide +kernel
theorem goW_back {w : List UInt8} {v : Int} (h : goW w = some v) : 1 ≤ v ∧ v ≤ 99 ∧ Lib.itoa v = w := by
  unfold goW at h
  split at h
  · rename_i x hx
    split at h
    · rename_i h3
      cases h
      exact h3
    · cases h
  · cases h
theorem byte_eq (c : UInt8) {n : Nat} (h : c.toNat = n) : c = UInt8.ofNat n := by subst h; simp
theorem goW_ref (w : List UInt8) : goW w = refW w := by
  have h1 : ∀ v, goW w = some v → refW w = some v := by
    intro v h
    obtain ⟨a, b, e⟩ := goW_back h
    have := refW_itoa ⟨(v - 1).toNat, by omega⟩
    simp only [show (((v - 1).toNat : Nat) : Int) + 1 = v by omega] at this
    rw [e] at this; exact this
  have h2 : ∀ v, refW w = some v → goW w = some v := by
    intro v h
    match w, h with
    | [c], h =>
      rw [refW_1] at h
      split at h
      · rename_i h3
        obtain rfl := Option.some.inj h
        have := goW_one ⟨c.toNat - 49, by omega⟩
        simp only [show c.toNat - 49 + 49 = c.toNat by omega, show ((c.toNat - 49 : Nat) : Int) + 1 = (c.toNat : Int) - 48 by omega] at this
        rw [← byte_eq c rfl] at this; exact this
      · cases h
    | [c, e], h =>
      rw [refW_2] at h
      split at h
      · rename_i h3
        obtain rfl := Option.some.inj h
        have := goW_two ⟨c.toNat - 49, by omega⟩ ⟨e.toNat - 48, by omega⟩
        simp only [show c.toNat - 49 + 49 = c.toNat by omega, show e.toNat - 48 + 48 = e.toNat by omega, show ((c.toNat - 49 : Nat) : Int) + 1 = (c.toNat : Int) - 48 by omega, show ((e.toNat - 48 : Nat) : Int) = (e.toNat : Int) - 48 by omega] at this
        rw [← byte_eq c rfl, ← byte_eq e rfl] at this; exact this
      · cases h
  cases hg : goW w with
  | some v => exact (h1 v hg).symm
  | none =>
    cases hr : refW w with
    | none => rfl
    | some v => rw [h2 v hr] at hg; cases hg
def digB (c : UInt8) : Prop := 48 ≤ c.toNat ∧ c.toNat ≤ 57
def valW (u : List UInt8) : Int := u.foldl (fun v c => 10 * v + ((c.toNat : Int) - 48)) 0
def fstW : List UInt8 → Int
  | [] => 0
  | c :: _ => (c.toNat : Int)
theorem wordsOf_ne (l : List UInt8) : ∃ w ws, wordsOf l = w :: ws := ⟨_, _, wordsOf_cut l⟩
theorem wordsOf_dot : ∀ (u r : List UInt8), (∀ c, c ∈ u → digB c) → wordsOf (u ++ 46 :: r) = u :: wordsOf r
  | [], r, _ => by rw [List.nil_append, wordsOf, if_pos rfl]
  | c :: u, r, h => by
    have hc : ¬ c = 46 := fun e => by subst e; have := (h 46 List.mem_cons_self).1; revert this; decide
    rw [List.cons_append, wordsOf, if_neg hc, wordsOf_dot u r (fun x hx => h x (List.mem_cons_of_mem _ hx))]; rfl
theorem wordsOf_end : ∀ (u : List UInt8), (∀ c, c ∈ u → digB c) → wordsOf u = [u]
  | [], _ => rfl
  | c :: u, h => by
    have hc : ¬ c = 46 := fun e => by subst e; have := (h 46 List.mem_cons_self).1; revert this; decide
    rw [wordsOf, if_neg hc, wordsOf_end u (fun x hx => h x (List.mem_cons_of_mem _ hx))]; rfl
theorem wordsOf_bad : ∀ (u : List UInt8) (c : UInt8) (r : List UInt8), (∀ c, c ∈ u → digB c) → ¬ c = 46 → ∃ w ws, wordsOf (u ++ c :: r) = (u ++ c :: w) :: ws
  | [], c, r, _, hc => by
    obtain ⟨w, ws, e⟩ := wordsOf_ne r
    exact ⟨w, ws, by rw [List.nil_append, wordsOf, if_neg hc, e]; rfl⟩
  | x :: u, c, r, h, hc => by
    have hx : ¬ x = 46 := fun e => by subst e; have := (h 46 List.mem_cons_self).1; revert this; decide
    obtain ⟨w, ws, e⟩ := wordsOf_bad u c r (fun y hy => h y (List.mem_cons_of_mem _ hy)) hc
    exact ⟨w, ws, by rw [List.cons_append, wordsOf, if_neg hx, e]; rfl⟩
theorem refW_bad {u w : List UInt8} {c : UInt8} (hc : ¬ digB c) : refW (u ++ c :: w) = none := by
  unfold digB at hc
  match u, w with
  | [], [] => exact (refW_1 (c := c)).trans (if_neg (by omega))
  | [], [x] => exact (refW_2 (c := c) (e := x)).trans (if_neg (by omega))
  | [], x :: y :: r => rfl
  | [x], [] => exact (refW_2 (c := x) (e := c)).trans (if_neg (by omega))
  | [x], y :: r => rfl
  | x :: y :: u', w => cases u' <;> rfl
theorem refW_good {u : List UInt8} (h : ∀ c, c ∈ u → digB c) : refW u = bif ((u.length : Int) == 0 || decide (2 < (u.length : Int)) || fstW u == 48) then none else some (valW u) := by
  match u, h with
  | [], _ => rfl
  | [c], h =>
    have h1 := h c List.mem_cons_self
    unfold digB at h1
    rw [refW_1]
    by_cases h9 : c.toNat = 48
    · rw [if_neg (by omega), show (fstW [c] == 48) = true by show ((c.toNat : Int) == 48) = true; rw [h9]; rfl]; simp
    · rw [if_pos (by omega), show (fstW [c] == 48) = false by show ((c.toNat : Int) == 48) = false; simp; omega]
      show some _ = some _
      congr 1
      show _ = 10 * 0 + ((c.toNat : Int) - 48)
      omega
  | [c, e], h =>
    have h1 := h c List.mem_cons_self
    have h2 := h e (List.mem_cons_of_mem _ List.mem_cons_self)
    unfold digB at h1 h2
    rw [refW_2]
    by_cases h9 : c.toNat = 48
    · rw [if_neg (by omega), show (fstW [c, e] == 48) = true by show ((c.toNat : Int) == 48) = true; rw [h9]; rfl]; simp
    · rw [if_pos (by omega), show (fstW [c, e] == 48) = false by show ((c.toNat : Int) == 48) = false; simp; omega]
      show some _ = some _
      congr 1
      show _ = 10 * (10 * 0 + ((c.toNat : Int) - 48)) + ((e.toNat : Int) - 48)
      omega
  | a :: b :: c :: r, _ =>
    have : decide (2 < (((a :: b :: c :: r).length : Nat) : Int)) = true := by simp only [List.length_cons, decide_eq_true_eq]; omega
    rw [this]; simp [refW]
def endP (o : Option (List Int)) : List PV := match o with | none => [] | some l => if 4 < l.length then [] else l.map intV
theorem parG_goP : ∀ (s u : List UInt8) (acc : List Int), (∀ c, c ∈ u → digB c) → parG s (acc.map intV) (valW u) u.length (fstW u) = endP (goP acc (wordsOf (u ++ s)))
  | [], u, acc, h => by
    rw [List.append_nil, wordsOf_end u h, goP_cons, goW_ref, refW_good h, parG]
    cases ((u.length : Int) == 0 || decide (2 < (u.length : Int)) || fstW u == 48) with
    | true => rfl
    | false =>
      show (if _ then _ else _) = endP (goP (acc ++ [valW u]) [])
      rw [goP_nil]
      show _ = if _ then _ else _
      simp
  | c :: r, u, acc, h => by
    rw [parG]
    by_cases h1 : c.toNat = 46
    · have hc : c = 46 := byte_eq c h1
      subst hc
      rw [wordsOf_dot u r h, goP_cons, goW_ref, refW_good h, show (((46 : UInt8).toNat : Int) == 46) = true from rfl, cond_true]
      cases ((u.length : Int) == 0 || decide (2 < (u.length : Int)) || fstW u == 48) with
      | true => rfl
      | false =>
        have ih := parG_goP r [] (acc ++ [valW u]) (fun x hx => by cases hx)
        rw [List.nil_append] at ih
        rw [cond_false, cond_false, ← ih]
        simp [valW, fstW]
    · have hc : ¬ c = 46 := fun e => h1 (by rw [e]; rfl)
      rw [show ((c.toNat : Int) == 46) = false by simp; omega, cond_false]
      by_cases h2 : digB c
      · unfold digB at h2
        rw [show (decide ((c.toNat : Int) < 48) || decide (57 < (c.toNat : Int))) = false by simp; omega, cond_false]
        have ih := parG_goP r (u ++ [c]) acc (fun x hx => by
          rcases List.mem_append.1 hx with hx | hx
          · exact h x hx
          · rw [List.mem_singleton] at hx; subst hx; exact h2)
        rw [show u ++ c :: r = (u ++ [c]) ++ r by simp, ← ih]
        have e1 : valW (u ++ [c]) = 10 * valW u + ((c.toNat : Int) - 48) := by unfold valW; rw [List.foldl_append]; rfl
        have e2 : fstW (u ++ [c]) = bif (u.length : Int) == 0 then (c.toNat : Int) else fstW u := by
          cases u with
          | nil => rfl
          | cons x u' => rw [show (((x :: u').length : Int) == 0) = false by simp only [List.length_cons, beq_eq_false_iff_ne]; omega]; rfl
        rw [e1, e2, show (((u ++ [c]).length : Nat) : Int) = (u.length : Int) + 1 by simp]
      · obtain ⟨w, ws, e⟩ := wordsOf_bad u c r h hc
        rw [e, goP_cons, goW_ref, refW_bad h2]
        unfold digB at h2
        rw [show (decide ((c.toNat : Int) < 48) || decide (57 < (c.toNat : Int))) = true by simp; omega]
        rfl
theorem words_len : ∀ s : List UInt8, s.length + 1 = ((wordsOf s).map fun w => w.length + 1).sum
  | [] => rfl
  | c :: r => by
    have ih := words_len r
    obtain ⟨w, ws, e⟩ := wordsOf_ne r
    rw [wordsOf]
    rw [e] at ih ⊢
    simp only [List.map_cons, List.sum_cons, List.length_cons] at ih ⊢
    split
    · simp only [List.map_cons, List.sum_cons, List.length_nil]; omega
    · simp only [List.headD_cons, List.tail_cons, List.map_cons, List.sum_cons, List.length_cons]; omega
theorem goP_len : ∀ (ws : List (List UInt8)) (acc l : List Int), goP acc ws = some l → l.length = acc.length + ws.length ∧ (ws.map fun w => w.length + 1).sum ≤ 3 * ws.length
  | [], acc, l, h => by rw [goP_nil] at h; cases h; simp
  | w :: ws, acc, l, h => by
    rw [goP_cons, goW_ref] at h
    cases hw : refW w with
    | none => rw [hw] at h; cases h
    | some v =>
      rw [hw] at h
      obtain ⟨h1, h2⟩ := goP_len ws _ l h
      have h3 : w.length ≤ 2 := by
        match w, hw with
        | [], hw => cases hw
        | [_], _ => simp
        | [_, _], _ => simp
        | _ :: _ :: _ :: _, hw => cases hw
      simp only [List.length_append, List.length_cons, List.length_nil, List.map_cons, List.sum_cons] at h1 h2 ⊢
      omega
theorem parts_partsR (s : List UInt8) : parts s = (partsR s).map intV := by
  have h := parG_goP s [] [] (fun x hx => by cases hx)
  have h2 : (partsR s).map intV = endP (goP [] (wordsOf s)) := by
    unfold partsR endP
    cases goP [] (wordsOf s) with
    | none => rfl
    | some l =>
      show (if _ then _ else _ : List Int).map intV = if _ then _ else _
      split <;> rfl
  rw [h2]
  unfold parts
  split
  · rename_i h3
    cases hg : goP [] (wordsOf s) with
    | none => rfl
    | some l =>
      obtain ⟨h4, h5⟩ := goP_len _ _ _ hg
      have h6 := words_len s
      show [] = if _ then _ else _
      rw [if_pos (by simp only [List.length_nil] at h4; omega)]
  · exact h
end Go.AM
