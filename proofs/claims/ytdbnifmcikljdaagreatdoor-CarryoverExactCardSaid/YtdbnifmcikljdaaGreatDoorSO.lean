/-
  A part of a proof: see the last text of this claim for what is proved.
-/
import Derived.Test.YtdbnifmcikljdaaGreatDoorGH
namespace Go.AM
section
variable {α : Type} (lt : α → α → Bool)
def mrg : List α → List α → List α
  | [], B => B
  | a :: A, [] => a :: A
  | a :: A, b :: B => bif lt b a then b :: mrg (a :: A) B else a :: mrg A (b :: B)
termination_by A B => A.length + B.length
theorem mrg_nil (B : List α) : mrg lt [] B = B := by rw [mrg]
theorem mrg_nil_r : ∀ A : List α, mrg lt A [] = A
  | [] => mrg_nil lt []
  | a :: A => by rw [mrg]
theorem mrg_cons (a b : α) (A B : List α) : mrg lt (a :: A) (b :: B) = bif lt b a then b :: mrg lt (a :: A) B else a :: mrg lt A (b :: B) := by rw [mrg]
theorem mrg_perm : ∀ A B : List α, (mrg lt A B).Perm (A ++ B)
  | [], B => by rw [mrg_nil]; exact List.Perm.refl _
  | a :: A, [] => by rw [mrg_nil_r, List.append_nil]
  | a :: A, b :: B => by
    rw [mrg_cons]
    cases lt b a with
    | true => exact ((mrg_perm (a :: A) B).cons b).trans List.perm_middle.symm
    | false => exact (mrg_perm A (b :: B)).cons a
termination_by A B => A.length + B.length
theorem mrg_length (A B : List α) : (mrg lt A B).length = A.length + B.length := by rw [(mrg_perm lt A B).length_eq, List.length_append]
theorem mrg_split : ∀ (A1 B1 A2 B2 : List α), (∀ y, y ∈ B1 → ∀ x, x ∈ A2 → lt y x = true) → (∀ x, x ∈ A1 → ∀ y, y ∈ B2 → lt y x = false) → mrg lt (A1 ++ A2) (B1 ++ B2) = mrg lt A1 B1 ++ mrg lt A2 B2
  | [], [], A2, B2, _, _ => by rw [mrg_nil]; rfl
  | [], b :: B1, A2, B2, h1, h2 => by
    rw [mrg_nil, List.nil_append]
    cases A2 with
    | nil => rw [mrg_nil, mrg_nil]
    | cons x A2 =>
      have ih := mrg_split [] B1 (x :: A2) B2 (fun y hy => h1 y (List.mem_cons_of_mem _ hy)) h2
      rw [mrg_nil, List.nil_append] at ih
      rw [List.cons_append, mrg_cons, h1 b List.mem_cons_self x List.mem_cons_self, cond_true, ih]; rfl
  | a :: A1, [], A2, B2, h1, h2 => by
    rw [mrg_nil_r, List.nil_append]
    cases B2 with
    | nil => rw [mrg_nil_r, mrg_nil_r]
    | cons y B2 =>
      have ih := mrg_split A1 [] A2 (y :: B2) (fun y hy => by cases hy) (fun x hx => h2 x (List.mem_cons_of_mem _ hx))
      rw [mrg_nil_r, List.nil_append] at ih
      rw [List.cons_append, mrg_cons, h2 a List.mem_cons_self y List.mem_cons_self, cond_false, ih]; rfl
  | a :: A1, b :: B1, A2, B2, h1, h2 => by
    rw [List.cons_append, List.cons_append, mrg_cons, mrg_cons]
    cases h : lt b a with
    | true =>
      have ih := mrg_split (a :: A1) B1 A2 B2 (fun y hy => h1 y (List.mem_cons_of_mem _ hy)) h2
      rw [List.cons_append] at ih
      rw [cond_true, cond_true, ih]; rfl
    | false =>
      have ih := mrg_split A1 (b :: B1) A2 B2 h1 (fun x hx => h2 x (List.mem_cons_of_mem _ hx))
      rw [List.cons_append] at ih
      rw [cond_false, cond_false, ih]; rfl
termination_by A1 B1 => A1.length + B1.length
def ins (y : α) : List α → List α
  | [] => [y]
  | z :: L => bif lt y z then y :: z :: L else z :: ins y L
def ssort (l : List α) : List α := l.foldl (fun s y => ins lt y s) []
theorem ssort_snoc (l : List α) (y : α) : ssort lt (l ++ [y]) = ins lt y (ssort lt l) := by unfold ssort; rw [List.foldl_append]; rfl
structure Weak : Prop where
  t : ∀ a b c, lt b a = false → lt c b = false → lt c a = false
  a : ∀ a b, lt a b = true → lt b a = false
variable {lt}
theorem Weak.tr (h : Weak lt) {a b c : α} (h1 : lt a b = true) (h2 : lt b c = true) : lt a c = true := by
  cases h3 : lt a c with
  | true => rfl
  | false => rw [h.t _ _ _ (h.a _ _ h2) h3] at h1; cases h1
theorem Weak.lt_le (h : Weak lt) {y s x : α} (h1 : lt y s = true) (h2 : lt x s = false) : lt y x = true := by
  cases h3 : lt y x with
  | true => rfl
  | false => rw [h.t _ _ _ h2 h3] at h1; cases h1
theorem Weak.le_lt (h : Weak lt) {p y q : α} (h1 : lt p q = true) (h2 : lt p y = false) : lt y q = true := by
  cases h3 : lt y q with
  | true => rfl
  | false => rw [h.t _ _ _ h3 h2] at h1; cases h1
theorem mrg_ins (h : Weak lt) (y : α) : ∀ A B : List α, mrg lt A (ins lt y B) = ins lt y (mrg lt A B)
  | [], B => by rw [mrg_nil, mrg_nil]
  | a :: A, [] => by
    rw [mrg_nil_r]
    show mrg lt (a :: A) [y] = bif lt y a then y :: a :: A else a :: ins lt y A
    have ih := mrg_ins h y A []
    rw [mrg_nil_r] at ih
    rw [mrg_cons, mrg_nil_r]
    cases lt y a with
    | true => rfl
    | false => rw [cond_false, cond_false]; exact congrArg _ ih
  | a :: A, b :: B => by
    have e1 : ins lt y (b :: B) = bif lt y b then y :: b :: B else b :: ins lt y B := rfl
    have ih1 := mrg_ins h y (a :: A) B
    have ih2 := mrg_ins h y A (b :: B)
    rw [e1] at ih2 ⊢
    rw [mrg_cons]
    cases hyb : lt y b with
    | true =>
      rw [hyb, cond_true] at ih2
      rw [cond_true, mrg_cons]
      cases hba : lt b a with
      | true =>
        rw [h.tr hyb hba, cond_true, cond_true, mrg_cons, hba, cond_true]
        show _ = bif lt y b then _ else _
        rw [hyb]; rfl
      | false =>
        rw [cond_false]
        show _ = bif lt y a then _ else _
        cases hya : lt y a with
        | true => rw [cond_true, cond_true, mrg_cons, hba]; rfl
        | false => rw [cond_false, cond_false, ih2]
    | false =>
      rw [hyb, cond_false] at ih2
      rw [cond_false, mrg_cons]
      cases hba : lt b a with
      | true =>
        rw [cond_true, cond_true]
        show _ = bif lt y b then _ else _
        rw [hyb, cond_false, ih1]
      | false =>
        rw [cond_false, cond_false]
        show _ = bif lt y a then _ else _
        rw [h.t _ _ _ hba hyb, cond_false, ih2]
termination_by A B => A.length + B.length
theorem snoc_rec {P : List α → Prop} (h0 : P []) (h1 : ∀ l x, P l → P (l ++ [x])) : ∀ l, P l := by
  intro l
  have : ∀ n, ∀ l : List α, l.length = n → P l := by
    intro n
    induction n with
    | zero => intro l hl; rw [List.length_eq_zero_iff.1 hl]; exact h0
    | succ n ih =>
      intro l hl
      have hne : l ≠ [] := fun e => by rw [e] at hl; cases hl
      rw [← List.dropLast_concat_getLast hne]
      exact h1 _ _ (ih _ (by rw [List.length_dropLast]; omega))
  exact this _ l rfl
theorem mrg_ssort (h : Weak lt) (X : List α) : ∀ Y : List α, mrg lt (ssort lt X) (ssort lt Y) = ssort lt (X ++ Y) := by
  refine snoc_rec ?_ (fun Y y ih => ?_)
  · rw [List.append_nil]; exact mrg_nil_r lt _
  · rw [ssort_snoc, mrg_ins h, ih, ← List.append_assoc, ssort_snoc]
def Srt (lt : α → α → Bool) (l : List α) : Prop := l.Pairwise (fun a b => lt b a = false)
theorem ins_perm (y : α) : ∀ l : List α, (ins lt y l).Perm (y :: l)
  | [] => List.Perm.refl _
  | z :: L => by
    unfold ins
    cases lt y z with
    | true => exact List.Perm.refl _
    | false => exact ((ins_perm y L).cons z).trans (List.Perm.swap y z L)
theorem ins_srt (h : Weak lt) (y : α) : ∀ l : List α, Srt lt l → Srt lt (ins lt y l)
  | [], _ => by simp [ins, Srt]
  | z :: L, hs => by
    unfold Srt at hs ⊢
    rw [List.pairwise_cons] at hs
    unfold ins
    cases hyz : lt y z with
    | true =>
      rw [cond_true, List.pairwise_cons, List.pairwise_cons]
      refine ⟨fun w hw => ?_, hs⟩
      rcases List.mem_cons.1 hw with rfl | hw
      · exact h.a _ _ hyz
      · exact h.t _ _ _ (h.a _ _ hyz) (hs.1 w hw)
    | false =>
      rw [cond_false, List.pairwise_cons]
      refine ⟨fun w hw => ?_, ins_srt h y L hs.2⟩
      rcases List.mem_cons.1 ((ins_perm y L).mem_iff.1 hw) with rfl | hw
      · exact hyz
      · exact hs.1 w hw
theorem ssort_srt (h : Weak lt) : ∀ l : List α, Srt lt (ssort lt l) := by
  refine snoc_rec (by simp [ssort, Srt]) (fun l x ih => ?_)
  rw [ssort_snoc]; exact ins_srt h x _ ih
theorem ssort_perm : ∀ l : List α, (ssort lt l).Perm l := by
  refine snoc_rec (List.Perm.refl _) (fun l x ih => ?_)
  rw [ssort_snoc]
  refine (ins_perm x _).trans ((ih.cons x).trans ?_)
  exact (List.perm_append_singleton x l).symm
theorem ssort_length (l : List α) : (ssort lt l).length = l.length := (ssort_perm l).length_eq
theorem ins_last (x z : α) (hx : lt x z = true) : ∀ L : List α, ins lt x (L ++ [z]) = ins lt x L ++ [z]
  | [] => by show (bif lt x z then _ else _) = _; rw [hx]; rfl
  | w :: L => by
    rw [List.cons_append]
    show (bif lt x w then _ else _) = (bif lt x w then _ else _) ++ [z]
    cases lt x w with
    | true => rfl
    | false => rw [cond_false, cond_false, ins_last x z hx L]; rfl
theorem ins_all (x : α) : ∀ L : List α, (∀ w, w ∈ L → lt x w = false) → ins lt x L = L ++ [x]
  | [], _ => rfl
  | w :: L, h => by
    show (bif lt x w then _ else _) = _
    rw [h w List.mem_cons_self, cond_false, ins_all x L (fun y hy => h y (List.mem_cons_of_mem _ hy))]; rfl
theorem rins_ins (h : Weak lt) (x : α) : ∀ L : List α, Srt lt L → rins lt x L.reverse = (ins lt x L).reverse := by
  refine snoc_rec (fun _ => rfl) (fun L z ih hs => ?_)
  unfold Srt at hs
  rw [List.pairwise_append] at hs
  rw [List.reverse_append]
  show (bif lt x z then z :: rins lt x L.reverse else x :: z :: L.reverse) = _
  cases hxz : lt x z with
  | true => rw [cond_true, ins_last x z hxz L, ih hs.1, List.reverse_append]; rfl
  | false =>
    rw [cond_false, ins_all x (L ++ [z]) (fun w hw => ?_)]
    · simp
    · rcases List.mem_append.1 hw with hw | hw
      · exact h.t _ _ _ (hs.2.2 w hw z (List.mem_singleton.2 rfl)) hxz
      · rw [List.mem_singleton] at hw; subst hw; exact hxz
theorem isort_ssort (h : Weak lt) (l : List α) : isort lt l = ssort lt l := by
  have : ∀ l : List α, rsort lt l = (ssort lt l).reverse := by
    refine snoc_rec rfl (fun l x ih => ?_)
    rw [rsort_snoc, ssort_snoc, ih, rins_ins h x _ (ssort_srt h l)]
  unfold isort
  rw [this, List.reverse_reverse]
end
section
variable {α : Type}
def seg (es : List α) (i j : Nat) : List α := (es.take j).drop i
theorem seg_length {es : List α} {i j : Nat} (h : j ≤ es.length) : (seg es i j).length = j - i := by
  unfold seg; rw [List.length_drop, List.length_take]; omega
theorem seg_get {es : List α} {i j k : Nat} (h : k < j - i) : (seg es i j)[k]? = es[i + k]? := by
  unfold seg; rw [List.getElem?_drop, List.getElem?_take, if_pos (by omega)]
theorem seg_split {es : List α} {i m j : Nat} (h1 : i ≤ m) (h2 : m ≤ j) (h3 : j ≤ es.length) : seg es i j = seg es i m ++ seg es m j := by
  apply List.ext_getElem?
  intro k
  by_cases hk : k < m - i
  · rw [List.getElem?_append_left (by rw [seg_length (by omega)]; omega), seg_get (by omega), seg_get (by omega)]
  · rw [List.getElem?_append_right (by rw [seg_length (by omega)]; omega), seg_length (by omega)]
    by_cases hk2 : k < j - i
    · rw [seg_get (by omega), seg_get (by omega)]; congr 1; omega
    · rw [List.getElem?_eq_none (by rw [seg_length (by omega)]; omega), List.getElem?_eq_none (by rw [seg_length (by omega)]; omega)]
theorem seg_all {es : List α} : seg es 0 es.length = es := by unfold seg; rw [List.take_length, List.drop_zero]
theorem seg_self {es : List α} {i : Nat} : seg es i i = [] := by
  unfold seg; rw [List.drop_eq_nil_iff]; simp; omega
theorem seg_mem {es : List α} {i j : Nat} {x : α} (h : x ∈ seg es i j) : ∃ k, i ≤ k ∧ k < j ∧ es[k]? = some x := by
  obtain ⟨k, hk⟩ := List.getElem?_of_mem h
  have hl := (List.getElem?_eq_some_iff.1 hk).1
  unfold seg at hl
  rw [List.length_drop, List.length_take] at hl
  rw [seg_get (by omega)] at hk
  exact ⟨i + k, by omega, by omega, hk⟩
theorem seg_eq {es fs : List α} {i j i' : Nat} (h1 : j ≤ es.length) (h2 : i' + (j - i) ≤ fs.length) (h : ∀ k, k < j - i → es[i + k]? = fs[i' + k]?) : seg es i j = seg fs i' (i' + (j - i)) := by
  apply List.ext_getElem?
  intro k
  by_cases hk : k < j - i
  · rw [seg_get hk, seg_get (by omega), h k hk]
  · rw [List.getElem?_eq_none (by rw [seg_length h1]; omega), List.getElem?_eq_none (by rw [seg_length h2]; omega)]
variable [Inhabited α]
def app (es : List α) (s : Nat → Nat) : List α := (List.range es.length).map fun j => es.getD (s j) default
theorem app_length {es : List α} {s : Nat → Nat} : (app es s).length = es.length := by simp [app]
theorem app_get {es : List α} {s : Nat → Nat} {j : Nat} (h : j < es.length) : (app es s)[j]? = some (es.getD (s j) default) := by simp [app, h]
theorem app_getD {es : List α} {s : Nat → Nat} {j : Nat} (h : j < es.length) : (app es s).getD j default = es.getD (s j) default := by rw [List.getD_eq_getElem?_getD, app_get h]; rfl
theorem app_id {es : List α} : app es (fun j => j) = es := by
  apply List.ext_getElem?
  intro k
  by_cases hk : k < es.length
  · rw [app_get hk, List.getD_eq_getElem?_getD, List.getElem?_eq_getElem hk]; rfl
  · rw [List.getElem?_eq_none (by rw [app_length]; omega), List.getElem?_eq_none (by omega)]
theorem app_app {es : List α} {s t : Nat → Nat} (ht : ∀ j, j < es.length → t j < es.length) : app (app es s) t = app es (fun j => s (t j)) := by
  apply List.ext_getElem?
  intro k
  by_cases hk : k < es.length
  · rw [app_get (by rw [app_length]; exact hk), app_get hk, app_getD (ht k hk)]
  · rw [List.getElem?_eq_none (by rw [app_length, app_length]; omega), List.getElem?_eq_none (by rw [app_length]; omega)]
theorem app_congr {es : List α} {s t : Nat → Nat} (h : ∀ j, j < es.length → s j = t j) : app es s = app es t := by
  unfold app
  exact List.map_congr_left (fun j hj => by rw [h j (by simpa using hj)])
theorem app_swap {es : List α} {i j : Nat} (hi : i < es.length) (hj : j < es.length) : (es.set i (es.getD j default)).set j (es.getD i default) = app es (fun k => if k = j then i else if k = i then j else k) := by
  apply List.ext_getElem?
  intro k
  by_cases hk : k < es.length
  · rw [app_get hk]
    by_cases h1 : k = j
    · subst h1
      rw [if_pos rfl, List.getElem?_set_self (by rw [List.length_set]; exact hk)]
    · rw [if_neg h1, List.getElem?_set_ne (Ne.symm h1)]
      by_cases h2 : k = i
      · subst h2
        rw [if_pos rfl, List.getElem?_set_self hk]
      · rw [if_neg h2, List.getElem?_set_ne (Ne.symm h2), List.getD_eq_getElem?_getD, List.getElem?_eq_getElem hk]; rfl
  · rw [List.getElem?_eq_none (by rw [List.length_set, List.length_set]; omega), List.getElem?_eq_none (by rw [app_length]; omega)]
theorem getD_mem' {es : List α} {j : Nat} (h : j < es.length) : es.getD j default ∈ es := by rw [List.getD_eq_getElem?_getD, List.getElem?_eq_getElem h]; exact List.getElem_mem _
theorem app_mem {es : List α} {s : Nat → Nat} (hs : ∀ j, j < es.length → s j < es.length) {x : α} (h : x ∈ app es s) : x ∈ es := by
  unfold app at h
  obtain ⟨j, hj, rfl⟩ := List.mem_map.1 h
  exact getD_mem' (hs j (by simpa using hj))
theorem seg_app {es : List α} {s : Nat → Nat} {i j i' : Nat} (h1 : j ≤ es.length) (h2 : i' + (j - i) ≤ es.length) (h : ∀ k, k < j - i → s (i + k) = i' + k) : seg (app es s) i j = seg es i' (i' + (j - i)) := by
  refine seg_eq (by rw [app_length]; exact h1) h2 (fun k hk => ?_)
  rw [app_get (by omega), h k hk, List.getD_eq_getElem?_getD, List.getElem?_eq_getElem (show i' + k < es.length by omega)]; rfl
end
end Go.AM
namespace Go.AM
set_option linter.unusedVariables false
set_option linter.unusedSectionVars false
section
variable {α : Type} [Inhabited α]
def swS (a b n : Nat) (k : Nat) : Nat := if a ≤ k ∧ k < a + n then k - a + b else if b ≤ k ∧ k < b + n then k - b + a else k
def roS (a m b : Nat) (k : Nat) : Nat := if a ≤ k ∧ k < b then (if k < a + (b - m) then k - a + m else k - (b - m)) else k
def shl (a c : Nat) (k : Nat) : Nat := if a ≤ k ∧ k < c then k + 1 else if k = c then a else k
def shr (c m : Nat) (k : Nat) : Nat := if k = c then m else if c < k ∧ k ≤ m then k - 1 else k
theorem sw_step {es : List α} {a b i : Nat} (h1 : a + i < b) (h2 : b + i < es.length) :
    ((app es (swS a b i)).set (a + i) ((app es (swS a b i)).getD (b + i) default)).set (b + i) ((app es (swS a b i)).getD (a + i) default) = app es (swS a b (i + 1)) := by
  rw [app_swap (by rw [app_length]; omega) (by rw [app_length]; omega), app_app (fun j hj => by split; omega; split <;> omega)]
  refine app_congr (fun j hj => ?_)
  unfold swS
  repeat' split
  all_goals omega
theorem ro_gt {es : List α} {m i j : Nat} (h1 : j < i) (h2 : i ≤ m) (h3 : m + j ≤ es.length) : app (app es (swS (m - i) m j)) (roS (m - (i - j)) m (m + j)) = app es (roS (m - i) m (m + j)) := by
  rw [app_app (fun k hk => by unfold roS; split; split <;> omega; omega)]
  refine app_congr (fun k hk => ?_)
  unfold roS swS
  repeat' split
  all_goals omega
theorem ro_lt {es : List α} {m i j : Nat} (h1 : i < j) (h2 : i ≤ m) (h3 : m + j ≤ es.length) : app (app es (swS (m - i) (m + (j - i)) i)) (roS (m - i) m (m + (j - i))) = app es (roS (m - i) m (m + j)) := by
  rw [app_app (fun k hk => by unfold roS; split; split <;> omega; omega)]
  refine app_congr (fun k hk => ?_)
  unfold roS swS
  repeat' split
  all_goals omega
theorem ro_eq {es : List α} {m i : Nat} (h2 : i ≤ m) (h3 : m + i ≤ es.length) : app es (swS (m - i) m i) = app es (roS (m - i) m (m + i)) := by
  refine app_congr (fun k hk => ?_)
  unfold roS swS
  repeat' split
  all_goals omega
theorem shl_step {es : List α} {a k : Nat} (h1 : a ≤ k) (h2 : k + 1 < es.length) :
    ((app es (shl a k)).set k ((app es (shl a k)).getD (k + 1) default)).set (k + 1) ((app es (shl a k)).getD k default) = app es (shl a (k + 1)) := by
  rw [app_swap (by rw [app_length]; omega) (by rw [app_length]; omega), app_app (fun j hj => by split; omega; split <;> omega)]
  refine app_congr (fun j hj => ?_)
  unfold shl
  repeat' split
  all_goals omega
theorem shl_id {es : List α} {a : Nat} : app es (shl a a) = es := by
  have : app es (shl a a) = app es (fun j => j) := app_congr (fun j hj => by unfold shl; (repeat' split) <;> omega)
  rw [this, app_id]
theorem shr_step {es : List α} {c m : Nat} (h1 : c + 1 ≤ m) (h2 : m < es.length) :
    ((app es (shr (c + 1) m)).set (c + 1) ((app es (shr (c + 1) m)).getD c default)).set c ((app es (shr (c + 1) m)).getD (c + 1) default) = app es (shr c m) := by
  rw [app_swap (by rw [app_length]; omega) (by rw [app_length]; omega), app_app (fun j hj => by split; omega; split <;> omega)]
  refine app_congr (fun j hj => ?_)
  unfold shr
  repeat' split
  all_goals omega
theorem shr_id {es : List α} {m : Nat} : app es (shr m m) = es := by
  have : app es (shr m m) = app es (fun j => j) := app_congr (fun j hj => by unfold shr; (repeat' split) <;> omega)
  rw [this, app_id]
variable (lt : α → α → Bool)
def symR (es : List α) (a m b : Nat) : List α := seg es 0 a ++ (mrg lt (seg es a m) (seg es m b) ++ seg es b es.length)
variable {lt}
theorem symR_length {es : List α} {a m b : Nat} (h1 : a ≤ m) (h2 : m ≤ b) (h3 : b ≤ es.length) : (symR lt es a m b).length = es.length := by
  unfold symR
  rw [List.length_append, List.length_append, mrg_length, seg_length (by omega), seg_length (by omega), seg_length (by omega), seg_length (by omega)]; omega
theorem Weak.irr (h : Weak lt) (x : α) : lt x x = false := by
  cases h1 : lt x x with
  | false => rfl
  | true => rw [h.a _ _ h1] at h1; cases h1
theorem srt_get {es : List α} {a m : Nat} (hm : m ≤ es.length) (hs : Srt lt (seg es a m)) {u v : Nat} (h1 : a ≤ u) (h2 : u < v) (h3 : v < m) : lt (es.getD v default) (es.getD u default) = false := by
  have hl := seg_length (i := a) hm
  have := List.pairwise_iff_getElem.1 hs (u - a) (v - a) (by omega) (by omega) (by omega)
  have e : ∀ w, a ≤ w → w < m → ∀ h, (seg es a m)[w - a]'h = es.getD w default := fun w h1 h2 h => by
    have h5 := seg_get (es := es) (i := a) (j := m) (k := w - a) (by omega)
    rw [List.getElem?_eq_getElem h, show a + (w - a) = w by omega] at h5
    rw [List.getD_eq_getElem?_getD, ← h5]; rfl
  rw [e u h1 (by omega), e v (by omega) h3] at this
  exact this
theorem srt_le (h : Weak lt) {es : List α} {a m : Nat} (hm : m ≤ es.length) (hs : Srt lt (seg es a m)) {u v : Nat} (h1 : a ≤ u) (h2 : u ≤ v) (h3 : v < m) : lt (es.getD v default) (es.getD u default) = false := by
  by_cases e : u = v
  · subst e; exact h.irr _
  · exact srt_get hm hs h1 (by omega) h3
theorem seg_memD {es : List α} {i j : Nat} {x : α} (h : x ∈ seg es i j) : ∃ k, i ≤ k ∧ k < j ∧ k < es.length ∧ es.getD k default = x := by
  obtain ⟨k, h1, h2, h3⟩ := seg_mem h
  exact ⟨k, h1, h2, (List.getElem?_eq_some_iff.1 h3).1, by rw [List.getD_eq_getElem?_getD, h3]; rfl⟩
theorem seg_one {es : List α} {i : Nat} (h : i < es.length) : seg es i (i + 1) = [es.getD i default] := by
  apply List.ext_getElem?
  intro k
  by_cases hk : k = 0
  · subst hk
    rw [seg_get (by omega), Nat.add_zero, List.getD_eq_getElem?_getD, List.getElem?_eq_getElem h]; rfl
  · rw [List.getElem?_eq_none (by rw [seg_length (by omega)]; omega), List.getElem?_eq_none (by simp; omega)]
theorem seg5 {es : List α} {a b c d : Nat} (h1 : a ≤ b) (h2 : b ≤ c) (h3 : c ≤ d) (h4 : d ≤ es.length) : es = seg es 0 a ++ (seg es a b ++ (seg es b c ++ (seg es c d ++ seg es d es.length))) := by
  rw [← seg_split h3 h4 (Nat.le_refl _), ← seg_split h2 (by omega) (Nat.le_refl _), ← seg_split h1 (by omega) (Nat.le_refl _), ← seg_split (Nat.zero_le _) (by omega) (Nat.le_refl _), seg_all]
theorem mrg_left (h : Weak lt) {x : α} {B1 B2 : List α} (h1 : ∀ y, y ∈ B1 → lt y x = true) (h2 : ∀ y, y ∈ B2 → lt y x = false) : mrg lt [x] (B1 ++ B2) = B1 ++ (x :: B2) := by
  have := mrg_split lt [] B1 [x] B2 (fun y hy z hz => by rw [List.mem_singleton] at hz; subst hz; exact h1 y hy) (fun x hx => by cases hx)
  rw [List.nil_append] at this
  rw [this, mrg_nil]
  congr 1
  cases B2 with
  | nil => exact mrg_nil_r lt _
  | cons y B2 => rw [mrg_cons, h2 y List.mem_cons_self, cond_false, mrg_nil]
theorem mrg_right {y : α} {A1 A2 : List α} (h1 : ∀ x, x ∈ A1 → lt y x = false) (h2 : ∀ x, x ∈ A2 → lt y x = true) : mrg lt (A1 ++ A2) [y] = A1 ++ (y :: A2) := by
  have := mrg_split lt A1 [] A2 [y] (fun y hy => by cases hy) (fun x hx z hz => by rw [List.mem_singleton] at hz; subst hz; exact h1 x hx)
  rw [List.nil_append] at this
  rw [this, mrg_nil_r]
  congr 1
  cases A2 with
  | nil => exact mrg_nil lt _
  | cons x A2 => rw [mrg_cons, h2 x List.mem_cons_self, cond_true, mrg_nil_r]
theorem sym_left (h : Weak lt) {es : List α} {a b i : Nat} (hb : b ≤ es.length) (h1 : a + 1 ≤ i) (h2 : i ≤ b) (hs : Srt lt (seg es (a + 1) b)) (c1 : i = a + 1 ∨ lt (es.getD (i - 1) default) (es.getD a default) = true) (c2 : i = b ∨ lt (es.getD i default) (es.getD a default) = false) :
    app es (shl a (i - 1)) = symR lt es a (a + 1) b := by
  have hA : seg es a (a + 1) = [es.getD a default] := seg_one (by omega)
  have hB : seg es (a + 1) b = seg es (a + 1) i ++ seg es i b := seg_split h1 h2 hb
  unfold symR
  rw [hA, hB, mrg_left h (fun y hy => ?_) (fun y hy => ?_)]
  · rw [seg5 (es := app es (shl a (i - 1))) (a := a) (b := i - 1) (c := i) (d := b) (by omega) (by omega) h2 (by rw [app_length]; exact hb), app_length]
    have e1 := seg_app (es := es) (s := shl a (i - 1)) (i := 0) (j := a) (i' := 0) (by omega) (by omega) (fun k hk => by unfold shl; (repeat' split) <;> omega)
    have e2 := seg_app (es := es) (s := shl a (i - 1)) (i := a) (j := i - 1) (i' := a + 1) (by omega) (by omega) (fun k hk => by unfold shl; (repeat' split) <;> omega)
    have e3 := seg_app (es := es) (s := shl a (i - 1)) (i := i - 1) (j := i) (i' := a) (by omega) (by omega) (fun k hk => by unfold shl; (repeat' split) <;> omega)
    have e4 := seg_app (es := es) (s := shl a (i - 1)) (i := i) (j := b) (i' := i) (by omega) (by omega) (fun k hk => by unfold shl; (repeat' split) <;> omega)
    have e5 := seg_app (es := es) (s := shl a (i - 1)) (i := b) (j := es.length) (i' := b) (by omega) (by omega) (fun k hk => by unfold shl; (repeat' split) <;> omega)
    rw [e1, e2, e3, e4, e5, show 0 + (a - 0) = a by omega, show a + 1 + (i - 1 - a) = i by omega, show a + (i - (i - 1)) = a + 1 by omega, show i + (b - i) = b by omega, show b + (es.length - b) = es.length by omega, hA]
    simp
  · obtain ⟨v, v1, v2, v3, rfl⟩ := seg_memD hy
    rcases c1 with c1 | c1
    · omega
    · exact h.le_lt c1 (srt_le h hb hs v1 (by omega) (by omega))
  · obtain ⟨v, v1, v2, v3, rfl⟩ := seg_memD hy
    rcases c2 with c2 | c2
    · omega
    · exact h.t _ _ _ c2 (srt_le h hb hs (by omega) v1 v2)
theorem sym_right (h : Weak lt) {es : List α} {a m i : Nat} (hb : m + 1 ≤ es.length) (h1 : a ≤ i) (h2 : i ≤ m) (hs : Srt lt (seg es a m)) (c1 : i = a ∨ lt (es.getD m default) (es.getD (i - 1) default) = false) (c2 : i = m ∨ lt (es.getD m default) (es.getD i default) = true) :
    app es (shr i m) = symR lt es a m (m + 1) := by
  have hA : seg es m (m + 1) = [es.getD m default] := seg_one (by omega)
  have hB : seg es a m = seg es a i ++ seg es i m := seg_split h1 h2 (by omega)
  unfold symR
  rw [hA, hB, mrg_right (fun y hy => ?_) (fun y hy => ?_)]
  · rw [seg5 (es := app es (shr i m)) (a := a) (b := i) (c := i + 1) (d := m + 1) (by omega) (by omega) (by omega) (by rw [app_length]; exact hb), app_length]
    have e1 := seg_app (es := es) (s := shr i m) (i := 0) (j := a) (i' := 0) (by omega) (by omega) (fun k hk => by unfold shr; (repeat' split) <;> omega)
    have e2 := seg_app (es := es) (s := shr i m) (i := a) (j := i) (i' := a) (by omega) (by omega) (fun k hk => by unfold shr; (repeat' split) <;> omega)
    have e3 := seg_app (es := es) (s := shr i m) (i := i) (j := i + 1) (i' := m) (by omega) (by omega) (fun k hk => by unfold shr; (repeat' split) <;> omega)
    have e4 := seg_app (es := es) (s := shr i m) (i := i + 1) (j := m + 1) (i' := i) (by omega) (by omega) (fun k hk => by unfold shr; (repeat' split) <;> omega)
    have e5 := seg_app (es := es) (s := shr i m) (i := m + 1) (j := es.length) (i' := m + 1) (by omega) (by omega) (fun k hk => by unfold shr; (repeat' split) <;> omega)
    rw [e1, e2, e3, e4, e5, show 0 + (a - 0) = a by omega, show a + (i - a) = i by omega, show m + (i + 1 - i) = m + 1 by omega, show i + (m + 1 - (i + 1)) = m by omega, show m + 1 + (es.length - (m + 1)) = es.length by omega, hA]
    simp
  · obtain ⟨u, u1, u2, u3, rfl⟩ := seg_memD hy
    rcases c1 with c1 | c1
    · omega
    · exact h.t _ _ _ (srt_le h (by omega) hs u1 (by omega) (by omega)) c1
  · obtain ⟨u, u1, u2, u3, rfl⟩ := seg_memD hy
    rcases c2 with c2 | c2
    · omega
    · exact h.lt_le c2 (srt_le h (by omega) hs (by omega) u1 u2)
theorem symR_triv {es : List α} {a m b : Nat} (h1 : a ≤ m) (h2 : m ≤ b) (h3 : b ≤ es.length) (h : a = m ∨ m = b) : symR lt es a m b = es := by
  have e := seg5 (es := es) (a := a) (b := m) (c := b) (d := b) h1 h2 (Nat.le_refl _) h3
  rw [seg_self, List.nil_append] at e
  unfold symR
  rcases h with rfl | rfl
  · rw [seg_self, mrg_nil]; rw [seg_self] at e; exact e.symm
  · rw [seg_self, mrg_nil_r]; rw [seg_self, List.nil_append] at e; exact e.symm
theorem srt_sub {es : List α} {a b c d : Nat} (h1 : a ≤ c) (h2 : c ≤ d) (h3 : d ≤ b) (h4 : b ≤ es.length) (hs : Srt lt (seg es a b)) : Srt lt (seg es c d) := by
  rw [seg_split h1 (by omega) h4, seg_split h2 h3 h4] at hs
  unfold Srt at hs ⊢
  exact (List.pairwise_append.1 (List.pairwise_append.1 hs).2.1).1
section
variable {es : List α} {a m b s e : Nat}
theorem rot_segs (h1 : a ≤ s) (h2 : s ≤ m) (h3 : m ≤ e) (h4 : e ≤ b) (h5 : b ≤ es.length) :
    seg (app es (roS s m e)) 0 a = seg es 0 a ∧ seg (app es (roS s m e)) a s = seg es a s ∧ seg (app es (roS s m e)) s (s + (e - m)) = seg es m e ∧ seg (app es (roS s m e)) (s + (e - m)) e = seg es s m ∧ seg (app es (roS s m e)) e b = seg es e b ∧ seg (app es (roS s m e)) b es.length = seg es b es.length := by
  have e1 := seg_app (es := es) (s := roS s m e) (i := 0) (j := a) (i' := 0) (by omega) (by omega) (fun k hk => by unfold roS; (repeat' split) <;> omega)
  have e2 := seg_app (es := es) (s := roS s m e) (i := a) (j := s) (i' := a) (by omega) (by omega) (fun k hk => by unfold roS; (repeat' split) <;> omega)
  have e3 := seg_app (es := es) (s := roS s m e) (i := s) (j := s + (e - m)) (i' := m) (by omega) (by omega) (fun k hk => by unfold roS; (repeat' split) <;> omega)
  have e4 := seg_app (es := es) (s := roS s m e) (i := s + (e - m)) (j := e) (i' := s) (by omega) (by omega) (fun k hk => by unfold roS; (repeat' split) <;> omega)
  have e5 := seg_app (es := es) (s := roS s m e) (i := e) (j := b) (i' := e) (by omega) (by omega) (fun k hk => by unfold roS; (repeat' split) <;> omega)
  have e6 := seg_app (es := es) (s := roS s m e) (i := b) (j := es.length) (i' := b) (by omega) (by omega) (fun k hk => by unfold roS; (repeat' split) <;> omega)
  rw [show 0 + (a - 0) = a by omega] at e1
  rw [show a + (s - a) = s by omega] at e2
  rw [show m + (s + (e - m) - s) = e by omega] at e3
  rw [show s + (e - (s + (e - m))) = m by omega] at e4
  rw [show e + (b - e) = b by omega] at e5
  rw [show b + (es.length - b) = es.length by omega] at e6
  exact ⟨e1, e2, e3, e4, e5, e6⟩
theorem sym_main (h : Weak lt) (h1 : a ≤ s) (h2 : s ≤ m) (h3 : m ≤ e) (h4 : e ≤ b) (h5 : b ≤ es.length) (hA : Srt lt (seg es a m)) (hB : Srt lt (seg es m b))
    (c1 : s = a ∨ e = b ∨ lt (es.getD e default) (es.getD (s - 1) default) = false) (c2 : s = m ∨ e = m ∨ lt (es.getD (e - 1) default) (es.getD s default) = true) :
    symR lt (symR lt (app es (roS s m e)) a s (s + (e - m))) (s + (e - m)) e b = symR lt es a m b := by
  obtain ⟨r1, r2, r3, r4, r5, r6⟩ := rot_segs (es := es) h1 h2 h3 h4 h5
  have hcl : (app es (roS s m e)).length = es.length := app_length
  have hm1 : seg es a m = seg es a s ++ seg es s m := seg_split h1 h2 (by omega)
  have hm2 : seg es m b = seg es m e ++ seg es e b := seg_split h3 h4 h5
  have hsp : mrg lt (seg es a m) (seg es m b) = mrg lt (seg es a s) (seg es m e) ++ mrg lt (seg es s m) (seg es e b) := by
    rw [hm1, hm2]
    refine mrg_split lt _ _ _ _ (fun y hy x hx => ?_) (fun x hx y hy => ?_)
    · obtain ⟨v, v1, v2, _, rfl⟩ := seg_memD hy
      obtain ⟨u, u1, u2, _, rfl⟩ := seg_memD hx
      rcases c2 with c2 | c2 | c2
      · omega
      · omega
      · exact h.lt_le (h.le_lt c2 (srt_le h h5 hB v1 (by omega) (by omega))) (srt_le h (by omega) hA (by omega) u1 u2)
    · obtain ⟨u, u1, u2, _, rfl⟩ := seg_memD hx
      obtain ⟨v, v1, v2, _, rfl⟩ := seg_memD hy
      rcases c1 with c1 | c1 | c1
      · omega
      · omega
      · exact h.t _ _ _ (h.t _ _ _ (srt_le h (by omega) hA u1 (by omega) (by omega)) c1) (srt_le h h5 hB (by omega) v1 v2)
  have hmid : s + (e - m) ≤ e := by omega
  -- the first half merged
  have hc2 : symR lt (app es (roS s m e)) a s (s + (e - m)) = seg es 0 a ++ (mrg lt (seg es a s) (seg es m e) ++ (seg es s m ++ (seg es e b ++ seg es b es.length))) := by
    unfold symR
    rw [r1, r2, r3, hcl]
    congr 2
    rw [seg_split (es := app es (roS s m e)) (i := s + (e - m)) (m := e) (j := es.length) hmid (by omega) (by omega), seg_split (es := app es (roS s m e)) (i := e) (m := b) (j := es.length) h4 h5 (by omega), r4, r5, r6]
  have hl0 : (seg es 0 a).length = a := by rw [seg_length (by omega)]; omega
  have hl1 : (mrg lt (seg es a s) (seg es m e)).length = s - a + (e - m) := by rw [mrg_length, seg_length (by omega), seg_length (by omega)]
  have hl2 : (seg es s m).length = m - s := seg_length (by omega)
  have hl3 : (seg es e b).length = b - e := seg_length (by omega)
  have hl4 : (seg es b es.length).length = es.length - b := seg_length (by omega)
  rw [hc2]
  generalize mrg lt (seg es a s) (seg es m e) = M at hl1 hsp ⊢
  have hlen : (seg es 0 a ++ (M ++ (seg es s m ++ (seg es e b ++ seg es b es.length)))).length = es.length := by
    simp only [List.length_append, hl0, hl1, hl2, hl3, hl4]; omega
  have s1 : seg (seg es 0 a ++ (M ++ (seg es s m ++ (seg es e b ++ seg es b es.length)))) 0 (s + (e - m)) = seg es 0 a ++ M := by
    unfold seg
    rw [List.drop_zero, ← List.append_assoc]
    exact List.take_left' (by rw [List.length_append, hl1]; have := hl0; unfold seg at this; rw [this]; omega)
  have hd : ∀ X Y : List α, ∀ n k : Nat, X.length = n → seg (X ++ Y) n (n + k) = Y.take k := fun X Y n k hX => by
    unfold seg
    rw [List.drop_take, List.drop_left' hX]; congr 1; omega
  have s2 : seg (seg es 0 a ++ (M ++ (seg es s m ++ (seg es e b ++ seg es b es.length)))) (s + (e - m)) e = seg es s m := by
    have := hd (seg es 0 a ++ M) (seg es s m ++ (seg es e b ++ seg es b es.length)) (s + (e - m)) (m - s) (by rw [List.length_append, hl0, hl1]; omega)
    rw [show s + (e - m) + (m - s) = e by omega, List.append_assoc] at this
    rw [this]; exact List.take_left' hl2
  have s3 : seg (seg es 0 a ++ (M ++ (seg es s m ++ (seg es e b ++ seg es b es.length)))) e b = seg es e b := by
    have := hd (seg es 0 a ++ (M ++ seg es s m)) (seg es e b ++ seg es b es.length) e (b - e) (by rw [List.length_append, List.length_append, hl0, hl1, hl2]; omega)
    rw [show e + (b - e) = b by omega, List.append_assoc, List.append_assoc] at this
    rw [this]; exact List.take_left' hl3
  have s4 : seg (seg es 0 a ++ (M ++ (seg es s m ++ (seg es e b ++ seg es b es.length)))) b es.length = seg es b es.length := by
    have := hd (seg es 0 a ++ (M ++ (seg es s m ++ seg es e b))) (seg es b es.length) b (es.length - b) (by simp only [List.length_append, hl0, hl1, hl2, hl3]; omega)
    rw [show b + (es.length - b) = es.length by omega, List.append_assoc, List.append_assoc, List.append_assoc] at this
    rw [this]; exact List.take_of_length_le (by omega)
  unfold symR
  rw [hlen, s1, s2, s3, s4, hsp]
  simp
end
variable (lt) in
def chs (bs : Nat) (L : List α) : List α := if h : bs = 0 ∨ L.length ≤ bs then ssort lt L else ssort lt (L.take bs) ++ chs bs (L.drop bs)
termination_by L.length
decreasing_by rw [List.length_drop]; omega
theorem chs_small {bs : Nat} {L : List α} (h : L.length ≤ bs) : chs lt bs L = ssort lt L := by rw [chs, dif_pos (.inr h)]
theorem chs_take {bs : Nat} (h0 : 0 < bs) (L : List α) : chs lt bs L = ssort lt (L.take bs) ++ chs lt bs (L.drop bs) := by
  by_cases h : L.length ≤ bs
  · rw [chs_small h, List.take_of_length_le h, List.drop_eq_nil_of_le h, chs_small (Nat.zero_le _)]
    simp [ssort]
  · rw [chs, dif_neg (by omega)]
theorem chs_length {bs : Nat} (h0 : 0 < bs) : ∀ (n : Nat) (L : List α), L.length ≤ n → (chs lt bs L).length = L.length
  | 0, L, h => by rw [chs_small (by omega), ssort_length]
  | n + 1, L, h => by
    by_cases h1 : L.length ≤ bs
    · rw [chs_small h1, ssort_length]
    · rw [chs_take h0, List.length_append, ssort_length, chs_length h0 n _ (by rw [List.length_drop]; omega), List.length_take, List.length_drop]; omega
theorem chs_perm {bs : Nat} (h0 : 0 < bs) : ∀ (n : Nat) (L : List α), L.length ≤ n → (chs lt bs L).Perm L
  | 0, L, h => by rw [chs_small (by omega)]; exact ssort_perm L
  | n + 1, L, h => by
    by_cases h1 : L.length ≤ bs
    · rw [chs_small h1]; exact ssort_perm L
    · rw [chs_take h0]
      refine ((ssort_perm _).append (chs_perm h0 n _ (by rw [List.length_drop]; omega))).trans ?_
      rw [List.take_append_drop]
theorem chs_mem {bs : Nat} (h0 : 0 < bs) {L : List α} {x : α} (h : x ∈ chs lt bs L) : x ∈ L := (chs_perm h0 L.length L (Nat.le_refl _)).mem_iff.1 h
theorem chs_two {bs : Nat} (h0 : 0 < bs) (S : List α) : chs lt bs S = ssort lt (S.take bs) ++ (ssort lt ((S.drop bs).take bs) ++ chs lt bs (S.drop (bs + bs))) := by
  rw [chs_take h0, chs_take h0 (S.drop bs), List.drop_drop]
theorem seg_pre {P S : List α} {a : Nat} (h : P.length = a) : seg (P ++ S) 0 a = P := by
  unfold seg; rw [List.drop_zero]; exact List.take_left' h
theorem seg_mid {P S : List α} {a i j : Nat} (h : P.length = a) : seg (P ++ S) (a + i) (a + j) = seg S i j := by
  unfold seg
  rw [List.take_append, h, List.drop_append, List.length_take, h]
  rw [show a + j - a = j by omega, List.take_of_length_le (show P.length ≤ a + j by omega), List.drop_eq_nil_of_le (show P.length ≤ a + i by omega), List.nil_append]
  congr 1
  omega
theorem seg_end {P S : List α} {a i : Nat} (h : P.length = a) : seg (P ++ S) (a + i) (P ++ S).length = S.drop i := by
  have := seg_mid (P := P) (S := S) (i := i) (j := S.length) h
  rw [List.length_append, h, this]
  unfold seg; rw [List.take_length]
theorem sym_app {P A B C : List α} {a j k : Nat} (h : P.length = a) (hA : A.length = j) (hB : B.length = k) : symR lt (P ++ (A ++ (B ++ C))) a (a + j) (a + (j + k)) = P ++ (mrg lt A B ++ C) := by
  unfold symR
  have e1 := seg_mid (P := P) (S := A ++ (B ++ C)) (i := 0) (j := j) h
  have e2 := seg_mid (P := P) (S := A ++ (B ++ C)) (i := j) (j := j + k) h
  have e3 := seg_end (P := P) (S := A ++ (B ++ C)) (i := j + k) h
  rw [Nat.add_zero] at e1
  rw [seg_pre h, e1, e2, e3]
  have s1 : seg (A ++ (B ++ C)) 0 j = A := seg_pre hA
  have s2 : seg (A ++ (B ++ C)) j (j + k) = B := by
    have := seg_mid (P := A) (S := B ++ C) (i := 0) (j := k) hA
    rw [Nat.add_zero] at this
    rw [this]; exact seg_pre hB
  have s3 : (A ++ (B ++ C)).drop (j + k) = C := by
    rw [← List.append_assoc]; exact List.drop_left' (by rw [List.length_append, hA, hB])
  rw [s1, s2, s3]
theorem seg_A {P A B : List α} {a j : Nat} (h : P.length = a) (hA : A.length = j) : seg (P ++ (A ++ B)) a (a + j) = A := by
  have e1 := seg_mid (P := P) (S := A ++ B) (i := 0) (j := j) h
  rw [Nat.add_zero] at e1
  rw [e1]; exact seg_pre hA
theorem seg_B {P A B C : List α} {a j k : Nat} (h : P.length = a) (hA : A.length = j) (hB : B.length = k) : seg (P ++ (A ++ (B ++ C))) (a + j) (a + (j + k)) = B := by
  rw [seg_mid h]
  have := seg_mid (P := A) (S := B ++ C) (i := 0) (j := k) hA
  rw [Nat.add_zero] at this
  rw [this]; exact seg_pre hB
end
end Go.AM
