/-
  A part of a proof: see the last text of this claim for what is proved.
-/
import Derived.Test.YtjmpagdlnmdieaaDoorR3h
namespace Go.AM
open Go Go.Proofs Go.IntWalk
set_option maxRecDepth 100000
set_option maxHeartbeats 4000000
set_option linter.unusedSimpArgs false
set_option linter.unusedVariables false
/-! ### The plain law of the sums -/
def lnQ (L : List (List UInt8)) (e : PV) : Prop := ∃ c y a, e = lnV c y a ∧ c ∈ L ∧ (5 ≤ y ∧ y ≤ 7) ∧ (0 ≤ a ∧ a ≤ 99999)
def vlF (c : List UInt8) (yr : Int) (e : PV) : Int := if pkF c yr e = true then amF e else 0
def smL (l : List PV) (c : List UInt8) (yr : Int) : Int := sumL (l.map (vlF c yr))
def owF (c : List UInt8) : PV → Int
  | .agg [.str d, .int _ y, .int _ a] => if (d == c && y == 5) = true then a else 0
  | _ => 0
theorem sumL_filter (p : PV → Bool) (f : PV → Int) : ∀ l : List PV, sumL ((l.filter p).map f) = sumL (l.map (fun e => if p e = true then f e else 0))
  | [] => rfl
  | e :: r => by
    have ih := sumL_filter p f r
    rw [List.filter_cons, List.map_cons, sumL]
    by_cases h : p e = true
    · rw [if_pos h, if_pos h, List.map_cons, sumL, ih]
    · rw [if_neg h, if_neg h, ih]; omega
theorem msF_ok : ∀ (xs : List Int) (acc : Int), (∀ x, x ∈ xs → 0 ≤ x ∧ x ≤ 99999) → 0 ≤ acc → acc + 100000 * (xs.length : Int) ≤ 1000000000000000 → msF xs acc = (acc + sumL xs, 0)
  | [], acc, _, _, _ => by simp [msF, sumL]
  | x :: r, acc, h, h0, h1 => by
    have hx := h x List.mem_cons_self
    simp only [List.length_cons] at h1
    have e1 : IntKind.i64.wrap (acc + x) = acc + x := i64_in _ (by omega)
    have e2 : totB x = true := by simp [totB]; omega
    have e3 : totB (acc + x) = true := by simp [totB]; omega
    rw [msF, e1, e2, e3, msF_ok r (acc + x) (fun y hy => h y (List.mem_cons_of_mem _ hy)) (by omega) (by omega)]
    simp [sumL]; omega
theorem vl_le {L : List (List UInt8)} {e : PV} (h : lnQ L e) (c : List UInt8) (yr : Int) : 0 ≤ vlF c yr e ∧ vlF c yr e ≤ 99999 := by
  obtain ⟨d, y, a, rfl, _, _, h1, h2⟩ := h
  unfold vlF
  split
  · exact ⟨h1, h2⟩
  · omega
theorem smL_le {L : List (List UInt8)} (c : List UInt8) (yr : Int) : ∀ {l : List PV}, (∀ e, e ∈ l → lnQ L e) → 0 ≤ smL l c yr ∧ smL l c yr ≤ 99999 * (l.length : Int)
  | [], _ => by simp [smL, sumL]
  | e :: r, h => by
    have h1 := vl_le (h e List.mem_cons_self) c yr
    have h2 := smL_le c yr (l := r) (fun x hx => h x (List.mem_cons_of_mem _ hx))
    unfold smL at h2 ⊢
    rw [List.map_cons, sumL, List.length_cons]
    omega
theorem smF_ok {L : List (List UInt8)} {l : List PV} (h : ∀ e, e ∈ l → lnQ L e) (hn : l.length ≤ 20) (c : List UInt8) (yr : Int) : smF l c yr = (smL l c yr, 0) := by
  have k1 : ∀ x, x ∈ (l.filter (pkF c yr)).map amF → 0 ≤ x ∧ x ≤ 99999 := by
    intro x hx
    obtain ⟨e, he, rfl⟩ := List.mem_map.1 hx
    obtain ⟨d, y, a, rfl, _, _, h1, h2⟩ := h e (List.mem_filter.1 he).1
    exact ⟨h1, h2⟩
  have k2 : ((l.filter (pkF c yr)).map amF).length ≤ 20 := by rw [List.length_map]; exact Nat.le_trans (List.length_filter_le _ _) hn
  unfold smF
  rw [msF_ok _ 0 k1 (by omega) (by omega), sumL_filter, Int.zero_add]; rfl
def kidN (y c : List UInt8) : Nat := (SX.filter (fun x => parF x == c)).countP (fun x => undC y x)
theorem SX_kid : ∀ y, y ∈ SX → ∀ c, c ∈ SX → (if undC y c = true then 1 else 0) = (if y = c then 1 else 0) + kidN y c := by decide +kernel
theorem ch_kid {L : List (List UInt8)} (h : treeC L) {y : List UInt8} (hy : y ∈ L) (c : List UInt8) : (chC L c).countP (fun x => undC y x) = kidN y c := by
  rw [ch_eq h, List.countP_filter]
  unfold kidN
  apply List.countP_congr
  intro x hx
  simp only [Bool.and_eq_true]
  refine ⟨fun g => g.1, fun g => ⟨g, ?_⟩⟩
  rw [List.contains_iff_mem]
  exact up_mem h _ y x (Nat.le_refl _) hy (List.mem_filter.1 hx).1 g
theorem sum_count (p : List UInt8 → Bool) (a : Int) : ∀ C : List (List UInt8), sumL (C.map (fun x => if p x = true then a else 0)) = a * (C.countP p : Int)
  | [] => by simp [sumL]
  | c :: r => by
    have ih := sum_count p a r
    rw [List.map_cons, sumL, ih, List.countP_cons]
    by_cases h : p c = true
    · rw [if_pos h, if_pos h, Int.natCast_add, Int.mul_add]; omega
    · rw [if_neg h, if_neg h, Nat.add_zero]; omega
theorem vl_kids {L : List (List UInt8)} (h : treeC L) {c : List UInt8} (hc : c ∈ L) {e : PV} (he : lnQ L e) : vlF c 5 e = owF c e + sumL ((chC L c).map (fun x => vlF x 5 e)) := by
  obtain ⟨d, y, a, rfl, hd, _, _⟩ := he
  have hne := SX_ne c (h.sx hc)
  have hk := SX_kid d (h.sx hd) c (h.sx hc)
  have hck := ch_kid h hd c
  have hv : ∀ x, x ≠ [] → vlF x 5 (lnV d y a) = if undC d x = true then (if y = 5 then a else 0) else 0 := by
    intro x hx
    have e0 : (x == []) = false := by simpa using hx
    have e1 : ((5 : Int) == -1) = false := rfl
    unfold vlF lnV pkF amF
    simp only [e0, e1, Bool.false_or]
    by_cases h1 : y = 5
    · subst h1; simp
    · have : (y == 5) = false := by simpa using h1
      simp [this, h1]
  have hm : (chC L c).map (fun x => vlF x 5 (lnV d y a)) = (chC L c).map (fun x => if undC d x = true then (if y = 5 then a else 0) else 0) := by
    apply List.map_congr_left
    intro x hx
    exact hv x (SX_ne x (h.sx (List.mem_filter.1 hx).1))
  have ho : owF c (lnV d y a) = if d = c then (if y = 5 then a else 0) else 0 := by
    unfold owF lnV
    by_cases h1 : d = c
    · by_cases h2 : y = 5
      · simp [h1, h2]
      · have : (y == 5) = false := by simpa using h2
        simp [h2, this]
    · have : (d == c) = false := by simpa using h1
      simp [h1, this]
  rw [hv c hne, hm, sum_count, hck, ho]
  generalize (if y = 5 then a else 0) = b
  by_cases h1 : undC d c = true
  · rw [if_pos h1] at hk ⊢
    by_cases h2 : d = c
    · rw [if_pos h2] at hk ⊢
      rw [show kidN d c = 0 by omega]; simp
    · rw [if_neg h2] at hk ⊢
      rw [show kidN d c = 1 by omega]; simp
  · rw [if_neg h1] at hk ⊢
    rw [show kidN d c = 0 by omega]
    by_cases h2 : d = c
    · rw [if_pos h2] at hk; omega
    · rw [if_neg h2]; simp
theorem sum_swap (g : List UInt8 → PV → Int) (C : List (List UInt8)) : ∀ l : List PV, sumL (l.map (fun e => sumL (C.map (fun x => g x e)))) = sumL (C.map (fun x => sumL (l.map (g x))))
  | [] => by
    have : ∀ C : List (List UInt8), sumL (C.map (fun x => sumL (([] : List PV).map (g x)))) = 0 := by
      intro C
      induction C with
      | nil => rfl
      | cons c r ih => rw [List.map_cons, sumL, ih]; simp [sumL]
    rw [this]; rfl
  | e :: r => by
    have ih := sum_swap g C r
    rw [List.map_cons, sumL, ih]
    clear ih
    induction C with
    | nil => rfl
    | cons c C ih => simp only [List.map_cons, sumL] at ih ⊢; omega
theorem sumL_add (f g : PV → Int) : ∀ l : List PV, sumL (l.map (fun e => f e + g e)) = sumL (l.map f) + sumL (l.map g)
  | [] => rfl
  | e :: r => by simp only [List.map_cons, sumL, sumL_add f g r]; omega
theorem law_kids {L : List (List UInt8)} (h : treeC L) {c : List UInt8} (hc : c ∈ L) {l : List PV} (hl : ∀ e, e ∈ l → lnQ L e) : smL l c 5 = sumL (l.map (owF c)) + sumL ((chC L c).map (fun x => smL l x 5)) := by
  unfold smL
  rw [List.map_congr_left (g := fun e => owF c e + sumL ((chC L c).map (fun x => vlF x 5 e))) (fun e he => vl_kids h hc (hl e he)), sumL_add, sum_swap (fun x e => vlF x 5 e)]
/-- The years' sums together. -/
def yrS (l : List PV) (c : List UInt8) : Nat → Int
  | 0 => 0
  | k + 1 => yrS l c k + smL l c (5 + (k : Int))
theorem law_years {L : List (List UInt8)} {c : List UInt8} {l : List PV} (hl : ∀ e, e ∈ l → lnQ L e) : smL l c (-1) = yrS l c 3 := by
  have hv : ∀ e, lnQ L e → vlF c (-1) e = vlF c 5 e + (vlF c 6 e + vlF c 7 e) := by
    rintro e ⟨d, y, a, rfl, _, ⟨h1, h2⟩, _⟩
    have : y = 5 ∨ y = 6 ∨ y = 7 := by omega
    unfold vlF lnV pkF amF
    rcases this with rfl | rfl | rfl <;> cases (c == [] || undC d c) <;> simp
  show _ = 0 + smL l c 5 + smL l c 6 + smL l c 7
  unfold smL
  rw [List.map_congr_left (g := fun e => vlF c 5 e + (vlF c 6 e + vlF c 7 e)) (fun e he => hv e (hl e he)), sumL_add, sumL_add (vlF c 6)]
  omega
theorem yrS_le {L : List (List UInt8)} {c : List UInt8} {l : List PV} (hl : ∀ e, e ∈ l → lnQ L e) (hn : l.length ≤ 20) : ∀ k, 0 ≤ yrS l c k ∧ yrS l c k ≤ 2000000 * (k : Int)
  | 0 => by simp [yrS]
  | k + 1 => by
    have h1 := yrS_le (c := c) hl hn k
    have h2 := smL_le c (5 + (k : Int)) hl
    rw [yrS]
    omega
theorem own_le {L : List (List UInt8)} (c : List UInt8) : ∀ {l : List PV}, (∀ e, e ∈ l → lnQ L e) → 0 ≤ sumL (l.map (owF c)) ∧ sumL (l.map (owF c)) ≤ 99999 * (l.length : Int)
  | [], _ => by simp [sumL]
  | e :: r, h => by
    have h2 := own_le c (l := r) (fun x hx => h x (List.mem_cons_of_mem _ hx))
    obtain ⟨d, y, a, rfl, _, _, h3, h4⟩ := h e List.mem_cons_self
    rw [List.map_cons, sumL, List.length_cons]
    have : 0 ≤ owF c (lnV d y a) ∧ owF c (lnV d y a) ≤ 99999 := by
      unfold owF lnV
      simp only
      split <;> omega
    omega
theorem kids_le {L : List (List UInt8)} {l : List PV} (hl : ∀ e, e ∈ l → lnQ L e) (hn : l.length ≤ 20) : ∀ C : List (List UInt8), 0 ≤ sumL (C.map (fun x => smL l x 5)) ∧ sumL (C.map (fun x => smL l x 5)) ≤ 2000000 * (C.length : Int)
  | [] => by simp [sumL]
  | c :: r => by
    have h1 := kids_le hl hn r
    have h2 := smL_le c 5 hl
    rw [List.map_cons, sumL, List.length_cons]
    omega
end Go.AM
