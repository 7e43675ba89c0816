/-
  A part of a proof: see the last text of this claim for what is proved.
-/
import Derived.Test.YtolbfgiflhpjpaaDoorR6s
namespace Go.AM
open Go Go.Proofs
set_option maxRecDepth 100000
set_option linter.unusedSimpArgs false
set_option linter.unusedVariables false
/-! ### What was received under a code: the plain law -/
theorem S1_und : ∀ s, s ∈ S1 → undF s [57] = false := by decide +kernel
theorem N9_und9 : ∀ c, c ∈ N9 → undC c [57] = true := by decide +kernel
/-- Is a code one below 9? -/
def below9 (s : List UInt8) : Bool := s.getD 0 0 == 57 && decide (1 < s.length)
theorem S1_below : ∀ s, s ∈ S1 → below9 s = false := by decide +kernel
theorem N9_below : ∀ s, s ∈ N9 → ∀ c, c ∈ N9 → (below9 s && undC c s) = (s == c && !(c == [57])) := by decide +kernel
theorem codes_ne : ∀ s, s ∈ S1 ++ N9 → 0 < s.length := by decide +kernel
theorem codes_small : ∀ s, s ∈ S1 ++ N9 → s.length ≤ 10 := by decide +kernel
theorem sumL_count (c : List UInt8) (v : Int) : ∀ L : List (List UInt8), sumL (L.map fun s => bif s == c then v else 0) = (L.count c : Int) * v
  | [] => by simp [sumL]
  | s :: r => by
    have h := sumL_count c v r
    simp only [List.map_cons, sumL, h]
    by_cases e : s = c
    · subst e
      simp only [beq_self_eq_true, cond_true, List.count_cons_self]
      rw [Int.natCast_add, Int.add_mul]; omega
    · have e' : (s == c) = false := by simpa using e
      rw [e', cond_false, List.count_cons_of_ne e]; omega
theorem sumL_add (f g : PV → Int) : ∀ L : List PV, sumL (L.map fun x => f x + g x) = sumL (L.map f) + sumL (L.map g)
  | [] => by simp [sumL]
  | x :: r => by
    have h := sumL_add f g r
    simp only [List.map_cons, sumL, h]; omega
theorem sumL_congr {f g : PV → Int} : ∀ {L : List PV}, (∀ x, x ∈ L → f x = g x) → sumL (L.map f) = sumL (L.map g)
  | [], _ => rfl
  | x :: r, h => by
    simp only [List.map_cons, sumL, h x List.mem_cons_self, sumL_congr (L := r) (fun y hy => h y (List.mem_cons_of_mem _ hy))]
theorem sumL_zero : ∀ {L : List PV}, sumL (L.map fun _ => 0) = 0
  | [] => rfl
  | _ :: r => by simp only [List.map_cons, sumL, sumL_zero (L := r)]; omega
theorem recF_all {rs : List PV} (h : rs.length ≤ 1000) (src : List UInt8) (y d : Int) : recF rs src y d = sumL (rs.map (cntR src y d)) := by
  unfold recF
  rw [List.take_of_length_le h]
def amOf : PV → Int
  | .agg [_, _, _, .int _ a] => a
  | _ => 0
def coOf : PV → List UInt8
  | .agg [_, _, .str c, _] => c
  | _ => []
/-- What a heading adds. -/
def hF (rs : List PV) (y d : Int) (h : PV) : Int := bif below9 (hCode h) then recF rs (hCode h) y d else 0
def ownR (b : Int) (x : PV) : Int := bif coOf x == [57] && decide (dayOf x ≤ b) then amOf x else 0
def btwR (a b : Int) (x : PV) : Int := bif decide (a < dayOf x) && decide (dayOf x ≤ b) then amOf x else 0
/-- A good receipt of one of the codes at 9 of a tree. -/
def goodR (tree : List PV) (first : Int) (x : PV) : Prop := ∃ n d c a, x = recV n d c a ∧ c ∈ N9 ∧ c ∈ tree.map hCode ∧ 360 * first ≤ d ∧ -500 ≤ a ∧ a ≤ 2000
theorem goodR.of {tree : List PV} {first : Int} {x : PV} (ht : codes9 (tree.map hCode)) (h : recQ (leavesF tree [57]) first x) : goodR tree first x := by
  obtain ⟨n, d, c, a, rfl, _, hm, ⟨hd, _⟩, ha1, ha2, _⟩ := h
  unfold leavesF at hm
  simp only [List.mem_map, List.mem_filter] at hm
  obtain ⟨e, ⟨he, hl⟩, hc⟩ := hm
  injection hc with hc
  have hcm : c ∈ tree.map hCode := by rw [← hc]; exact List.mem_map.2 ⟨e, he, rfl⟩
  refine ⟨n, d, c, a, rfl, ?_, hcm, hd, ha1, ha2⟩
  rcases ht.1 c hcm with h1 | h1
  · exfalso
    unfold leafF at hl
    simp only [Bool.and_eq_true, Bool.or_eq_true] at hl
    have h2 := hl.1.2
    rw [hc, S1_und c h1] at h2
    simp at h2
  · exact h1
theorem cnt_good {first b n d a : Int} {c src : List UInt8} (hf : 0 ≤ first ∧ first ≤ 12) (hb : b ≤ 360 * first + 359) (hd : 360 * first ≤ d) (ha : -500 ≤ a ∧ a ≤ 2000) :
    cntR src first b (recV n d c a) = bif decide (d ≤ b) && undC c src then a else 0 := by
  unfold recV cntR
  by_cases h : d ≤ b
  · have h1 : vld d = true := by unfold vld; simp; omega
    have h2 : yrOf d = first := by unfold yrOf; rw [h1, cond_true]; omega
    have h3 : amt a = true := by unfold amt; simp; omega
    simp only [h, h1, h2, h3, decide_true, Bool.and_self, beq_self_eq_true, Bool.true_and]
    cases undC c src <;> rfl
  · simp [h]
theorem one_good {tree : List PV} {first b : Int} (ht : codes9 (tree.map hCode)) (hf : 0 ≤ first ∧ first ≤ 12) (hb : b ≤ 360 * first + 359) {x : PV} (hx : goodR tree first x) :
    sumL (tree.map fun h => bif below9 (hCode h) then cntR (hCode h) first b x else 0) + ownR b x = cntR [57] first b x := by
  obtain ⟨n, d, c, a, rfl, hc, hm, hd, ha1, ha2⟩ := hx
  rw [cnt_good hf hb hd ⟨ha1, ha2⟩, N9_und9 c hc, Bool.and_true]
  have e1 : (tree.map fun h => bif below9 (hCode h) then cntR (hCode h) first b (recV n d c a) else 0) = (tree.map hCode).map fun s => bif s == c then (bif !(c == [57]) && decide (d ≤ b) then a else 0) else 0 := by
    rw [List.map_map]
    apply List.map_congr_left
    intro h hh
    have hcm : hCode h ∈ tree.map hCode := List.mem_map.2 ⟨h, hh, rfl⟩
    simp only [Function.comp_def]
    rw [cnt_good hf hb hd ⟨ha1, ha2⟩]
    rcases ht.1 _ hcm with h1 | h1
    · rw [S1_below _ h1]
      have : (hCode h == c) = false := by
        simp only [beq_eq_false_iff_ne]
        intro e
        rw [e] at h1
        exact N9_S1 c hc h1
      rw [this]; rfl
    · have h2 := N9_below _ h1 c hc
      cases g1 : below9 (hCode h) <;> cases g2 : undC c (hCode h) <;> cases g3 : (hCode h == c) <;> cases g4 : (c == [57]) <;> cases g5 : decide (d ≤ b) <;> rw [g1, g2, g3, g4] at h2 <;> first | rfl | exact absurd h2 (by decide)
  rw [e1, sumL_count]
  have h1 : (tree.map hCode).count c = 1 := by
    have h2 := ht.2 c hc
    have h3 := List.count_pos_iff.2 hm
    omega
  rw [h1]
  show (1 : Int) * (bif !(c == [57]) && decide (d ≤ b) then a else 0) + (bif c == [57] && decide (d ≤ b) then a else 0) = _
  cases (c == [57]) <;> cases decide (d ≤ b) <;> simp
theorem law_sum {tree : List PV} {first b : Int} (ht : codes9 (tree.map hCode)) (hf : 0 ≤ first ∧ first ≤ 12) (hb : b ≤ 360 * first + 359) : ∀ {rs : List PV}, rs.length ≤ 1000 → (∀ x, x ∈ rs → goodR tree first x) →
    sumL (tree.map (hF rs first b)) + sumL (rs.map (ownR b)) = recF rs [57] first b
  | [], _, _ => by
    have : sumL (tree.map (hF [] first b)) = sumL (tree.map fun _ => (0 : Int)) := sumL_congr fun h _ => by unfold hF; rw [recF_all (by simp)]; cases below9 (hCode h) <;> rfl
    rw [this, sumL_zero, recF_all (by simp)]; rfl
  | x :: r, hl, h => by
    have hr : r.length ≤ 1000 := by simp only [List.length_cons] at hl; omega
    have ih := law_sum (rs := r) ht hf hb hr (fun y hy => h y (List.mem_cons_of_mem _ hy))
    have h1 := one_good ht hf hb (h x List.mem_cons_self)
    have e : sumL (tree.map (hF (x :: r) first b)) = sumL (tree.map fun h => (bif below9 (hCode h) then cntR (hCode h) first b x else 0) + hF r first b h) := sumL_congr fun h _ => by
      unfold hF
      rw [recF_all hl, recF_all hr]
      cases below9 (hCode h) <;> simp [sumL]
    rw [e, sumL_add, recF_all hl]
    rw [recF_all hr] at ih
    simp only [List.map_cons, sumL] at ih ⊢
    omega
theorem law_between {tree : List PV} {first a b : Int} (hf : 0 ≤ first ∧ first ≤ 12) (ha : a ≤ b) (hb : b ≤ 360 * first + 359) : ∀ {rs : List PV}, rs.length ≤ 1000 → (∀ x, x ∈ rs → goodR tree first x) →
    recF rs [57] first b - recF rs [57] first a = sumL (rs.map (btwR a b))
  | [], _, _ => by rw [recF_all (by simp), recF_all (by simp)]; rfl
  | x :: r, hl, h => by
    have hr : r.length ≤ 1000 := by simp only [List.length_cons] at hl; omega
    have ih := law_between (rs := r) hf ha hb hr (fun y hy => h y (List.mem_cons_of_mem _ hy))
    obtain ⟨n, d, c, am, rfl, hc, hm, hd, ha1, ha2⟩ := h x List.mem_cons_self
    rw [recF_all hl, recF_all hl]
    rw [recF_all hr, recF_all hr] at ih
    simp only [List.map_cons, sumL]
    rw [cnt_good hf hb hd ⟨ha1, ha2⟩, cnt_good hf (by omega) hd ⟨ha1, ha2⟩, N9_und9 c hc, Bool.and_true, Bool.and_true]
    have e : btwR a b (recV n d c am) = bif decide (a < d) && decide (d ≤ b) then am else 0 := rfl
    rw [e]
    by_cases h1 : d ≤ a
    · have h2 : d ≤ b := by omega
      have h3 : ¬ a < d := by omega
      simp only [h1, h2, h3, decide_true, decide_false, Bool.false_and, cond_true, cond_false]; omega
    · have h3 : a < d := by omega
      by_cases h2 : d ≤ b
      · simp only [h1, h2, h3, decide_true, decide_false, Bool.true_and, cond_true, cond_false]; omega
      · simp only [h1, h2, h3, decide_true, decide_false, Bool.true_and, cond_true, cond_false]; omega
theorem law_later {tree : List PV} {first b : Int} (hf : 0 ≤ first ∧ first ≤ 12) (hb : b ≤ 360 * first + 359) : ∀ {rs : List PV}, rs.length ≤ 1000 → (∀ x, x ∈ rs → goodR tree first x) →
    recF rs [57] (first + 5) b = 0
  | [], _, _ => by rw [recF_all (by simp)]; rfl
  | x :: r, hl, h => by
    have hr : r.length ≤ 1000 := by simp only [List.length_cons] at hl; omega
    have ih := law_later (rs := r) hf hb hr (fun y hy => h y (List.mem_cons_of_mem _ hy))
    obtain ⟨n, d, c, am, rfl, hc, hm, hd, ha1, ha2⟩ := h x List.mem_cons_self
    rw [recF_all hl]
    rw [recF_all hr] at ih
    simp only [List.map_cons, sumL, ih]
    have : cntR [57] (first + 5) b (recV n d c am) = 0 := by
      unfold recV cntR
      simp only
      rw [if_neg]
      simp only [Bool.and_eq_true, decide_eq_true_eq, beq_iff_eq]
      rintro ⟨⟨⟨⟨h1, h2⟩, h3⟩, _⟩, _⟩
      unfold yrOf at h3
      rw [h1, cond_true] at h3
      omega
    omega
end Go.AM
