/-
  A part of a proof: see the last text of this claim for what is proved.
-/
import Derived.Test.YtdfnogmpijdpbaaGreatDoorC6c
/-! lines of the next year: plain laws -/
namespace Go.AM
open Go Go.Proofs Go.IntWalk
set_option maxRecDepth 100000
set_option maxHeartbeats 1000000
set_option linter.unusedSimpArgs false
set_option linter.unusedVariables false
noncomputable def U14 (g : FuncId) : PSpec := (putΦ U13 10 rCmpS) g
theorem hU14 : TabSound GG U14 := (hU13.put w_rCmpS)
def sumA : List Opn → Int
  | [] => 0
  | x :: r => x.a + sumA r
def sumCy : List Cyl → Int
  | [] => 0
  | x :: r => x.a + sumCy r
theorem sumA_append : ∀ a b : List Opn, sumA (a ++ b) = sumA a + sumA b
  | [], b => by simp [sumA]
  | x :: r, b => by simp only [List.cons_append, sumA, sumA_append r b]; omega
theorem sumCy_append : ∀ a b : List Cyl, sumCy (a ++ b) = sumCy a + sumCy b
  | [], b => by simp [sumCy]
  | x :: r, b => by simp only [List.cons_append, sumCy, sumCy_append r b]; omega
theorem sumCy_reverse : ∀ a : List Cyl, sumCy a.reverse = sumCy a
  | [] => rfl
  | x :: r => by rw [List.reverse_cons, sumCy_append, sumCy_reverse r]; simp only [sumCy]; omega
theorem sumA_perm {a b : List Opn} (h : a.Perm b) : sumA a = sumA b := by
  induction h with
  | nil => rfl
  | cons x _ ih => simp only [sumA, ih]
  | swap x y l => simp only [sumA]; omega
  | trans _ _ h1 h2 => exact h1.trans h2
theorem sumA_four : ∀ {l : List Opn}, (∀ x, x ∈ l → x.k ∈ four) → sumA l = sumK k11 l + sumK k12 l + (sumK k29 l + sumK k210 l)
  | [], _ => rfl
  | x :: r, h => by
    have ih := sumA_four (l := r) (fun y hy => h y (List.mem_cons_of_mem _ hy))
    have hx := h x List.mem_cons_self
    simp only [four, List.mem_cons, List.not_mem_nil, or_false] at hx
    have d1 : k11 ≠ k12 := by decide
    have d2 : k11 ≠ k29 := by decide
    have d3 : k11 ≠ k210 := by decide
    have d4 : k12 ≠ k29 := by decide
    have d5 : k12 ≠ k210 := by decide
    have d6 : k29 ≠ k210 := by decide
    simp only [sumA, sumK, ih]
    rcases hx with hx | hx | hx | hx <;> simp [hx, d1, d2, d3, d4, d5, d6, d1.symm, d2.symm, d3.symm, d4.symm, d5.symm, d6.symm] <;> omega
theorem sumK_0 {c : List UInt8} : ∀ {s : List Opn}, (∀ z, z ∈ s → z.k ≠ c) → sumK c s = 0
  | [], _ => rfl
  | x :: r, h => by simp only [sumK, h x List.mem_cons_self, if_false, sumK_0 (fun z hz => h z (List.mem_cons_of_mem _ hz))]; rfl
def numR : List Cyl → Prop
  | [] => True
  | c :: r => c.n = (r.length : Int) + 1 ∧ numR r
structure LInv (y : Int) (s : List Opn) (rp : List Cyl) : Prop where
  keys : ∀ c, c ∈ rp → c.k ∈ four ∧ c.y = y ∧ c.d = 360 * y ∧ c.a = sumK c.k s
  desc : rp.Pairwise (fun a b => rk b.k < rk a.k)
  nums : numR rp
  top : ∀ z, z ∈ s → ∃ c r, rp = c :: r ∧ rk z.k ≤ rk c.k
  src : ∀ c, c ∈ rp → ∃ z, z ∈ s ∧ z.k = c.k
  tot : sumCy rp = sumA s
theorem LInv.step {y : Int} {s : List Opn} {rp : List Cyl} (h : LInv y s rp) {x : Opn} (hx : x.k ∈ four) (hs : ∀ z, z ∈ s → rk z.k ≤ rk x.k) : LInv y (s ++ [x]) (lstep y rp x) := by
  have e0 : ∀ c, sumK c (s ++ [x]) = sumK c s + if x.k = c then x.a else 0 := fun c => by rw [sumK_append]; simp [sumK]
  have e1 : sumA (s ++ [x]) = sumA s + x.a := by rw [sumA_append]; simp [sumA]
  cases rp with
  | nil =>
    have hsn : s = [] := by
      cases s with
      | nil => rfl
      | cons z r => obtain ⟨c, r', hc, _⟩ := h.top z List.mem_cons_self; cases hc
    subst hsn
    refine ⟨fun c hc => ?_, by simp [lstep], ⟨by simp, trivial⟩, fun z hz => ⟨_, _, rfl, ?_⟩, fun c hc => ⟨x, by simp, ?_⟩, by simp [lstep, sumCy, sumA]⟩
    · simp only [lstep, List.mem_singleton] at hc
      subst hc
      exact ⟨hx, rfl, rfl, by simp [sumK]⟩
    · simp only [List.nil_append, List.mem_singleton] at hz; subst hz; exact Int.le_refl _
    · simp only [lstep, List.mem_singleton] at hc; subst hc; rfl
  | cons c r =>
    have hc := h.keys c List.mem_cons_self
    have hp := List.pairwise_cons.1 h.desc
    by_cases e : c.k = x.k
    · have hl : lstep y (c :: r) x = { c with a := c.a + x.a } :: r := by simp only [lstep, if_pos e]
      rw [hl]
      refine ⟨fun d hd => ?_, ?_, ?_, fun z hz => ⟨_, _, rfl, ?_⟩, fun d hd => ?_, ?_⟩
      · rcases List.mem_cons.1 hd with rfl | hd
        · refine ⟨hc.1, hc.2.1, hc.2.2.1, ?_⟩
          simp only; rw [e0, if_pos e.symm, hc.2.2.2]
        · have h1 := h.keys d (List.mem_cons_of_mem _ hd)
          refine ⟨h1.1, h1.2.1, h1.2.2.1, ?_⟩
          have : ¬ x.k = d.k := fun h9 => by have := hp.1 d hd; rw [e, h9] at this; omega
          rw [e0, if_neg this, h1.2.2.2]; omega
      · exact List.pairwise_cons.2 ⟨fun d hd => hp.1 d hd, hp.2⟩
      · exact h.nums
      · rcases List.mem_append.1 hz with hz | hz
        · have := hs z hz; simp only [e]; exact this
        · simp only [List.mem_singleton] at hz; subst hz; simp only [e]; exact Int.le_refl _
      · rcases List.mem_cons.1 hd with rfl | hd
        · exact ⟨x, by simp, e.symm⟩
        · obtain ⟨z, h1, h2⟩ := h.src d (List.mem_cons_of_mem _ hd)
          exact ⟨z, List.mem_append.2 (.inl h1), h2⟩
      · have := h.tot
        rw [e1]; simp only [sumCy] at this ⊢; omega
    · have hl : lstep y (c :: r) x = ⟨(r.length : Int) + 1 + 1, 360 * y, x.k, y, x.a⟩ :: c :: r := by simp only [lstep, if_neg e]
      rw [hl]
      have hlt : rk c.k < rk x.k := by
        obtain ⟨z, h1, h2⟩ := h.src c List.mem_cons_self
        have := hs z h1
        rw [h2] at this
        rcases Int.lt_or_eq_of_le this with h3 | h3
        · exact h3
        · exact absurd ((four_cmp _ hc.1 _ hx).2 h3) e
      have hall : ∀ d, d ∈ c :: r → rk d.k < rk x.k := fun d hd => by
        rcases List.mem_cons.1 hd with rfl | hd
        · exact hlt
        · have := hp.1 d hd; omega
      have h0 : sumK x.k s = 0 := sumK_0 (fun z hz h9 => by
        obtain ⟨c', r', h1, h2⟩ := h.top z hz
        cases h1
        rw [h9] at h2; omega)
      refine ⟨fun d hd => ?_, List.pairwise_cons.2 ⟨fun d hd => hall d hd, h.desc⟩, ⟨by simp, h.nums⟩, fun z hz => ⟨_, _, rfl, ?_⟩, fun d hd => ?_, ?_⟩
      · rcases List.mem_cons.1 hd with rfl | hd
        · refine ⟨hx, rfl, rfl, ?_⟩
          simp only; rw [e0, if_pos rfl, h0]; omega
        · have h1 := h.keys d hd
          refine ⟨h1.1, h1.2.1, h1.2.2.1, ?_⟩
          have : ¬ x.k = d.k := fun h9 => by have := hall d hd; rw [h9] at this; omega
          rw [e0, if_neg this, h1.2.2.2]; omega
      · rcases List.mem_append.1 hz with hz | hz
        · exact hs z hz
        · simp only [List.mem_singleton] at hz; subst hz; exact Int.le_refl _
      · rcases List.mem_cons.1 hd with rfl | hd
        · exact ⟨x, by simp, rfl⟩
        · obtain ⟨z, h1, h2⟩ := h.src d hd
          exact ⟨z, List.mem_append.2 (.inl h1), h2⟩
      · have := h.tot
        rw [e1]; simp only [sumCy] at this ⊢; omega
theorem LInv.run {y : Int} : ∀ {r s : List Opn} {rp : List Cyl}, LInv y s rp → (∀ x, x ∈ r → x.k ∈ four) → (s ++ r).Pairwise (fun a b => rk a.k ≤ rk b.k) → LInv y (s ++ r) (r.foldl (lstep y) rp)
  | [], s, rp, h, _, _ => by rw [List.append_nil]; exact h
  | x :: r, s, rp, h, hf, hp => by
    have hsx : ∀ z, z ∈ s → rk z.k ≤ rk x.k := fun z hz => (List.pairwise_append.1 hp).2.2 z hz x List.mem_cons_self
    have h2 := h.step (hf x List.mem_cons_self) hsx
    have e : s ++ x :: r = (s ++ [x]) ++ r := by simp
    rw [e] at hp ⊢
    exact LInv.run h2 (fun z hz => hf z (List.mem_cons_of_mem _ hz)) hp
theorem linR_inv (y : Int) {ca : List Opn} (hf : ∀ x, x ∈ ca → x.k ∈ four) : LInv y (isort ltK2 ca) (linR y ca) := by
  have hK : ∀ a b : Opn, a.k ∈ four → b.k ∈ four → (ltK2 a b = true ↔ rk a.k < rk b.k) := fun a b ha hb => by
    unfold ltK2
    rw [(four_cmp _ ha _ hb).1]
    unfold cmpI
    generalize rk a.k = p
    generalize rk b.k = q
    by_cases h1 : p < q
    · simp [h1]
    · by_cases h2 : q < p
      · simp [h1, h2]
      · simp [h1, h2]
  have hK2 : ∀ a b : Opn, a.k ∈ four → b.k ∈ four → (ltK2 a b = false ↔ rk b.k ≤ rk a.k) := fun a b ha hb => by
    rw [← Bool.not_eq_true, hK a b ha hb]; omega
  have hs := isort_sorted (lt := ltK2) (S := fun x => x.k ∈ four) (fun a b c ha hb hc h1 h2 => by
      rw [hK2 _ _ hb ha] at h1; rw [hK2 _ _ hc hb] at h2; rw [hK2 _ _ hc ha]; omega) (fun a b ha hb h1 => by
      rw [hK _ _ ha hb] at h1; rw [hK2 _ _ hb ha]; omega) (l := ca) hf
  have hp : (isort ltK2 ca).Pairwise (fun a b => rk a.k ≤ rk b.k) := by
    refine hs.imp_of_mem (fun {a b} ha hb h1 => ?_)
    have fa := hf a ((mem_isort ltK2).1 ha)
    have fb := hf b ((mem_isort ltK2).1 hb)
    exact (hK2 b a fb fa).1 h1
  have := LInv.run (y := y) (s := []) (rp := []) (r := isort ltK2 ca) ⟨fun c hc => (by cases hc), List.Pairwise.nil, trivial, fun z hz => (by cases hz), fun c hc => (by cases hc), rfl⟩ (fun x hx => hf x ((mem_isort ltK2).1 hx)) (by simpa using hp)
  simpa [linR] using this
theorem numR_get : ∀ {rp : List Cyl}, numR rp → ∀ (i : Nat) (x : Cyl), rp.reverse[i]? = some x → x.n = (i : Int) + 1
  | [], _, i, x, hx => by simp at hx
  | c :: r, h, i, x, hx => by
    rw [List.reverse_cons, List.getElem?_append] at hx
    split at hx
    · exact numR_get h.2 i x hx
    · rename_i hge
      have : i - r.reverse.length = 0 := by
        rcases Nat.eq_zero_or_pos (i - r.reverse.length) with h0 | h0
        · exact h0
        · rw [List.getElem?_eq_none (by simp only [List.length_cons, List.length_nil]; omega)] at hx; cases hx
      rw [this] at hx
      simp only [List.getElem?_cons_zero, Option.some.injEq] at hx
      subst hx
      rw [h.1]
      simp only [List.length_reverse] at hge this
      omega
theorem four_F : ∀ a, a ∈ four → ∀ b, b ∈ four → rk a < rk b → cmpF a b < 0 := by decide +kernel
theorem lines_law (y : Int) {ca : List Opn} (hf : ∀ x, x ∈ ca → x.k ∈ four) (i : Nat) (hi : i < (linR y ca).reverse.length) :
    ((linR y ca).reverse.getD i default).n = (i : Int) + 1 ∧ ((linR y ca).reverse.getD i default).y = y ∧ ((linR y ca).reverse.getD i default).d = 360 * y ∧ ((linR y ca).reverse.getD i default).a = sumU ((linR y ca).reverse.getD i default).k ca ∧
    ((linR y ca).reverse.getD i default).k ∈ four ∧ (0 < i → cmpF ((linR y ca).reverse.getD (i - 1) default).k ((linR y ca).reverse.getD i default).k < 0) := by
  have hI := linR_inv y hf
  have hg : ∀ j, j < (linR y ca).reverse.length → (linR y ca).reverse[j]? = some ((linR y ca).reverse.getD j default) := fun j hj => by
    rw [List.getD_eq_getElem?_getD, List.getElem?_eq_getElem hj]; rfl
  have hm : ∀ j, j < (linR y ca).reverse.length → (linR y ca).reverse.getD j default ∈ linR y ca := fun j hj => List.mem_reverse.1 (mem_getD' hj)
  obtain ⟨h1, h2, h3, h4⟩ := hI.keys _ (hm i hi)
  refine ⟨numR_get hI.nums i _ (hg i hi), h2, h3, ?_, h1, fun h0 => ?_⟩
  · rw [h4, sumU_four h1 hf]; exact sumK_perm _ (isort_perm ltK2 ca)
  · have hp := List.pairwise_reverse.2 hI.desc
    have := List.pairwise_iff_getElem.1 hp (i - 1) i (by omega) hi (by omega)
    have e1 : (linR y ca).reverse.getD (i - 1) default = (linR y ca).reverse[i - 1]'(by omega) := by rw [List.getD_eq_getElem?_getD, List.getElem?_eq_getElem (by omega)]; rfl
    have e2 : (linR y ca).reverse.getD i default = (linR y ca).reverse[i] := by rw [List.getD_eq_getElem?_getD, List.getElem?_eq_getElem hi]; rfl
    have hm1 := hm (i - 1) (by omega)
    have hm2 := hm i hi
    rw [e1] at hm1 ⊢
    rw [e2] at hm2 ⊢
    exact four_F _ (hI.keys _ hm1).1 _ (hI.keys _ hm2).1 this
theorem lines_sum (y : Int) {ca : List Opn} (hf : ∀ x, x ∈ ca → x.k ∈ four) : sumCy (linR y ca).reverse = sumU [49] ca + sumU [50] ca := by
  rw [sumCy_reverse, (linR_inv y hf).tot, sumA_perm (isort_perm ltK2 ca), sumA_four hf, (sumU_top hf).1, (sumU_top hf).2]
end Go.AM
