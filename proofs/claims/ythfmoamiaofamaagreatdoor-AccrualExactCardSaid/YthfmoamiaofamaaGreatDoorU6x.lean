/-
  A part of a proof: see the last text of this claim for what is proved.
-/
import Derived.Test.YthfmoamiaofamaaGreatDoorU5x
import Derived.Test.YthfmoamiaofamaaGreatDoorQM
import Derived.Test.YthfmoamiaofamaaGreatDoorZMa
namespace Go.AM
open Go Go.Proofs Go.IntWalk
set_option maxRecDepth 100000
set_option maxHeartbeats 4000000
set_option linter.unusedSimpArgs false
set_option linter.unusedVariables false
/-- The sum of a class, over the entries that were looked at. -/
def csum (χ : Nat → Bool) (c : Int) : Nat → IMp → Int
  | _, [] => 0
  | i, p :: r => (bif χ i && (clsI p.1 == c) then p.2 else 0) + csum χ c (i + 1) r
theorem csum_none (c : Int) : ∀ (m : IMp) (i : Nat), csum (fun _ => false) c i m = 0
  | [], _ => rfl
  | p :: r, i => by rw [csum, csum_none c r]; rfl
theorem csum_congr (c : Int) {χ χ' : Nat → Bool} : ∀ (m : IMp) (i : Nat), (∀ j, i ≤ j → j < i + m.length → χ j = χ' j) → csum χ c i m = csum χ' c i m
  | [], _, _ => rfl
  | p :: r, i, h => by
    rw [csum, csum, h i (Nat.le_refl _) (by simp), csum_congr c r (i + 1) (fun j h1 h2 => h j (by omega) (by simp only [List.length_cons]; omega))]
theorem csum_set (c : Int) {χ : Nat → Bool} {p : Int × Int} : ∀ (m : IMp) (i k : Nat), m[k]? = some p → χ (i + k) = false → csum (setχ χ (i + k)) c i m = csum χ c i m + (bif clsI p.1 == c then p.2 else 0)
  | [], _, _, h, _ => by simp at h
  | q :: r, i, k, h, hχ => by
    cases k with
    | zero =>
      simp at h; subst h
      rw [Nat.add_zero] at hχ ⊢
      rw [csum, csum, hχ, csum_congr c r (i + 1) (χ' := χ) (fun j h1 h2 => by unfold setχ; have : (j == i) = false := by simp; omega
                                                                              rw [this]; simp)]
      have : setχ χ i i = true := by simp [setχ]
      rw [this]
      cases (clsI q.1 == c) <;> simp; omega
    | succ k =>
      have e : i + (k + 1) = i + 1 + k := by omega
      rw [e] at hχ ⊢
      rw [csum, csum, csum_set c r (i + 1) k (by simpa using h) hχ]
      have : setχ χ (i + 1 + k) i = χ i := by unfold setχ; have : (i == i + 1 + k) = false := by simp; omega
                                              rw [this]; simp
      rw [this]; omega
def okM (m : IMp) : Prop := m.length ≤ 2000 ∧ ∀ p, p ∈ m → (100 ≤ p.1 ∧ p.1 ≤ 599) ∧ (-2000000000000000 ≤ p.2 ∧ p.2 ≤ 2000000000000000)
theorem csum_le (χ : Nat → Bool) (c : Int) : ∀ (m : IMp) (i : Nat), (∀ p, p ∈ m → -2000000000000000 ≤ p.2 ∧ p.2 ≤ 2000000000000000) → -(2000000000000000 * m.length : Int) ≤ csum χ c i m ∧ csum χ c i m ≤ 2000000000000000 * m.length
  | [], _, _ => by simp [csum]
  | p :: r, i, h => by
    have ih := csum_le χ c r (i + 1) (fun q hq => h q (List.mem_cons_of_mem _ hq))
    have hp := h p List.mem_cons_self
    simp only [csum, List.length_cons, Int.natCast_add, Int.mul_add]
    cases (χ i && (clsI p.1 == c)) with
    | true => simp only [cond_true]; omega
    | false => simp only [cond_false]; omega
def clsX (χ : Nat → Bool) (m : IMp) : List Int := tab 6 fun c => csum χ (c : Int) 0 m
def clsT (m : IMp) : List Int := clsX (fun _ => true) m
def imOf (es : List (PV × PV)) : IMp := es.map fun p => (nOfI p.1, nOfI p.2)
theorem imOf_im (m : IMp) : imOf (imV m) = m := by unfold imOf imV; rw [List.map_map]; exact List.map_id' m
def clsP (es : List (PV × PV)) : Prop × PV := (∃ m, es = imV m ∧ okM m, .agg (arrP (clsT (imOf es))))
theorem im_get {m : IMp} {i : Nat} {p : PV × PV} (h : (imV m)[i]? = some p) : ∃ q : Int × Int, m[i]? = some q ∧ p = (.int .i64 q.1, .int .i64 q.2) := by
  unfold imV at h
  rw [List.getElem?_map] at h
  obtain ⟨q, h1, h2⟩ := Option.map_eq_some_iff.1 h
  exact ⟨q, h1, h2.symm⟩
theorem zeA6 : zeroT Tryz.prog 108 = some (.agg (Array.replicate 6 (.int .i64 0))) := by kernel_rfl
theorem arrV_nq : ∀ {s : List Int}, AV.nqL (arrV s) = true
  | [] => rfl
  | x :: r => by show (true && AV.nqL (arrV r)) = true; rw [arrV_nq]; rfl
theorem clsX_set {χ : Nat → Bool} {m : IMp} {i : Nat} {q : Int × Int} (h : m[i]? = some q) (hχ : χ i = false) (hk : 0 ≤ clsI q.1) : (clsX χ m).set (clsI q.1).toNat (csum χ (clsI q.1) 0 m + q.2) = clsX (setχ χ i) m := by
  unfold clsX
  rw [tab_set]
  refine tab_congr (fun j hj => ?_)
  have := csum_set (j : Int) (χ := χ) (p := q) m 0 i h (by rw [Nat.zero_add]; exact hχ)
  rw [Nat.zero_add] at this
  rw [this]
  by_cases e : j = (clsI q.1).toNat
  · have e2 : (j : Int) = clsI q.1 := by omega
    rw [if_pos e, e2]; simp
  · have e2 : (clsI q.1 == (j : Int)) = false := by simp; omega
    rw [if_neg e, e2]; simp
theorem clsI_lt {n : Int} : clsI n ≤ 5 := by
  unfold clsI
  cases h : amg n 100 599 with
  | false => simp
  | true =>
    have h : 100 ≤ n ∧ n ≤ 599 := by simpa [amg] using h
    simp only [cond_true]
    rw [Int.tdiv_eq_ediv_of_nonneg (by omega)]; omega
def planM : Plan := { keep := fun _ => none, cut := fun _ => false, stop := fun i => i == 2 }
theorem k_clsS_82 {args : List PV} : AL 82 args = lclsS args := rfl
theorem AL_cls {args : List PV} : AL 82 args = lclsS args := rfl
theorem w_clsRd : ESound GG 85 (psiRd clsP) := by
  refine ESound.of_rd (C := cxQ Tryz.prog AL noΘ noΨ [] [9001] 21) (T := planM) Tryz.func85 rfl rfl rfl rfl (Fit.all (G := GG) hAL hnoΘ hnoΨ mixed) (fun es h => ?_)
  obtain ⟨m, rfl, hm1, hm2⟩ := h
  refine ⟨by simp [cxQ], ?_⟩
  have hres : (clsP (imV m)).2 = .agg (arrP (clsT m)) := by unfold clsP; rw [imOf_im]
  rw [hres]
  simp only [zeA6, arrV_rep, arrV_one, Tryz.f85, Tryz.underlying108, sz108, planM, go_sem, ↓reduceIte, reduceCtorEq, Nat.reduceEqDiff, Nat.reduceLT, ↓all_qV, Int.reduceToNat, Int.reduceLT, Int.reduceLE, Nat.reduceAdd, Nat.reduceLeDiff, Nat.reduceMul, ev_callG, gcallK_b, gcallK_w, callGc_true, callGc_false]
  refine AWp.mapRange (T := plan0) 9001 (imV m) (fun χ => ([(2, .ptr 2 0), (3, .ptr 3 0)], [(2, .cells (arrV (List.replicate 6 0))), (3, .cells (arrV (clsX χ m)))]))
    (hout := rfl) (hpin := fun κ hκ => by simpa [cxQ] using hκ) (hops := ⟨⟨rfl, rfl, rfl⟩, ⟨rfl, rfl, rfl⟩, ⟨rfl, rfl, rfl⟩, ⟨rfl, rfl, rfl⟩, ⟨rfl, rfl, rfl⟩, ⟨rfl, rfl, rfl⟩, ⟨rfl, rfl, rfl⟩, ⟨rfl, rfl, rfl⟩, ⟨rfl, rfl, rfl⟩⟩) (hne := by decide) (hlt := by decide)
    (hm := by simp [look]) (hH := by simp [hget, hset]) (ht := Tryz.underlying105) (h0 := by simp [fitR, look]) (h0H := ?_) (hok := fun χ => ?_) (hbody := fun x χ i p hp hχ => ?_) (hend := fun χ hall => ?_)
  · exact ⟨by simp [hget], by simp [hget, clsX, csum_none, tab_rep], trivial⟩
  · refine ⟨rfl, by simp [refsH, ABlk.refsIn, arrV_refs], by simp [nqH, ABlk.nq, arrV_nq], fun s => ?_, by simp [hget], fun y hy => ?_⟩
    · unfold look
      split
      · rfl
      · unfold look
        split <;> rfl
    · simp only [List.mem_cons, List.not_mem_nil, or_false] at hy
      rcases hy with rfl | rfl | rfl | rfl | rfl | rfl | rfl | rfl | rfl <;> rfl
  · show wpc (cxQ Tryz.prog AL noΘ noΨ [] [] 21) _ _ _ _
    obtain ⟨q, hq, rfl⟩ := im_get hp
    have hqm := hm2 q (List.mem_of_getElem? hq)
    have hk0 := clsI_nn (n := q.1)
    have hk5 := clsI_lt (n := q.1)
    have hle := csum_le χ (clsI q.1) m 0 (fun p hp => (hm2 p hp).2)
    have hS : (clsX χ m).length = 6 := tab_len
    have g1 := arrV_get (s := clsX χ m) (i := (clsI q.1).toNat) (by omega)
    have e1 : (clsX χ m).getD (clsI q.1).toNat 0 = csum χ (clsI q.1) 0 m := by
      unfold clsX; rw [tab_get (by omega), show (((clsI q.1).toNat : Nat) : Int) = clsI q.1 by omega]
    rw [e1] at g1
    have hst := clsX_set hq hχ hk0
    generalize clsX χ m = S at hS g1 hst ⊢
    generalize clsX (setχ χ i) m = S' at hst ⊢
    generalize csum χ (clsI q.1) 0 m = B at hle g1 hst
    have w1 : IntKind.i64.wrap (B + q.2) = B + q.2 := i64_in _ (by omega)
    simp only [AL_cls, lclsS, on_i_eq, g1, w1, hst, hS, arrV_len, arrV_set, Nat.mul_one, Tryz.underlying108, sz108, Tryz.underlying3, sz3, plan0, go_sem, ↓reduceIte, reduceCtorEq, Nat.reduceEqDiff, Nat.reduceLT, ↓all_qV, Int.reduceToNat, Int.reduceLT, Int.reduceLE, Nat.reduceAdd, Nat.reduceLeDiff, Nat.reduceMul, ev_callG, gcallK_b, gcallK_w, callGc_true, callGc_false]
    refine ⟨⟨by omega, by omega⟩, by omega, ⟨by omega, by omega⟩, by omega, ?_⟩
    show Fits [] _ _ _
    exact ⟨by simp [fitR, look], by simp [fitH, hget], rfl, by simp [refsH, ABlk.refsIn, arrV_refs], rfl⟩
  · have hcl : clsX χ m = clsT m := by
      unfold clsT clsX
      exact tab_congr (fun j _ => csum_congr _ m 0 (fun k _ hk => hall k (by unfold imV; rw [List.length_map]; omega)))
    have hS : (clsT m).length = 6 := tab_len
    have hput := arrV_put (s := clsT m) (t := List.replicate 6 0) (by rw [hS, List.length_replicate])
    simp only [hcl, hput, hS, loadC_eq, FinRd_r, FinRd_n, arrV_len, arrV_one, arrV_take hS, arrV_frz, List.length_replicate, Tryz.underlying108, sz108, planM, go_sem, ↓reduceIte, reduceCtorEq, Nat.reduceEqDiff, Nat.reduceLT, ↓all_qV, Int.reduceToNat, Int.reduceLT, Int.reduceLE, Nat.reduceAdd, Nat.reduceLeDiff, Nat.reduceMul, ev_callG, gcallK_b, gcallK_w, callGc_true, callGc_false]
    exact arrV_frzOk
theorem arrP_flat {s : List Int} : (PV.agg (arrP s)).flat = true := by
  show (arrP s).all PV.flat1 = true
  unfold arrP; rw [List.all_map]; exact List.all_eq_true.2 (fun x _ => rfl)
/-! ### What the classes of some postings are -/
def cbal (en fr to c : Int) : List Pst → Int
  | [] => 0
  | x :: r => (bif cntB en fr to x then (bif clsI x.db == c then x.am else 0) - (bif clsI x.cr == c then x.am else 0) else 0) + cbal en fr to c r
theorem cbal_app (en fr to c : Int) : ∀ x y : List Pst, cbal en fr to c (x ++ y) = cbal en fr to c x + cbal en fr to c y
  | [], y => by simp [cbal]
  | p :: r, y => by rw [List.cons_append, cbal, cbal, cbal_app en fr to c r y]; omega
theorem csum_iput (c k v : Int) : ∀ (m : IMp) (i : Nat), csum (fun _ => true) c i (iput k v m) = csum (fun _ => true) c i m + (bif clsI k == c then v - iget k m else 0)
  | [], i => by simp [iput, csum, iget]
  | p :: r, i => by
    unfold iput
    by_cases h : (k == p.1) = true
    · rw [if_pos h]
      have e : k = p.1 := by simpa using h
      simp only [csum, iget, h, if_true, Bool.true_and]
      rw [← e]
      cases clsI k == c <;> simp; omega
    · rw [if_neg h]
      simp only [csum, iget, h, if_false, csum_iput c k v r (i + 1)]
      simp; omega
theorem csum_book (en fr to c : Int) : ∀ (l : List Pst) (m : IMp), (∀ x, x ∈ l → x.db ≠ x.cr) → csum (fun _ => true) c 0 (bookF en fr to m l) = csum (fun _ => true) c 0 m + cbal en fr to c l
  | [], m, _ => by simp [bookF, cbal]
  | x :: r, m, h => by
    have hx := h x List.mem_cons_self
    rw [bookF, csum_book en fr to c r _ (fun y hy => h y (List.mem_cons_of_mem _ hy)), cbal]
    cases cntB en fr to x with
    | false => simp
    | true =>
      have hne : (x.cr == x.db) = false := by simpa using fun e => hx e.symm
      simp only [cond_true, csum_iput, iget_put, hne]
      cases clsI x.db == c <;> cases clsI x.cr == c <;> simp <;> omega
def okB (B : Int) (m : IMp) : Prop := ∀ p, p ∈ m → (100 ≤ p.1 ∧ p.1 ≤ 599) ∧ (-B ≤ p.2 ∧ p.2 ≤ B)
theorem iput_mem {k v : Int} {p : Int × Int} : ∀ {m : IMp}, p ∈ iput k v m → p ∈ m ∨ (p.1 = k ∧ p.2 = v)
  | [], h => by simp [iput] at h; subst h; exact .inr ⟨rfl, rfl⟩
  | q :: r, h => by
    unfold iput at h
    by_cases hk : (k == q.1) = true
    · rw [if_pos hk] at h
      rcases List.mem_cons.1 h with rfl | h
      · exact .inr ⟨by simpa using (by simpa using hk : k = q.1).symm, rfl⟩
      · exact .inl (List.mem_cons_of_mem _ h)
    · rw [if_neg hk] at h
      rcases List.mem_cons.1 h with rfl | h
      · exact .inl List.mem_cons_self
      · rcases iput_mem h with h | h
        · exact .inl (List.mem_cons_of_mem _ h)
        · exact .inr h
theorem iget_le {B : Int} (hB : 0 ≤ B) {k : Int} : ∀ {m : IMp}, okB B m → -B ≤ iget k m ∧ iget k m ≤ B
  | [], _ => by simp [iget]; omega
  | q :: r, h => by
    unfold iget
    split
    · exact (h q List.mem_cons_self).2
    · exact iget_le hB (fun p hp => h p (List.mem_cons_of_mem _ hp))
theorem iput_len (k v : Int) : ∀ m : IMp, (iput k v m).length ≤ m.length + 1
  | [] => by simp [iput]
  | q :: r => by
    unfold iput
    split
    · simp
    · have := iput_len k v r; simp only [List.length_cons]; omega
theorem book_ok (en fr to : Int) : ∀ (l : List Pst) (m : IMp) (B : Int), 0 ≤ B → (∀ x, x ∈ l → pB x = true) → okB B m → okB (B + 2000000000000 * l.length) (bookF en fr to m l) ∧ (bookF en fr to m l).length ≤ m.length + 2 * l.length
  | [], m, B, hB, _, hm => by simpa [bookF] using hm
  | x :: r, m, B, hB, hp, hm => by
    have hx := pB_parts (hp x List.mem_cons_self)
    have hd := clsI_pos hx.2.2.2.1
    have hc := clsI_pos hx.2.2.2.2.1
    have ha := hx.2.2.2.2.2.2.1
    rw [bookF]
    have h1 : okB (B + 2000000000000) (bif cntB en fr to x then iput x.cr (iget x.cr (iput x.db (iget x.db m + x.am) m) - x.am) (iput x.db (iget x.db m + x.am) m) else m) ∧ (bif cntB en fr to x then iput x.cr (iget x.cr (iput x.db (iget x.db m + x.am) m) - x.am) (iput x.db (iget x.db m + x.am) m) else m).length ≤ m.length + 2 := by
      cases cntB en fr to x with
      | false => exact ⟨fun p hp => by have := hm p hp; exact ⟨this.1, by omega⟩, by simp⟩
      | true =>
        have g1 := iget_le hB (k := x.db) hm
        have hm2 : okB (B + 1000000000000) (iput x.db (iget x.db m + x.am) m) := fun p hp => by
          rcases iput_mem hp with h | ⟨e1, e2⟩
          · have := hm p h; exact ⟨this.1, by omega⟩
          · rw [e1, e2]; exact ⟨hd, by omega⟩
        have g2 := iget_le (by omega) (k := x.cr) hm2
        refine ⟨fun p hp => ?_, ?_⟩
        · rcases iput_mem hp with h | ⟨e1, e2⟩
          · have := hm2 p h; exact ⟨this.1, by omega⟩
          · rw [e1, e2]; exact ⟨hc, by omega⟩
        · have l1 := iput_len x.db (iget x.db m + x.am) m
          have l2 := iput_len x.cr (iget x.cr (iput x.db (iget x.db m + x.am) m) - x.am) (iput x.db (iget x.db m + x.am) m)
          simp only [cond_true]; omega
    have ih := book_ok en fr to r _ (B + 2000000000000) (by omega) (fun y hy => hp y (List.mem_cons_of_mem _ hy)) h1.1
    have h3 := h1.2
    generalize (bif cntB en fr to x then iput x.cr (iget x.cr (iput x.db (iget x.db m + x.am) m) - x.am) (iput x.db (iget x.db m + x.am) m) else m) = M at ih h3 ⊢
    refine ⟨fun p hp => ?_, ?_⟩
    · have := ih.1 p hp
      simp only [List.length_cons, Int.natCast_add]
      exact ⟨this.1, by omega⟩
    · have := ih.2; simp only [List.length_cons]; omega
theorem book_okM {en fr to : Int} {l : List Pst} (hp : ∀ x, x ∈ l → pB x = true) (hl : l.length ≤ 1000) : okM (bookF en fr to [] l) := by
  have := book_ok en fr to l [] 0 (Int.le_refl _) hp (fun p hp => by cases hp)
  refine ⟨by have := this.2; simp at this; omega, fun p hp => ?_⟩
  have := this.1 p hp
  exact ⟨this.1, by omega⟩
theorem clsT_book {en fr to : Int} {l : List Pst} (hp : ∀ x, x ∈ l → pB x = true) : clsT (bookF en fr to [] l) = tab 6 fun c => cbal en fr to (c : Int) l := by
  unfold clsT clsX
  refine tab_congr (fun c _ => ?_)
  rw [csum_book en fr to c l [] (fun x hx => (pB_parts (hp x hx)).2.2.2.2.2.1)]
  simp [csum]
theorem cbal_le (en fr to c : Int) : ∀ l : List Pst, (∀ x, x ∈ l → pB x = true) → -(1000000000000 * l.length : Int) ≤ cbal en fr to c l ∧ cbal en fr to c l ≤ 1000000000000 * l.length
  | [], _ => by simp [cbal]
  | x :: r, h => by
    have ih := cbal_le en fr to c r (fun y hy => h y (List.mem_cons_of_mem _ hy))
    have ha := (pB_parts (h x List.mem_cons_self)).2.2.2.2.2.2.1
    simp only [cbal, List.length_cons, Int.natCast_add, Int.mul_add]
    cases cntB en fr to x <;> cases clsI x.db == c <;> cases clsI x.cr == c <;> simp only [cond_true, cond_false] <;> omega
end Go.AM
namespace Go.AM
open Go Go.Proofs Go.IntWalk
set_option maxRecDepth 100000
set_option maxHeartbeats 4000000
set_option linter.unusedSimpArgs false
set_option linter.unusedVariables false
def rdQ (φ : List (PV × PV) → Prop × PV) : Option ABlk → (PV → Prop) → Prop
  | some (.map es), k => (φ es).1 ∧ (φ es).2.flat = true ∧ k (φ es).2
  | _, _ => False
theorem rdQ_map {φ : List (PV × PV) → Prop × PV} {es : List (PV × PV)} {k : PV → Prop} : rdQ φ (some (.map es)) k = ((φ es).1 ∧ (φ es).2.flat = true ∧ k (φ es).2) := rfl
theorem psiRd_at {φ : List (PV × PV) → Prop × PV} {d κ : Nat} {ρ : Nat → AV} {H : AHeap} {K : AV → ASt → Prop} : psiRd φ d [.mp κ] ⟨ρ, H⟩ K = rdQ φ (hget H κ) (fun v => K (.pv v) ⟨ρ, H⟩) := by
  change (match hget H κ with
    | some (.map es) => (φ es).1 ∧ (φ es).2.flat = true ∧ K (.pv (φ es).2) ⟨ρ, H⟩
    | _ => False) = _
  unfold rdQ
  cases hget H κ with
  | none => rfl
  | some B => cases B <;> rfl
noncomputable def Ψs (g : FuncId) : Option ESpec := putΨ Ψo 85 (psiRd clsP) g
theorem hΨs : ETab GG Ψs := hΨo.put w_clsRd psiRd_mono
theorem okP5 {H : AHeap} {a b c d e : Int} : ∀ x, x ∈ [AV.pv (.int .i64 a), .pv (.int .i64 b), .pv (.int .i64 c), .pv (.int .i64 d), .pv (.int .i64 e)] → x.one = true ∧ frzOk H 3 x := by
  intro x hx
  simp only [List.mem_cons, List.not_mem_nil, or_false] at hx
  rcases hx with rfl | rfl | rfl | rfl | rfl <;> exact ⟨rfl, trivial⟩
def stmL (l : List Pst) (en fr to : Int) : List Int := [cbal en 0 to 1 l, -cbal en 0 to 2 l, -cbal en 0 (fr - 1) 3 l - cbal en 0 (fr - 1) 4 l - cbal en 0 (fr - 1) 5 l, -cbal en fr to 4 l, cbal en fr to 5 l]
def lstOf : PV → List Pst
  | .sl es => es.map psOf
  | _ => []
theorem lstOf_sl {es : List PV} : lstOf (.sl es) = es.map psOf := rfl
def isLs (e : PV) : Prop := ∃ l : List Pst, e = .sl (l.map psV) ∧ (∀ x, x ∈ l → pB x = true) ∧ l.length ≤ 400
noncomputable def smsS : PSpec := on_piii (fun e _ fr to => isLs e ∧ (0 ≤ fr ∧ fr ≤ 36000) ∧ (0 ≤ to ∧ to ≤ 36000)) (fun e en fr to => .agg (arrP (stmL (lstOf e) en fr to)))
theorem bks_at {l : List Pst} {en fr to : Int} : booksP [.sl (l.map psV), clV en fr to] = ((∃ l1 en1 fr1 to1, [.sl (l.map psV), clV en fr to] = [.sl (l1.map psV), clV en1 fr1 to1] ∧ bkOk l1), imV (bookF en fr to [] l)) := by unfold booksP; rw [bkF_eq]
theorem clsP_at {m : IMp} : clsP (imV m) = (∃ m1, imV m = imV m1 ∧ okM m1, .agg (arrP (clsT m))) := by unfold clsP; rw [imOf_im]
theorem pB_bk {l : List Pst} (h : ∀ x, x ∈ l → pB x = true) (hl : l.length ≤ 400) : bkOk l :=
  ⟨fun x hx => by have := pB_parts (h x hx); exact ⟨by omega, this.2.2.2.2.2.1⟩, by omega⟩
def planS : Plan := { keep := fun _ => none, cut := fun _ => false, stop := fun i => i == 2 }
theorem k_smsS_84 {args : List PV} : AL 84 args = ofS args := rfl
theorem w_smsS : PSound GG 73 smsS := by
  refine PSound.of_wpc (C := cxQ Tryz.prog AL noΘ Ψs [] [] 52) (T := planS) Tryz.func73 rfl rfl rfl (Fit.all (G := GG) hAL hnoΘ hΨs mixed) (fun args h => ?_)
  unfold smsS at h
  obtain ⟨e, en, fr, to, rfl, ⟨l, rfl, hp, hl⟩, hfr, hto⟩ := on_piii_inv h
  refine ⟨by simp [cxQ], ?_⟩
  have hbk := pB_bk hp hl
  have ok := fun fr to => book_okM (en := en) (fr := fr) (to := to) hp (by omega : l.length ≤ 1000)
  have sk := fun m => imV_keys (P := Tryz.prog) (t := 3) (fun a => keyI) m
  have w1 : IntKind.i64.wrap (fr - 1) = fr - 1 := i64_in _ (by omega)
  have hc : ∀ fr to c, -(1000000000000 * 400 : Int) ≤ cbal en fr to c l ∧ cbal en fr to c l ≤ 1000000000000 * 400 := fun fr to c => by have := cbal_le en fr to c l hp; omega
  have hv : ∀ fr to, clsT (bookF en fr to [] l) = tab 6 fun c => cbal en fr to (c : Int) l := fun fr to => clsT_book hp
  have hS : ∀ fr to, (clsT (bookF en fr to [] l)).length = 6 := fun fr to => tab_len
  have hg : ∀ fr to (i : Nat), i < 6 → (clsT (bookF en fr to [] l)).getD i 0 = cbal en fr to (i : Int) l := fun fr to i hi => by rw [hv, tab_get hi]
  have q1 : (clsT (bookF en 0 to [] l)).getD 1 0 = cbal en 0 to 1 l := hg 0 to 1 (by decide)
  have q2 : (clsT (bookF en 0 to [] l)).getD 2 0 = cbal en 0 to 2 l := hg 0 to 2 (by decide)
  have q3 : (clsT (bookF en 0 (fr - 1) [] l)).getD 3 0 = cbal en 0 (fr - 1) 3 l := hg 0 (fr - 1) 3 (by decide)
  have q4 : (clsT (bookF en 0 (fr - 1) [] l)).getD 4 0 = cbal en 0 (fr - 1) 4 l := hg 0 (fr - 1) 4 (by decide)
  have q5 : (clsT (bookF en 0 (fr - 1) [] l)).getD 5 0 = cbal en 0 (fr - 1) 5 l := hg 0 (fr - 1) 5 (by decide)
  have q6 : (clsT (bookF en fr to [] l)).getD 4 0 = cbal en fr to 4 l := hg fr to 4 (by decide)
  have q7 : (clsT (bookF en fr to [] l)).getD 5 0 = cbal en fr to 5 l := hg fr to 5 (by decide)
  have p1 := arrV_put (s := clsT (bookF en 0 to [] l)) (t := List.replicate 6 0) (by rw [hS, List.length_replicate])
  have p2 := arrV_put (s := clsT (bookF en fr to [] l)) (t := List.replicate 6 0) (by rw [hS, List.length_replicate])
  have p3 := arrV_put (s := clsT (bookF en 0 (fr - 1) [] l)) (t := List.replicate 6 0) (by rw [hS, List.length_replicate])
  simp (config := {maxSteps := 2000000}) only [smsS, on_piii_eq, lstOf_sl, map_psOf, Nat.reduceBEq, Tryz.f73, argL, planS, List.append_eq, List.cons_append, List.nil_append, Ψs, Ψo, psiMap_eq, psiRd_at, rdQ_map, clsP_at, bks_at, w1, zeA6, arrV_rep, arrV_one, arrP_av, arrP_len, arrP_flat, p1, p2, p3, k_smsS_84, ofS, on_iii_eq, List.take_succ_cons, List.take_nil, ze90, sz90, Tryz.underlying90, Tryz.underlying108, sz108, Tryz.underlying3, sz3, planS, go_sem, ↓reduceIte, reduceCtorEq, Nat.reduceEqDiff, Nat.reduceLT, ↓all_qV, Int.reduceToNat, Int.reduceLT, Int.reduceLE, Nat.reduceAdd, Nat.reduceLeDiff, Nat.reduceMul, ev_callG, gcallK_b, gcallK_w, callGc_true, callGc_false]
  have bk : ∀ fr to, ∃ l1 en1 fr1 to1, [PV.sl (l.map psV), clV en fr to] = [PV.sl (l1.map psV), clV en1 fr1 to1] ∧ bkOk l1 := fun fr to => ⟨l, en, fr, to, rfl, hbk⟩
  have hok : ∀ fr to, ∃ m1, imV (bookF en fr to [] l) = imV m1 ∧ okM m1 := fun fr to => ⟨_, rfl, ok fr to⟩
  have hfl : ∀ s : List Int, (arrP s).all PV.flat1 = true := fun s => arrP_flat
  have h6 : ∀ fr to, (arrV (clsT (bookF en fr to [] l))).length = 6 := fun fr to => by rw [arrV_len]; exact hS fr to
  have h66 : 6 ≤ (arrV (List.replicate 6 0)).length := by decide
  refine ⟨bk _ _, imV_flat _, hok _ _, hfl _, bk _ _, imV_flat _, hok _ _, hfl _, bk _ _, imV_flat _, hok _ _, hfl _, h6 _ _, h66, h6 _ _, h66, h6 _ _, h66, ?_⟩
  have l1 := hS 0 to
  have l2 := hS fr to
  have l3 := hS 0 (fr - 1)
  have b1 := hc 0 to 1
  have b2 := hc 0 to 2
  have b3 := hc 0 (fr - 1) 3
  have b4 := hc 0 (fr - 1) 4
  have b5 := hc 0 (fr - 1) 5
  have b6 := hc fr to 4
  have b7 := hc fr to 5
  refine AWp.here (T := plan0) (α := Unit) (fun _ => ([(8, .ptr 8 0), (9, .ptr 9 0), (10, .ptr 10 0), (11, .ptr 11 0)], [(8, .cells [.pv (.int .i64 0), .pv (.int .i64 0), .pv (.int .i64 0), .pv (.int .i64 0), .pv (.int .i64 0)]), (9, .cells (arrV (clsT (bookF en 0 to [] l)))), (10, .cells (arrV (clsT (bookF en fr to [] l)))), (11, .cells (arrV (clsT (bookF en 0 (fr - 1) [] l))))])) (fun _ => True) ⟨(), trivial, ⟨by simp [fitR, look], by simp [fitH, hget], rfl, by simp [refsH, ABlk.refsIn, AV.refsInL, AV.refsIn, arrV_refs, hget], rfl⟩⟩ ?_
  intro _ _
  unfold stmL
  generalize clsT (bookF en 0 to [] l) = S1 at q1 q2 l1 ⊢
  generalize clsT (bookF en fr to [] l) = S2 at q6 q7 l2 ⊢
  generalize clsT (bookF en 0 (fr - 1) [] l) = S3 at q3 q4 q5 l3 ⊢
  generalize cbal en 0 to 1 l = A1 at q1 b1 ⊢
  generalize cbal en 0 to 2 l = A2 at q2 b2 ⊢
  generalize cbal en 0 (fr - 1) 3 l = A3 at q3 b3 ⊢
  generalize cbal en 0 (fr - 1) 4 l = A4 at q4 b4 ⊢
  generalize cbal en 0 (fr - 1) 5 l = A5 at q5 b5 ⊢
  generalize cbal en fr to 4 l = A6 at q6 b6 ⊢
  generalize cbal en fr to 5 l = A7 at q7 b7 ⊢
  have g1 := arrV_get (s := S1) (i := 1) (by omega)
  have g2 := arrV_get (s := S1) (i := 2) (by omega)
  have g3 := arrV_get (s := S3) (i := 3) (by omega)
  have g4 := arrV_get (s := S3) (i := 4) (by omega)
  have g5 := arrV_get (s := S3) (i := 5) (by omega)
  have g6 := arrV_get (s := S2) (i := 4) (by omega)
  have g7 := arrV_get (s := S2) (i := 5) (by omega)
  rw [q1] at g1
  rw [q2] at g2
  rw [q3] at g3
  rw [q4] at g4
  rw [q5] at g5
  rw [q6] at g6
  rw [q7] at g7
  have n2 : IntKind.i64.wrap (0 - A2) = -A2 := by rw [i64_in _ (by omega)]; omega
  have n3 : IntKind.i64.wrap (0 - A3) = -A3 := by rw [i64_in _ (by omega)]; omega
  have n4 : IntKind.i64.wrap (-A3 - A4) = -A3 - A4 := i64_in _ (by omega)
  have n5 : IntKind.i64.wrap (-A3 - A4 - A5) = -A3 - A4 - A5 := i64_in _ (by omega)
  have n6 : IntKind.i64.wrap (0 - A6) = -A6 := by rw [i64_in _ (by omega)]; omega
  simp (config := {maxSteps := 2000000}) only [g1, g2, g3, g4, g5, g6, g7, n2, n3, n4, n5, n6, arrV_len, l1, l2, l3, arrP, List.map_cons, List.map_nil, loadC_eq, List.append_eq, List.cons_append, List.nil_append, Nat.mul_one, List.take_succ_cons, List.take_nil, ze90, sz90, Tryz.underlying90, Tryz.underlying108, sz108, Tryz.underlying3, sz3, plan0, go_sem, ↓reduceIte, reduceCtorEq, Nat.reduceEqDiff, Nat.reduceLT, ↓all_qV, Int.reduceToNat, Int.reduceLT, Int.reduceLE, Nat.reduceAdd, Nat.reduceLeDiff, Nat.reduceMul, ev_callG, gcallK_b, gcallK_w, callGc_true, callGc_false]
  first | exact okP5 | exact ⟨okP5, rfl⟩
noncomputable def AM (g : FuncId) : PSpec := (putΦ AL 73 smsS) g
theorem hAM : TabSound GG AM := (hAL.put w_smsS)
end Go.AM
