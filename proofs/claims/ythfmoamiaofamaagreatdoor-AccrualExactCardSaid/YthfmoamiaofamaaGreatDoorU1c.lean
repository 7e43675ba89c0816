/-
  A part of a proof: see the last text of this claim for what is proved.
-/
import Derived.Test.YthfmoamiaofamaaGreatDoorU1b
import Derived.Test.YthfmoamiaofamaaGreatDoorNE
import Derived.Test.YthfmoamiaofamaaGreatDoorZMa
/-! ledger: Of -/
namespace Go.AM
open Go Go.Proofs Go.IntWalk
set_option maxRecDepth 100000
set_option maxHeartbeats 1000000
set_option linter.unusedSimpArgs false
set_option linter.unusedVariables false
def on_piii (p : PV → Int → Int → Int → Prop) (f : PV → Int → Int → Int → PV) : PSpec
  | [a0, .int .i64 a1, .int .i64 a2, .int .i64 a3] => (p a0 a1 a2 a3, f a0 a1 a2 a3)
  | _ => (False, default)
theorem on_piii_eq {p : PV → Int → Int → Int → Prop} {f : PV → Int → Int → Int → PV} {a0 : PV} {a1 : Int} {a2 : Int} {a3 : Int} : on_piii p f [a0, .int .i64 a1, .int .i64 a2, .int .i64 a3] = (p a0 a1 a2 a3, f a0 a1 a2 a3) := rfl
theorem on_piii_inv {p : PV → Int → Int → Int → Prop} {f : PV → Int → Int → Int → PV} {args : List PV} (h : (on_piii p f args).1) : ∃ a0 : PV, ∃ a1 : Int, ∃ a2 : Int, ∃ a3 : Int, args = [a0, .int .i64 a1, .int .i64 a2, .int .i64 a3] ∧ p a0 a1 a2 a3 := by
  unfold on_piii at h
  split at h
  · exact ⟨_, _, _, _, rfl, h⟩
  · exact h.elim
noncomputable def Ψo (g : FuncId) : Option ESpec := putΨ noΨ 83 (psiMap booksP) g
theorem hΨo : ETab GG Ψo := hnoΨ.put w_booksS psiMap_mono
theorem any_pB {l : List Pst} (h : (l.any fun x => !pB x) = false) : ∀ x, x ∈ l → pB x = true := fun x hx => by
  have := List.any_eq_false.1 h x hx
  simpa using this
theorem pB_parts {x : Pst} (h : pB x = true) : (1 ≤ x.nu ∧ x.nu ≤ 1000000) ∧ (0 ≤ x.d ∧ x.d ≤ 36000) ∧ (1 ≤ x.en ∧ x.en ≤ 10) ∧ 0 < clsI x.db ∧ 0 < clsI x.cr ∧ x.db ≠ x.cr ∧ (1 ≤ x.am ∧ x.am ≤ 1000000000000) ∧ (0 ≤ x.pa ∧ x.pa ≤ 10) ∧ x.pa ≠ x.en ∧ (0 ≤ x.re ∧ x.re ≤ 1000000) := by
  unfold pB amg at h
  simp only [Bool.and_eq_true, decide_eq_true_eq, bne_iff_ne] at h
  obtain ⟨⟨⟨⟨⟨⟨⟨⟨⟨h1, h2⟩, h3⟩, h4⟩, h5⟩, h6⟩, h7⟩, h8⟩, h9⟩, h10⟩ := h
  exact ⟨h1, h2, h3, h4, h5, h6, h7, h8, h9, h10⟩
theorem lkF_ok {l : List Pst} (h : lkF l = 0) : l.length ≤ 400 ∧ (∀ x, x ∈ l → pB x = true) ∧ seqG 0 none l = true := by
  unfold lkF at h
  cases h1 : decide (400 < (l.length : Int)) with
  | true => rw [h1] at h; cases h
  | false =>
    cases h2 : l.any (fun x => !pB x) with
    | true => rw [h1, h2] at h; cases h
    | false =>
      cases h3 : seqG 0 none l with
      | false => rw [h1, h2, h3] at h; cases h
      | true => exact ⟨by simp at h1; omega, any_pB h2, rfl⟩
theorem lk_bk {l : List Pst} (h : lkF l = 0) : bkOk l := by
  obtain ⟨h1, h2, _⟩ := lkF_ok h
  exact ⟨fun x hx => by have := pB_parts (h2 x hx); exact ⟨by omega, this.2.2.2.2.2.1⟩, by omega⟩
theorem okL1 {H : AHeap} {l : List PV} : ∀ c, c ∈ [AV.pv (.sl l)] → c.one = true ∧ frzOk H 3 c := fun c hc => by rw [List.mem_singleton] at hc; subst hc; exact ⟨rfl, trivial⟩
def planOf : Plan := { keep := fun _ => none, cut := fun _ => false, stop := fun i => i == 3 }
noncomputable def OfS : PSpec := on_piii (fun e _ _ _ => isLg e) (fun e en ac d => .int .i64 (bif lkF (lgOf e) != 0 then 0 else balF en 0 d ac (lgOf e)))
theorem k_OfS_41 {args : List PV} : A8 41 args = lchkS args := rfl
theorem k_OfS_84 {args : List PV} : A8 84 args = ofS args := rfl
theorem w_OfS : PSound GG 67 OfS := by
  refine PSound.of_wpc (C := cxQ Tryz.prog A8 noΘ Ψo [] [] 20) (T := planOf) Tryz.func67 rfl rfl rfl (Fit.all (G := GG) hA8 hnoΘ hΨo mixed) (fun args h => ?_)
  unfold OfS at h
  obtain ⟨e, en, ac, d, rfl, l, rfl, hl⟩ := on_piii_inv h
  refine ⟨by simp [cxQ], ?_⟩
  simp only [OfS, on_piii_eq, lgV, lgOf_agg, Ψo, Nat.reduceBEq, k_OfS_41, lchkS, on_p_eq, k_OfS_84, ofS, on_iii_eq, Tryz.f67, argL, List.take_succ_cons, List.take_nil, Tryz.underlying3, sz3, by3, ze3, Tryz.underlying4, sz4, by4, ze4, Tryz.underlying23, sz23, by23, ze23, Tryz.underlying25, sz25, by25, ze25, fa25_0, Tryz.underlying41, sz41, by41, ze41, Tryz.underlying63, sz63, by63, ze63, fa63_0, fa63_1, fa63_2, fa63_3, fa63_4, fa63_5, fa63_6, fa63_7, Tryz.underlying82, sz82, by82, ze82, Tryz.underlying105, sz105, by105, ze105, planOf, go_sem, ↓reduceIte, reduceCtorEq, Nat.reduceEqDiff, Nat.reduceLT, ↓all_qV, Int.reduceToNat, Int.reduceLT, Int.reduceLE, Nat.reduceAdd, Nat.reduceLeDiff, Nat.reduceMul, ev_callG, gcallK_b, gcallK_w, callGc_true, callGc_false]
  refine ⟨⟨okL1, l, rfl, hl⟩, fun h1 => by rw [h1]; rfl, fun h1 => ?_⟩
  rw [h1]
  have h0 : lkF l = 0 := by simpa using h1
  have hbk := lk_bk h0
  have hv := book_bal en 0 d ac l [] (fun x hx => (hbk.1 x hx).2)
  have h2 : iget ac [] = 0 := rfl
  rw [h2, Int.zero_add] at hv
  refine AWp.permc (T := plan0) [83] [0, 1, 2, 3, 4, 5, 6, 7, 8] (fun f ψ hf hψ => ?_) (by kernel_rfl) rfl ?_
  · rw [List.mem_singleton] at hf
    subst hf
    have : Ψo 83 = some (psiMap booksP) := rfl
    change Ψo 83 = some ψ at hψ
    rw [this] at hψ
    simp only [Option.some.injEq] at hψ
    rw [← hψ]; exact psiMap_neutral
  have hb1 : booksP [.sl (l.map psV), clV en 0 d] = ((∃ l1 en1 fr1 to1, [.sl (l.map psV), clV en 0 d] = [.sl (l1.map psV), clV en1 fr1 to1] ∧ bkOk l1), imV (bookF en 0 d [] l)) := by unfold booksP; rw [bkF_eq]
  have sk := fun m => imV_keys (P := Tryz.prog) (t := 3) (fun a => keyI) m
  simp only [opsOf, List.filterMap_cons, List.filterMap_nil, List.getElem?_toArray, List.getElem?_cons_succ, List.getElem?_cons_zero, Ψo, psiMap_eq, hb1, imV_get, hv, k_OfS_41, lchkS, on_p_eq, k_OfS_84, ofS, on_iii_eq, List.take_succ_cons, List.take_nil, Tryz.underlying3, sz3, by3, ze3, Tryz.underlying4, sz4, by4, ze4, Tryz.underlying23, sz23, by23, ze23, Tryz.underlying25, sz25, by25, ze25, fa25_0, Tryz.underlying41, sz41, by41, ze41, Tryz.underlying63, sz63, by63, ze63, fa63_0, fa63_1, fa63_2, fa63_3, fa63_4, fa63_5, fa63_6, fa63_7, Tryz.underlying82, sz82, by82, ze82, Tryz.underlying105, sz105, by105, ze105, plan0, go_sem, ↓reduceIte, reduceCtorEq, Nat.reduceEqDiff, Nat.reduceLT, ↓all_qV, Int.reduceToNat, Int.reduceLT, Int.reduceLE, Nat.reduceAdd, Nat.reduceLeDiff, Nat.reduceMul, ev_callG, gcallK_b, gcallK_w, callGc_true, callGc_false, List.forall_mem_cons, List.not_mem_nil, PV.one, AV.one]
  exact ⟨⟨l, en, 0, d, rfl, hbk⟩, imV_flat _, sk _⟩
noncomputable def A9 (g : FuncId) : PSpec := (putΦ A8 67 OfS) g
theorem hA9 : TabSound GG A9 := (hA8.put w_OfS)
end Go.AM
