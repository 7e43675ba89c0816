/-
  A part of a proof: see the last text of this claim for what is proved.
-/
import Derived.Test.YteapbfeojedjoaaGreatDoorAMs
namespace Go.AM
open Go
set_option linter.unusedSimpArgs false
set_option linter.unusedVariables false

/-! ### Regions whose order is left open -/
section mono
variable {H H' : AHeap}
def Sub (H H' : AHeap) : Prop := ∀ key B, hget H key = some B → hget H' key = some B

theorem frz_mono (hs : Sub H H') : ∀ (n : Nat) (v : AV), frzOk H n v → frzOk H' n v ∧ frz H' n v = frz H n v := by
  intro n
  induction n with
  | zero =>
    intro v hk
    cases v <;> simp only [frzOk, frz] at hk ⊢ <;> try exact hk.elim
    case pv => first | exact ⟨trivial, rfl⟩ | exact ⟨trivial, trivial⟩
    case nils => first | exact ⟨trivial, rfl⟩ | exact ⟨trivial, trivial⟩
    case rs key hi =>
      split at hk
      · rename_i hH
        rw [hs _ _ hH]; first | exact ⟨hk, rfl⟩ | exact ⟨hk, trivial⟩
      · exact hk.elim
    case rv key lo hi =>
      split at hk
      · rename_i hH
        rw [hs _ _ hH]; first | exact ⟨hk, rfl⟩ | exact ⟨hk, trivial⟩
      · exact hk.elim
  | succ n ih =>
    intro v hk
    cases v <;> simp only [frzOk, frz] at hk ⊢ <;> try exact hk.elim
    case pv => first | exact ⟨trivial, rfl⟩ | exact ⟨trivial, trivial⟩
    case nils => first | exact ⟨trivial, rfl⟩ | exact ⟨trivial, trivial⟩
    case rs key hi =>
      split at hk
      · rename_i hH
        rw [hs _ _ hH]; first | exact ⟨hk, rfl⟩ | exact ⟨hk, trivial⟩
      · exact hk.elim
    case rv key lo hi =>
      split at hk
      · rename_i hH
        rw [hs _ _ hH]; first | exact ⟨hk, rfl⟩ | exact ⟨hk, trivial⟩
      · exact hk.elim
    case agg cs =>
      refine ⟨fun c hc => ⟨(hk c hc).1, (ih c (hk c hc).2).1⟩, ?_⟩
      congr 1
      exact List.map_congr_left fun c hc => (ih c (hk c hc).2).2
    case clo f caps =>
      refine ⟨fun c hc => (ih c (hk c hc)).1, ?_⟩
      congr 1
      exact List.map_congr_left fun c hc => (ih c (hk c hc)).2
    case ptr key off =>
      split at hk
      · rename_i cs hH
        rw [hs _ _ hH]
        refine ⟨fun c hc => ⟨(hk c hc).1, (ih c (hk c hc).2).1⟩, ?_⟩
        simp only
        congr 2
        exact List.map_congr_left fun c hc => (ih c (hk c hc).2).2
      · exact hk.elim
theorem frzL_mono (hs : Sub H H') {l : List AV} (h : ∀ v, v ∈ l → frzOk H 4 v) : (∀ v, v ∈ l → frzOk H' 4 v) ∧ l.map (frz H' 4) = l.map (frz H 4) :=
  ⟨fun v hv => (frz_mono hs 4 v (h v hv)).1, List.map_congr_left fun v hv => (frz_mono hs 4 v (h v hv)).2⟩
theorem elemOk_mono (hs : Sub H H') {k : Nat} : ∀ {l : List AV}, elemOk H k l → elemOk H' k l ∧ l.map (frz H' 4) = l.map (frz H 4)
  | [], _ => ⟨trivial, rfl⟩
  | v :: r, h => by
    obtain ⟨h1, h2⟩ := elemOk_mono hs h.2
    obtain ⟨h3, h4⟩ := frz_mono hs 4 v h.1.2.1
    exact ⟨⟨⟨h.1.1, h3, by rw [h4]; exact h.1.2.2.1, by rw [h4]; exact h.1.2.2.2⟩, h1⟩, by simp only [List.map_cons, h2, h4]⟩
theorem srcA_mono (hs : Sub H H') {v : AV} {es : List PV} (h : srcA H v = some es) : srcA H' v = some es := by
  unfold srcA at h ⊢
  split at h
  · exact h
  · exact h
  · exact h
  · split at h
    · rename_i hH; rw [hs _ _ hH]; exact h
    · cases h
  · split at h
    · rename_i hH; rw [hs _ _ hH]; exact h
    · cases h
  · cases h

theorem makeFuncA_mono (hs : Sub H H') {fn : Fn} {f0 caps : List AV} (h : (makeFuncA H fn f0 caps).1) : (makeFuncA H' fn f0 caps).1 ∧ (makeFuncA H' fn f0 caps).2 = (makeFuncA H fn f0 caps).2 := by
  cases f0 with
  | nil => exact ⟨by cases fn <;> exact h, by cases fn <;> rfl⟩
  | cons x r =>
    cases fn <;> first | exact h.elim | skip
    cases caps with
    | cons => exact h.elim
    | nil =>
      obtain ⟨h1, h2⟩ := h
      obtain ⟨m1, m2⟩ := frzL_mono hs h2
      exact ⟨⟨h1, m1⟩, congrArg (fun l => AV.pv (.mv _ l)) m2⟩
theorem aopP_mono (C : Ctx) (ρ : Nat → AV) (hs : Sub H H') (op : Op) (h : (aopP C ρ H op).1) : (aopP C ρ H' op).1 ∧ (aopP C ρ H' op).2 = (aopP C ρ H op).2 := by
  have hcall : ∀ (c : AV) (args : List AV), (callP C H c args).1 → (callP C H' c args).1 ∧ (callP C H' c args).2 = (callP C H c args).2 := by
    intro c args h
    unfold callP at h ⊢
    split at h
    · obtain ⟨h1, h2, h3⟩ := h
      obtain ⟨m1, m2⟩ := frzL_mono hs h1
      simp only [m2]; exact ⟨⟨m1, h2, h3⟩, trivial⟩
    · obtain ⟨h1, h2, h3⟩ := h
      obtain ⟨m1, m2⟩ := frzL_mono hs h1
      simp only [m2]; exact ⟨⟨m1, h2, h3⟩, trivial⟩
    · split at h
      · obtain ⟨h1, h2, h3⟩ := h
        obtain ⟨m1, m2⟩ := frzL_mono hs h1
        simp only [m2]; exact ⟨⟨m1, h2, h3⟩, trivial⟩
      · exact h.elim
  cases op <;> simp only [aopP] at h ⊢ <;> try exact h.elim
  case move | assign | pick | binOp | unOp | extract | field | fieldAddr | index | nilCheck | slice | makeInterface | build => first | exact ⟨h, rfl⟩ | exact ⟨h, trivial⟩
  case makeFunc fn first caps =>
    obtain ⟨h1, h2⟩ := h
    obtain ⟨m1, m2⟩ := makeFuncA_mono hs h2
    exact ⟨⟨h1, m1⟩, m2⟩
  case convert s d x =>
    obtain ⟨h1, h2⟩ := h
    unfold convA at h2 ⊢
    split at h2
    · split at h2
      · rename_i hsrc
        rw [srcA_mono hs hsrc]; first | exact ⟨⟨h1, h2⟩, rfl⟩ | exact ⟨⟨h1, h2⟩, trivial⟩
      · exact h2.elim
    · first | exact ⟨⟨h1, h2⟩, rfl⟩ | exact ⟨⟨h1, h2⟩, trivial⟩
  case indexAddr t x i =>
    obtain ⟨h1, h2, h3⟩ := h
    unfold indexAddrA at h3 ⊢
    split at h3
    · first | exact ⟨⟨h1, h2, h3⟩, rfl⟩ | exact ⟨⟨h1, h2, h3⟩, trivial⟩
    · split at h3
      · rename_i hH; rw [hs _ _ hH]; first | exact ⟨⟨h1, h2, h3⟩, rfl⟩ | exact ⟨⟨h1, h2, h3⟩, trivial⟩
      · exact h3.elim
    · split at h3
      · rename_i hH; rw [hs _ _ hH]; first | exact ⟨⟨h1, h2, h3⟩, rfl⟩ | exact ⟨⟨h1, h2, h3⟩, trivial⟩
      · exact h3.elim
    · first | exact ⟨⟨h1, h2, h3⟩, rfl⟩ | exact ⟨⟨h1, h2, h3⟩, trivial⟩
    · exact h3.elim
  case load t x =>
    obtain ⟨h1, h2⟩ := h
    unfold loadA at h2 ⊢
    split at h2
    · split at h2
      · rename_i hH; rw [hs _ _ hH]; first | exact ⟨⟨h1, h2⟩, rfl⟩ | exact ⟨⟨h1, h2⟩, trivial⟩
      · exact h2.elim
    · split at h2
      · rename_i hH; rw [hs _ _ hH]; first | exact ⟨⟨h1, h2⟩, rfl⟩ | exact ⟨⟨h1, h2⟩, trivial⟩
      · exact h2.elim
    · first | exact ⟨⟨h1, h2⟩, rfl⟩ | exact ⟨⟨h1, h2⟩, trivial⟩
    · exact h2.elim
  case lookup t m k ok =>
    obtain ⟨h1, h2, h3⟩ := h
    unfold lookupA at h3 ⊢
    split at h3
    · split at h3
      · rename_i hH hz; rw [hs _ _ hH, hz]; first | exact ⟨⟨h1, h2, h3⟩, rfl⟩ | exact ⟨⟨h1, h2, h3⟩, trivial⟩
      · exact h3.elim
    · exact h3.elim
  case buildSlice t len parts =>
    obtain ⟨h1, h2⟩ := h
    unfold buildSliceA at h2 ⊢
    split at h2
    · split at h2
      · obtain ⟨g1, g2, g3, g4, g5⟩ := h2
        obtain ⟨m1, m2⟩ := elemOk_mono hs g5
        simp only [m2]
        exact ⟨⟨h1, g1, g2, g3, g4, m1⟩, trivial⟩
      · exact h2.elim
    · exact h2.elim
  case call c =>
    obtain ⟨callee, args, ts⟩ := c
    cases callee with
    | value f =>
      obtain ⟨h1, h2, h3⟩ := h
      obtain ⟨m1, m2⟩ := hcall _ _ h3
      exact ⟨⟨h1, h2, m1⟩, m2⟩
    | invoke r m => exact h.elim
    | builtin b =>
      cases b <;> simp only [aopP] at h ⊢ <;> try exact h.elim
      case len =>
        split at h
        · obtain ⟨h1, h2⟩ := h
          unfold lenA at h2 ⊢
          split at h2
          · first | exact ⟨⟨h1, h2⟩, rfl⟩ | exact ⟨⟨h1, h2⟩, trivial⟩
          · first | exact ⟨⟨h1, h2⟩, rfl⟩ | exact ⟨⟨h1, h2⟩, trivial⟩
          · first | exact ⟨⟨h1, h2⟩, rfl⟩ | exact ⟨⟨h1, h2⟩, trivial⟩
          · split at h2
            · rename_i hH; rw [hs _ _ hH]; first | exact ⟨⟨h1, h2⟩, rfl⟩ | exact ⟨⟨h1, h2⟩, trivial⟩
            · exact h2.elim
          · split at h2
            · rename_i hH; rw [hs _ _ hH]; first | exact ⟨⟨h1, h2⟩, rfl⟩ | exact ⟨⟨h1, h2⟩, trivial⟩
            · exact h2.elim
          · exact h2.elim
        · exact h.elim
      case min => first | exact ⟨h, rfl⟩ | exact ⟨h, trivial⟩
      case max => first | exact ⟨h, rfl⟩ | exact ⟨h, trivial⟩

/-- What is looked at alone matters. -/
theorem allC_congr {ρ ρ' : Nat → AV} {l : List Operand} (h : ∀ x, x ∈ l → opndV ρ x = opndV ρ' x) : allC ρ l = allC ρ' l := by
  induction l with
  | nil => rfl
  | cons y r ih => simp only [allC, oc, h y List.mem_cons_self, ih (fun x hx => h x (List.mem_cons_of_mem _ hx))]
theorem mapox_congr {ρ ρ' : Nat → AV} {l : List Operand} (h : ∀ x, x ∈ l → opndV ρ x = opndV ρ' x) : l.map (ox ρ) = l.map (ox ρ') :=
  List.map_congr_left fun x hx => by simp only [ox, h x hx]
theorem aopP_congr (C : Ctx) {ρ ρ' : Nat → AV} (H : AHeap) (op : Op) (h : ∀ x, x ∈ op.operands.toList → opndV ρ x = opndV ρ' x) : aopP C ρ H op = aopP C ρ' H op := by
  have one : ∀ {x : Operand}, opndV ρ x = opndV ρ' x → oc ρ x = oc ρ' x ∧ ox ρ x = ox ρ' x := fun e => ⟨by simp only [oc, e], by simp only [ox, e]⟩
  cases op <;> simp only [Op.operands] at h <;> simp only [aopP]
  case move x => rw [h x (by simp)]
  case assign x => rw [h x (by simp)]
  case pick c a b =>
    unfold pickA
    rw [(one (h c (by simp))).1, (one (h c (by simp))).2, (one (h a (by simp))).1, (one (h a (by simp))).2, (one (h b (by simp))).1, (one (h b (by simp))).2]
  case binOp op t x y ty => rw [(one (h x (by simp))).1, (one (h x (by simp))).2, (one (h y (by simp))).1, (one (h y (by simp))).2]
  case unOp op t x => rw [(one (h x (by simp))).1, (one (h x (by simp))).2]
  case convert s d x => rw [(one (h x (by simp))).1, (one (h x (by simp))).2]
  case extract x i => rw [(one (h x (by simp))).1, (one (h x (by simp))).2]
  case field t x f => rw [(one (h x (by simp))).1, (one (h x (by simp))).2]
  case fieldAddr t x f => rw [(one (h x (by simp))).1, (one (h x (by simp))).2]
  case indexAddr t x i => rw [(one (h x (by simp))).1, (one (h x (by simp))).2, (one (h i (by simp))).1, (one (h i (by simp))).2]
  case index t x i => rw [(one (h x (by simp))).1, (one (h x (by simp))).2, (one (h i (by simp))).1, (one (h i (by simp))).2]
  case lookup t x i ok => rw [(one (h x (by simp))).1, (one (h x (by simp))).2, (one (h i (by simp))).1, (one (h i (by simp))).2]
  case load t x => rw [(one (h x (by simp))).1, (one (h x (by simp))).2]
  case nilCheck x => rw [(one (h x (by simp))).1, (one (h x (by simp))).2]
  case makeInterface t x => rw [(one (h x (by simp))).1, (one (h x (by simp))).2]
  case slice t x lo hi mx =>
    have hlo : lo.map (ox ρ) = lo.map (ox ρ') := by cases lo with | none => rfl | some y => simp only [Option.map_some, (one (h y (by simp))).2]
    have hhi : hi.map (ox ρ) = hi.map (ox ρ') := by cases hi with | none => rfl | some y => simp only [Option.map_some, (one (h y (by simp))).2]
    have hmx : mx.map (ox ρ) = mx.map (ox ρ') := by cases mx with | none => rfl | some y => simp only [Option.map_some, (one (h y (by simp))).2]
    rw [(one (h x (by simp))).1, (one (h x (by simp))).2, hlo, hhi, hmx, allC_congr (ρ := ρ) (ρ' := ρ') (fun y hy => h y (by simp at hy ⊢; exact .inr hy))]
  case makeFunc fn first caps =>
    rw [allC_congr (ρ := ρ) (ρ' := ρ') (fun y hy => h y (by simpa using hy)), mapox_congr (ρ := ρ) (ρ' := ρ') (l := first.toList) (fun y hy => h y (by simp at hy ⊢; exact .inl hy)), mapox_congr (ρ := ρ) (ρ' := ρ') (l := caps.toList) (fun y hy => h y (by simp at hy ⊢; exact .inr hy))]
  case build t parts =>
    have hp : (parts.toList.map fun x => (x.1, ox ρ x.2)) = parts.toList.map fun x => (x.1, ox ρ' x.2) := List.map_congr_left fun x hx => by rw [(one (h x.2 (List.mem_map.2 ⟨x, hx, rfl⟩))).2]
    rw [hp, allC_congr (ρ := ρ) (ρ' := ρ') (fun y hy => h y (by simpa using hy))]
  case buildSlice t len parts =>
    have hp : (parts.toList.map fun x => (x.1, ox ρ x.2)) = parts.toList.map fun x => (x.1, ox ρ' x.2) := List.map_congr_left fun x hx => by rw [(one (h x.2 (List.mem_map.2 ⟨x, hx, rfl⟩))).2]
    rw [hp, allC_congr (ρ := ρ) (ρ' := ρ') (fun y hy => h y (by simpa using hy))]
  case call c =>
    obtain ⟨callee, args, ts⟩ := c
    cases callee with
    | value f =>
      simp only [Call.operands] at h
      change (oc ρ f ∧ allC ρ args.toList ∧ (callP C H (ox ρ f) (args.toList.map (ox ρ))).1, (callP C H (ox ρ f) (args.toList.map (ox ρ))).2) = (oc ρ' f ∧ allC ρ' args.toList ∧ (callP C H (ox ρ' f) (args.toList.map (ox ρ'))).1, (callP C H (ox ρ' f) (args.toList.map (ox ρ'))).2)
      rw [(one (h f (by simp))).1, (one (h f (by simp))).2, allC_congr (ρ := ρ) (ρ' := ρ') (l := args.toList) (fun y hy => h y (by simp; right; simpa using hy)), mapox_congr (ρ := ρ) (ρ' := ρ') (l := args.toList) (fun y hy => h y (by simp; right; simpa using hy))]
    | invoke r m => rfl
    | builtin b =>
      simp only [Call.operands] at h
      have ha : ∀ y, y ∈ args.toList → opndV ρ y = opndV ρ' y := fun y hy => h y (by simpa using hy)
      cases b <;> simp only [aopP]
      case len =>
        split
        · rename_i x t hx ht
          have := one (ha x (by rw [hx]; simp))
          rw [this.1, this.2]
        · rfl
      case min => rw [allC_congr ha, mapox_congr ha]
      case max => rw [allC_congr ha, mapox_congr ha]
end mono
end Go.AM
