/-
  A part of a proof: see the last text of this claim for what is proved.
-/
import Derived.Test.YthdlbokgbkejnaaGreatDoorBM
namespace Go.AM
open Go
set_option linter.unusedSimpArgs false
set_option linter.unusedVariables false
theorem ev_rowlit0 {C : Ctx} {dr : Bool} {H0 : AHeap} {ops : Array Oper} {d : Tmp} {t ty : TypeId} {pos : String} {af : Array Edge} {st : ASt} {K : ASt → Prop} (h : C.rows.contains d = true) :
    stepX C dr H0 ops ⟨some d, .buildSlice t 0 #[], ty, pos, af, none⟩ st K = (match C.P.underlying t with
      | some (.slice e) => match szOf C.P e, zeroT C.P e with
        | some k, some z => 0 < k ∧ newB C.N st (some d) (.row k []) (fun d => .rs d 0) K
        | _, _ => False
      | _ => False) := by
  have hc : cls C dr ⟨some d, .buildSlice t 0 #[], ty, pos, af, none⟩ = 2 := by
    unfold cls
    simp only [h, if_true]
  unfold stepX stepG
  simp only [hc]
  simp only [guardC, effA, rowLit]
  cases C.P.underlying t with
  | none => rfl
  | some u =>
    cases u <;> try rfl
    rename_i e
    simp only
    cases szOf C.P e <;> cases zeroT C.P e <;> simp [allC, idxOk, elemOk]
end Go.AM
namespace Go.AM
open Go
set_option linter.unusedSimpArgs false
set_option linter.unusedVariables false
def Stop (N : Nat) (st : ASt) (d : Option Tmp) (r : AV) (K : ASt → Prop) : Prop := putD N st d r K
theorem Stop_eq {N : Nat} {st : ASt} {d : Option Tmp} {r : AV} {K : ASt → Prop} : Stop N st d r K = putD N st d r K := rfl
theorem all_qVz {J : List PV → Prop} {pre : List PV → Prop} {α : Type} {val : α → PV} {ok : List PV → α → Prop} {κ : Nat} {rest : List AV} {H : AHeap} {N : Nat} {st : ASt} {d : Option Tmp} {K : ASt → Prop} :
    (∀ r, (qV J pre val ok (.ptr κ 0 :: rest) H).2 r → putD N st d r K) = ∀ x, ok (frzL H rest) x → Stop N st d (.pv (val x)) K := all_qV
theorem all_qVz' {J : List PV → Prop} {pre : List PV → Prop} {α : Type} {val : α → PV} {ok : List PV → α → Prop} {κ : Nat} {rest : List AV} {H : AHeap} {N : Nat} {st : ASt} {d : Option Tmp} {K : ASt → Prop} :
    (∀ r, (qV J pre val ok (.ptr κ 0 :: rest) H).2 r → putD N st d (mkW true r) K) = ∀ x, ok (frzL H rest) x → Stop N st d (.whn true (.pv (val x))) K := all_qV
def callGc (N : Nat) (st : ASt) (d : Option Tmp) (c : Bool) (ok : Prop) (q : Prop × (AV → Prop)) (v0 : AV) (K : ASt → Prop) : Prop :=
  (c = true → ok ∧ q.1) ∧ ∀ r, (c = true → q.2 r) → (c = false → r = v0) → putD N st d (mkW c r) K
theorem callGc_true {N : Nat} {st : ASt} {d : Option Tmp} {ok : Prop} {q : Prop × (AV → Prop)} {v0 : AV} {K : ASt → Prop} :
    callGc N st d true ok q v0 K = (ok ∧ q.1 ∧ ∀ r, q.2 r → putD N st d (mkW true r) K) := by
  unfold callGc
  exact propext ⟨fun h => ⟨(h.1 rfl).1, (h.1 rfl).2, fun r hr => h.2 r (fun _ => hr) (fun e => by cases e)⟩, fun h => ⟨fun _ => ⟨h.1, h.2.1⟩, fun r hr _ => h.2.2 r (hr rfl)⟩⟩
theorem callGc_false {N : Nat} {st : ASt} {d : Option Tmp} {ok : Prop} {q : Prop × (AV → Prop)} {v0 : AV} {K : ASt → Prop} :
    callGc N st d false ok q v0 K = putD N st d (mkW false v0) K := by
  unfold callGc
  exact propext ⟨fun h => h.2 v0 (fun e => by cases e) (fun _ => rfl), fun h => ⟨(fun e => by cases e), (fun r _ hr => by rw [hr rfl]; exact h)⟩⟩
def gcallK (C : Ctx) (st : ASt) (d : Option Tmp) (g : AV) (b : Bool) (args : List AV) (ok : Prop) (v0 : AV) (K : ASt → Prop) (x : Prop) : Option ESpec → Option QSpec → Prop
  | none, some θ => match g with
    | .pv (.bool t) => callGc C.N st d (t == b) ok (θ args st.H) v0 K
    | .whn c (.pv (.bool t)) => callGc C.N st d (c && (t == b)) ok (θ args st.H) v0 K
    | _ => False
  | _, _ => x
section
variable {C : Ctx} {dr : Bool} {H0 : AHeap} {ops : Array Oper} {st : ASt} {K : ASt → Prop}
def stepH (C : Ctx) (dr : Bool) (H0 : AHeap) (ops : Array Oper) (o : Oper) (st : ASt) (K : ASt → Prop) : Prop := stepG C dr H0 ops o st K
theorem ev_callG {d : Option Tmp} {f : FuncId} {args : Array Operand} {ts : Array TypeId} {ty : TypeId} {pos : String} {af : Array Edge} {j : Nat} {b : Bool} :
    stepX C dr H0 ops ⟨d, .call { callee := .value (.func f), args := args, argTypes := ts }, ty, pos, af, some (j, b)⟩ st K =
      gcallK C st d (gAt ops j st.ρ) b (mapV st.ρ args.toList) (allC st.ρ args.toList) (aopP C st.ρ (bif dr then H0 else st.H) (.call { callee := .value (.func f), args := args, argTypes := ts })).2 K
        (stepH C dr H0 ops ⟨d, .call { callee := .value (.func f), args := args, argTypes := ts }, ty, pos, af, some (j, b)⟩ st K) (C.Ψ f) (C.Θ f) := by
  rw [mapV_eq]
  have e1 : oc st.ρ (.func f) = True := rfl
  have e2 : ox st.ρ (.func f) = .pv (.fn f []) := rfl
  unfold stepX
  cases hψ : C.Ψ f with
  | some ψ => rfl
  | none =>
    cases hθ : C.Θ f with
    | none => rfl
    | some θ =>
      have main : ∀ c : Bool, stepQ C (bif dr then H0 else st.H) ⟨d, .call { callee := .value (.func f), args := args, argTypes := ts }, ty, pos, af, some (j, b)⟩ c st K =
          callGc C.N st d c (allC st.ρ args.toList) (θ (args.toList.map (ox st.ρ)) st.H) (aopP C st.ρ (bif dr then H0 else st.H) (.call { callee := .value (.func f), args := args, argTypes := ts })).2 K := by
        intro c
        simp only [stepQ, qop, e1, e2, calleeA, hθ, List.map_nil, List.append_nil, true_and, and_assoc, callGc]
      unfold stepG
      simp only [cls, hψ, Option.isSome_none, Bool.false_eq_true, if_false, if_true, guardC, gcallK, gAt]
      cases hj : (ops[j]?).bind (·.dst) with
      | none => rfl
      | some g =>
        simp only
        cases hv : st.ρ g with
        | pv p => cases p <;> simp only <;> exact main _
        | whn c v => cases v <;> try rfl
                     rename_i p; cases p <;> first | rfl | exact main _
        | _ => rfl
theorem gcallK_b {d : Option Tmp} {t b : Bool} {args : List AV} {ok : Prop} {v0 : AV} {x : Prop} {θ : QSpec} : gcallK C st d (.pv (.bool t)) b args ok v0 K x none (some θ) = callGc C.N st d (t == b) ok (θ args st.H) v0 K := rfl
theorem gcallK_w {d : Option Tmp} {c t b : Bool} {args : List AV} {ok : Prop} {v0 : AV} {x : Prop} {θ : QSpec} : gcallK C st d (.whn c (.pv (.bool t))) b args ok v0 K x none (some θ) = callGc C.N st d (c && (t == b)) ok (θ args st.H) v0 K := rfl
end
end Go.AM
namespace Go.AM
open Go
set_option linter.unusedSimpArgs false
set_option linter.unusedVariables false
end Go.AM
namespace Go.AM
open Go
set_option linter.unusedSimpArgs false
set_option linter.unusedVariables false
def callTK (C : Ctx) (st : ASt) (d : Option Tmp) (v : AV) (pv : Prop × AV) (K : ASt → Prop) (x : Prop) : Prop :=
  match v with
  | .pv (.fn g _) => match C.Ψ g, C.Θ g with
    | none, none => pv.1 ∧ putD C.N st d pv.2 K
    | _, _ => x
  | .clo g _ => match C.Ψ g, C.Θ g with
    | none, none => pv.1 ∧ putD C.N st d pv.2 K
    | _, _ => x
  | .pv (.mv _ _) => pv.1 ∧ putD C.N st d pv.2 K
  | _ => x
section
variable {C : Ctx} {dr : Bool} {H0 : AHeap} {ops : Array Oper} {st : ASt} {K : ASt → Prop}
theorem ev_callT_main {d : Option Tmp} {t : Tmp} {args : Array Operand} {ts : Array TypeId} {ty : TypeId} {pos : String} {af : Array Edge} {g : FuncId} {caps : List AV} (hv : calleeA (ox st.ρ (.tmp t)) = some (g, caps)) (hψ : C.Ψ g = none) (hθ : C.Θ g = none) :
    stepX C dr H0 ops ⟨d, .call { callee := .value (.tmp t), args := args, argTypes := ts }, ty, pos, af, none⟩ st K =
      ((aopP C st.ρ st.H (.call { callee := .value (.tmp t), args := args, argTypes := ts })).1 ∧ putD C.N st d (aopP C st.ρ st.H (.call { callee := .value (.tmp t), args := args, argTypes := ts })).2 K) := by
  have hq : qop C st.ρ st.H ⟨d, .call { callee := .value (.tmp t), args := args, argTypes := ts }, ty, pos, af, none⟩ =
      ((aopP C st.ρ st.H (.call { callee := .value (.tmp t), args := args, argTypes := ts })).1, fun r => r = (aopP C st.ρ st.H (.call { callee := .value (.tmp t), args := args, argTypes := ts })).2) := by
    simp only [qop, hv, hθ]
  have main : ((qop C st.ρ st.H ⟨d, .call { callee := .value (.tmp t), args := args, argTypes := ts }, ty, pos, af, none⟩).1 ∧ ∀ r, (qop C st.ρ st.H ⟨d, .call { callee := .value (.tmp t), args := args, argTypes := ts }, ty, pos, af, none⟩).2 r → putD C.N st d r K) =
      ((aopP C st.ρ st.H (.call { callee := .value (.tmp t), args := args, argTypes := ts })).1 ∧ putD C.N st d (aopP C st.ρ st.H (.call { callee := .value (.tmp t), args := args, argTypes := ts })).2 K) := by
    rw [hq]
    exact propext ⟨fun h => ⟨h.1, h.2 _ rfl⟩, fun h => ⟨h.1, fun r hr => by subst hr; exact h.2⟩⟩
  rw [← main]
  unfold stepX stepG
  cases dr with
  | true => simp only [guardC, cls, if_true, stepQ]
  | false =>
    simp only [guardC, cls, effA, hv, hψ]
    rfl
theorem ev_callT_mv {d : Option Tmp} {t : Tmp} {args : Array Operand} {ts : Array TypeId} {ty : TypeId} {pos : String} {af : Array Edge} (hv : calleeA (ox st.ρ (.tmp t)) = none) :
    stepX C dr H0 ops ⟨d, .call { callee := .value (.tmp t), args := args, argTypes := ts }, ty, pos, af, none⟩ st K =
      ((aopP C st.ρ st.H (.call { callee := .value (.tmp t), args := args, argTypes := ts })).1 ∧ putD C.N st d (aopP C st.ρ st.H (.call { callee := .value (.tmp t), args := args, argTypes := ts })).2 K) := by
  have hq : qop C st.ρ st.H ⟨d, .call { callee := .value (.tmp t), args := args, argTypes := ts }, ty, pos, af, none⟩ =
      ((aopP C st.ρ st.H (.call { callee := .value (.tmp t), args := args, argTypes := ts })).1, fun r => r = (aopP C st.ρ st.H (.call { callee := .value (.tmp t), args := args, argTypes := ts })).2) := by
    simp only [qop, hv]
  have main : ((qop C st.ρ st.H ⟨d, .call { callee := .value (.tmp t), args := args, argTypes := ts }, ty, pos, af, none⟩).1 ∧ ∀ r, (qop C st.ρ st.H ⟨d, .call { callee := .value (.tmp t), args := args, argTypes := ts }, ty, pos, af, none⟩).2 r → putD C.N st d r K) =
      ((aopP C st.ρ st.H (.call { callee := .value (.tmp t), args := args, argTypes := ts })).1 ∧ putD C.N st d (aopP C st.ρ st.H (.call { callee := .value (.tmp t), args := args, argTypes := ts })).2 K) := by
    rw [hq]
    exact propext ⟨fun h => ⟨h.1, h.2 _ rfl⟩, fun h => ⟨h.1, fun r hr => by subst hr; exact h.2⟩⟩
  rw [← main]
  unfold stepX stepG
  cases dr with
  | true => simp only [guardC, cls, if_true, stepQ]
  | false =>
    simp only [guardC, cls, effA, hv]
    rfl
theorem ev_callT {d : Option Tmp} {t : Tmp} {args : Array Operand} {ts : Array TypeId} {ty : TypeId} {pos : String} {af : Array Edge} :
    stepX C dr H0 ops ⟨d, .call { callee := .value (.tmp t), args := args, argTypes := ts }, ty, pos, af, none⟩ st K =
      callTK C st d (ox st.ρ (.tmp t)) (aopP C st.ρ st.H (.call { callee := .value (.tmp t), args := args, argTypes := ts })) K
        (stepH C dr H0 ops ⟨d, .call { callee := .value (.tmp t), args := args, argTypes := ts }, ty, pos, af, none⟩ st K) := by
  unfold callTK
  split
  · rename_i g caps hv
    split
    · rename_i hψ hθ
      exact ev_callT_main (by rw [hv]; rfl) hψ hθ
    · rfl
  · rename_i g caps hv
    split
    · rename_i hψ hθ
      exact ev_callT_main (by rw [hv]; rfl) hψ hθ
    · rfl
  · rename_i hv
    exact ev_callT_mv (by rw [hv]; rfl)
  · rfl
theorem callP_fnc {H : AHeap} {f : FuncId} {c : PV} {cs : List PV} {args : List AV} : callP C H (.pv (.fn f (c :: cs))) args =
    (frzAll H (args ++ (.pv c :: cs.map AV.pv)) ∧ (callV (C.Φ f (frzL H (args ++ (.pv c :: cs.map AV.pv)))) (AV.freeL (args ++ (.pv c :: cs.map AV.pv)))).1, (callV (C.Φ f (frzL H (args ++ (.pv c :: cs.map AV.pv)))) (AV.freeL (args ++ (.pv c :: cs.map AV.pv)))).2) := by
  rw [frzL_eq, frzAll_eq]
  simp only [callP, calleeA, List.map_cons, callV]
end
end Go.AM
namespace Go.AM
open Go
set_option linter.unusedSimpArgs false
set_option linter.unusedVariables false
def fitF (κ : Nat) (es : List PV) : List (Nat × AV) → (Nat → AV) → Prop
  | [], _ => True
  | (s, v) :: r, ρ => (ρ s = v ∨ ∃ n, ρ s = .rs κ n ∧ n ≤ es.length ∧ v = .pv (.sl (es.take n))) ∧ fitF κ es r ρ
structure FitsF (pins : List Nat) (κ k : Nat) (es : List PV) (l : List (Nat × AV)) (H1 : AHeap) (st : ASt) : Prop where
  row : hget st.H κ = some (.row k es)
  gone : hget H1 κ = none
  slots : fitF κ es l st.ρ
  blocks : fitH H1 st.H
  refsR : refsR H1 l = true
  refsH : refsH H1 H1 = true
  pins : (pins.all fun κ => (hget H1 κ).isSome) = true
theorem fitF_look {κ : Nat} {es : List PV} : ∀ {l : List (Nat × AV)} {ρ : Nat → AV}, fitF κ es l ρ → ∀ s, look l s = .top ∨ look l s = ρ s ∨ ∃ n, ρ s = .rs κ n ∧ n ≤ es.length ∧ look l s = .pv (.sl (es.take n))
  | [], ρ, _, s => .inl rfl
  | (i, v) :: r, ρ, h, s => by
    unfold look
    split
    · rename_i e; subst e
      rcases h.1 with h1 | h1
      · exact .inr (.inl h1.symm)
      · exact .inr (.inr h1)
    · exact fitF_look h.2 s
section
variable {G : Glob} {E : Base} {S : (List PV → Prop × PV) → Value → Prop} {N : Nat} {st : ASt} {a : Array Value} {w : World} {L : Locs}
theorem Rel.fitF (h : Rel G E S N st a w L) {pins : List Nat} (hp : ∀ κ, (E.L0 κ).isSome = true → κ ∈ pins) {κ k : Nat} {es : List PV} {l : List (Nat × AV)} {H1 : AHeap} (hf : FitsF pins κ k es l H1 st) : Rel G E S N ⟨look l, H1⟩ a w L := by
  have hc := fitH_get hf.blocks
  have hm : ∀ b, Mut E L H1 b → Mut E L st.H b := fun b hm => hm.imp id (fun ⟨key, B, cap, h1, h2⟩ => ⟨key, B, cap, hc key B h1, h2⟩)
  have hk : Keeps w (Mut E L st.H) w (Mut E L H1) := fun b _ hn => ⟨rfl, fun h' => hn (hm b h')⟩
  refine ⟨h.size, h.ext, h.inv, h.glob, h.old, h.m0, fun key B b cap h1 h2 => h.own key B b cap (hc _ _ h1) h2,
    fun k1 k2 B1 B2 b c1 c2 h1 h2 h3 h4 => h.inj k1 k2 B1 B2 b c1 c2 (hc _ _ h1) (hc _ _ h2) h3 h4,
    fun key B h1 => (h.blk key B (hc _ _ h1)).fit rfl hk hc (refsH_get hf.refsH key B h1), fun s => ?_, fun κ b c hl => ?_⟩
  case refine_2 =>
    obtain ⟨h1, B, h2⟩ := h.fix κ b c hl
    obtain ⟨B', hB'⟩ := Option.isSome_iff_exists.1 (List.all_eq_true.1 hf.pins κ (hp κ (by rw [hl]; rfl)))
    have h4 := hc κ B' hB'
    rw [h2] at h4
    exact ⟨h1, B', hB'⟩
  rcases fitF_look hf.slots s with e | e | ⟨n, e1, hn, e2⟩
  · show AVRel _ _ _ _ _ (look l s) _
    rw [e]; exact .top _
  · have := (h.env s).fit hk hc (by rw [← e]; exact refsR_look hf.refsR s)
    show AVRel _ _ _ _ _ (look l s) _
    rw [e]; exact this
  · show AVRel _ _ _ _ _ (look l s) _
    rw [e2]
    have hx := h.env s
    rw [e1] at hx
    have hg : hget [(κ, ABlk.row k es)] κ = some (.row k es) := by simp [hget]
    have hB : ∀ key B, hget [(κ, ABlk.row k es)] key = some B → BRel w (Mut E L st.H) L [(κ, ABlk.row k es)] S key B := by
      intro key B hk'
      unfold hget at hk'
      split at hk'
      · rename_i e; subst e
        simp only [Option.some.injEq] at hk'; subst hk'
        exact h.blk _ _ hf.row
      · cases hk'
    have hown : ∀ key B b cap, hget [(κ, ABlk.row k es)] key = some B → L key = some (b, cap) → ¬ Mut E L H1 b := by
      intro key B b cap hk' hl hmm
      unfold hget at hk'
      split at hk'
      · rename_i e; subst e
        rcases hmm with hmm | ⟨key', B', cap', g1, g2⟩
        · exact (h.own _ _ _ _ hf.row hl).1 hmm
        · have := h.inj _ _ _ _ _ _ _ hf.row (hc _ _ g1) hl g2
          rw [← this, hf.gone] at g1; cases g1
      · cases hk'
    have hx2 : AVRel w (Mut E L st.H) L [(κ, ABlk.row k es)] S (.rs κ n) (a.getD s undef) := by
      generalize a.getD s undef = x at hx
      cases hx with
      | rsN key k' h1 h2 => rw [hf.row] at h1; obtain ⟨rfl, rfl⟩ : k = k' ∧ es = [] := by simpa using h1
                            exact .rsN _ _ hg h2
      | rs key hi k' es' b cap h1 h2 h3 => rw [hf.row] at h1; obtain ⟨rfl, rfl⟩ : k = k' ∧ es = es' := by simpa using h1
                                           exact .rs _ _ _ _ _ _ hg h2 h3
    have := frz_to hB hm hown 0 (.rs κ n) _ (by simp only [frzOk, hg]; exact hn) hx2
    simp only [frz, hg] at this
    exact .pv _ _ this
end
theorem AWp.freeze {C : Ctx} {T : Plan} {c : Code} {Q : AX → ASt → Prop} {st : ASt} {α : Type} (κ k : Nat) (es : α → List PV) (I : α → List (Nat × AV) × AHeap) (P : α → Prop)
    (h0 : ∃ z, P z ∧ FitsF C.pins κ k (es z) (I z).1 (I z).2 st) (h : ∀ z, P z → wpc C T c Q ⟨look (I z).1, (I z).2⟩) : AWp C c Q st := by
  intro G E r n hr hF hP0 a w L hR hd
  obtain ⟨z, hz, hf⟩ := h0
  exact wpc_sound c Q _ (h z hz) G E r n hr hF hP0 a w L (hR.fitF hP0 hf) hd
end Go.AM
