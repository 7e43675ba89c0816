/-
  A part of a proof: see the last text of this claim for what is proved.
-/
import Derived.Test.YtamiheckgglgaaaDoorBMb
namespace Go.AM
open Go
set_option linter.unusedSimpArgs false
set_option linter.unusedVariables false

/-! ### A nil slice that will grow, as a row of the call's own -/
section
variable {G : Glob} {E : Base} {S : (List PV → Prop × PV) → Value → Prop} {N : Nat} {st : ASt} {a : Array Value} {w : World} {L : Locs}
theorem Rel.emptyRow (hR : Rel G E S N st a w L) {d k : Nat} (p1 : hget st.H d = none) (hk0 : 0 < k) :
    Rel G E S N { st with H := hset st.H d (.row k []) } a w (locSet L d none) := by
  have hne : ∀ key B, hget st.H key = some B → key ≠ d := fun key B hb e => by rw [e, p1] at hb; cases hb
  have hc : ∀ key B0, hget st.H key = some B0 → ∃ B', hget (hset st.H d (.row k [])) key = some B' ∧ B0.le B' ∧ (locSet L d none) key = L key ∧ (L key = none → B0 = B') :=
    fun key B0 hb => ⟨B0, by rw [hget_hset_ne _ _ (Ne.symm (hne key B0 hb))]; exact hb, ABlk.le_refl _, by simp [locSet, hne key B0 hb], fun _ => rfl⟩
  have hget : ∀ key B0, hget (hset st.H d (.row k [])) key = some B0 → ∀ b c, (locSet L d none) key = some (b, c) → hget st.H key = some B0 ∧ L key = some (b, c) ∧ key ≠ d := by
    intro key B0 hb b c hl
    by_cases e : key = d
    · subst e; simp [locSet] at hl
    · rw [hget_hset_ne _ _ (Ne.symm e)] at hb
      simp only [locSet, e, if_false] at hl
      exact ⟨hb, hl, e⟩
  have hk' : Keeps w (Mut E L st.H) w (Mut E (locSet L d none) (hset st.H d (.row k []))) := fun b hb hm => ⟨rfl, fun hm' => hm (by
    rcases hm' with hX | ⟨key, B0, c0, m1, m2⟩
    · exact .inl hX
    · obtain ⟨m3, m4, _⟩ := hget key B0 m1 b c0 m2
      exact .inr ⟨key, B0, c0, m3, m4⟩)⟩
  exact
    { size := hR.size, ext := hR.ext, inv := hR.inv, glob := hR.glob, old := hR.old, m0 := hR.m0
      own := fun key B b c m1 m2 => by obtain ⟨m3, m4, _⟩ := hget key B m1 b c m2; exact hR.own key B b c m3 m4
      inj := fun k1 k2 B1 B2 b c1 c2 m1 m2 m3 m4 => by
        obtain ⟨n1, n2, _⟩ := hget k1 B1 m1 b c1 m3
        obtain ⟨n3, n4, _⟩ := hget k2 B2 m2 b c2 m4
        exact hR.inj k1 k2 B1 B2 b c1 c2 n1 n3 n2 n4
      blk := fun key B hb => by
        by_cases e : key = d
        · subst e
          simp only [hget_hset_same, Option.some.injEq] at hb
          subst hb
          simp [BRel, locSet, hk0]
        · have hb' := hb
          simp only [hget_hset_ne _ _ (Ne.symm e)] at hb'
          exact (hR.blk key B hb').keepAll hk' hc (fun _ _ _ => rfl) (by simp [locSet, e])
      env := fun s => (hR.env s).keep hk' (fun _ _ h => h) hc
      fix := fun k b c hl => by
        obtain ⟨f1, B0, f2⟩ := hR.fix k b c hl
        have e := hne k B0 f2
        exact ⟨by simp [locSet, e, f1], B0, by rw [hget_hset_ne _ _ (Ne.symm e)]; exact f2⟩ }
end
section
variable {C : Ctx} {c : Code} {Q : AX → ASt → Prop} {st : ASt}
theorem AWp.adoptS {s κ k : Nat} (h1 : st.ρ s = .nils) (h2 : hget st.H κ = none) (h3 : 0 < k) (h : AWp C c Q ⟨upd st.ρ s (.rs κ 0), hset st.H κ (.row k [])⟩) : AWp C c Q st := by
  intro G E r n hr hF hP0 a w L hR hd
  have hR' := hR.emptyRow h2 h3
  refine h G E r n hr hF hP0 a w (locSet L κ none) ⟨hR'.size, hR'.ext, hR'.inv, hR'.glob, hR'.old, hR'.m0, hR'.own, hR'.inj, hR'.blk, fun t => ?_, hR'.fix⟩ hd
  show AVRel _ _ _ _ _ (upd st.ρ s (.rs κ 0) t) _
  unfold upd
  split
  · rename_i e
    subst e
    have hx := hR.env t
    rw [h1] at hx
    cases hx' : a.tmps.getD t undef <;> rw [hx'] at hx <;> cases hx
    exact .rsN κ k (hget_hset_same _ _ _) (by simp [locSet])
  · exact hR'.env t
theorem AWp.adoptC {b i κ k : Nat} {cs : List AV} (h1 : hget st.H b = some (.cells cs)) (h0 : cs[i]? = some .nils) (h2 : hget st.H κ = none) (h3 : 0 < k)
    (h : AWp C c Q ⟨st.ρ, hset (hset st.H κ (.row k [])) b (.cells (cs.set i (.rs κ 0)))⟩) : AWp C c Q st := by
  intro G E r n hr hF hP0 a w L hR hd
  have hR' := hR.emptyRow h2 h3
  have hne : b ≠ κ := fun e => by subst e; rw [h2] at h1; cases h1
  have h1' : hget (hset st.H κ (.row k [])) b = some (.cells cs) := by rw [hget_hset_ne _ _ (Ne.symm hne)]; exact h1
  have hb0 := hR'.blk b _ h1'
  obtain ⟨bb, cap, arr, et, e1, e2, e3, e4⟩ := hb0
  refine h G E r n hr hF hP0 a w (locSet L κ none) (hR'.writeBlock (w' := w) (B := .cells cs) h1' e1 (by simp [ABlk.le]) (fun _ _ => rfl) rfl rfl rfl rfl (fun _ => rfl) (fun M' H' hk hc => ?_)) hd
  refine ⟨bb, cap, arr, et, e1, e2, by simpa using e3, fun j v hv => ?_⟩
  rw [List.getElem?_set] at hv
  split at hv
  · rename_i e
    subst e
    split at hv
    · simp only [Option.some.injEq] at hv
      subst hv
      have hx := e4 i .nils h0
      cases hx' : arr.getD i undef <;> rw [hx'] at hx <;> cases hx
      obtain ⟨B', hB', hle, hL, he⟩ := hc κ (.row k []) (hget_hset_same _ _ _)
      have := he (by simp [locSet])
      subst this
      exact .rsN κ k hB' (by simp [locSet])
    · cases hv
  · exact (e4 j v hv).keep hk (fun _ _ h => h) hc
end

/-! ### Calls that draw from the tape, or write -/
def callK (C : Ctx) (st : ASt) (d : Option Tmp) (args : List AV) (ok : Prop) (pv : Prop × AV) (K : ASt → Prop) : Option ESpec → Option QSpec → Prop
  | some ψ, _ => ok ∧ ψ (d.getD 0) args st (fun r st' => putD C.N st' d r K)
  | none, some θ => ok ∧ (θ args st.H).1 ∧ ∀ r, (θ args st.H).2 r → putD C.N st d r K
  | none, none => pv.1 ∧ putD C.N st d pv.2 K
section
variable {C : Ctx} {dr : Bool} {H0 : AHeap} {ops : Array Oper} {st : ASt} {K : ASt → Prop}
theorem ev_call {d : Option Tmp} {f : FuncId} {args : Array Operand} {ts : Array TypeId} {ty : TypeId} {pos : String} {af : Array Edge} :
    stepX C dr H0 ops ⟨d, .call { callee := .value (.func f), args := args, argTypes := ts }, ty, pos, af, none⟩ st K =
      callK C st d (mapV st.ρ args.toList) (allC st.ρ args.toList) (aopP C st.ρ st.H (.call { callee := .value (.func f), args := args, argTypes := ts })) K (C.Ψ f) (C.Θ f) := by
  rw [mapV_eq]
  have e1 : oc st.ρ (.func f) = True := rfl
  have e2 : ox st.ρ (.func f) = .pv (.fn f []) := rfl
  unfold stepX stepG callK
  cases hψ : C.Ψ f with
  | some ψ =>
    simp only [guardC, cls, hψ, Option.isSome_some, if_true, effA, aopE, e1, e2, calleeA, List.map_nil, List.append_nil, true_and]
    rfl
  | none =>
    cases hθ : C.Θ f with
    | some θ =>
      simp only [guardC, cls, hψ, Option.isSome_none, Bool.false_eq_true, if_false, if_true, stepQ, qop, e1, e2, calleeA, hθ, List.map_nil, List.append_nil, true_and, and_assoc]
    | none =>
      simp only [guardC, cls, hψ, Option.isSome_none, Bool.false_eq_true, if_false, if_true, stepQ, qop, e1, e2, calleeA, hθ]
      exact propext ⟨fun h => ⟨h.1, h.2 _ rfl⟩, fun h => ⟨h.1, fun r hr => by subst hr; exact h.2⟩⟩
theorem callK_E {d : Option Tmp} {args : List AV} {ok : Prop} {pv : Prop × AV} {ψ : ESpec} {θ : Option QSpec} : callK C st d args ok pv K (some ψ) θ = (ok ∧ ψ (d.getD 0) args st (fun r st' => putD C.N st' d r K)) := rfl
theorem callK_Q {d : Option Tmp} {args : List AV} {ok : Prop} {pv : Prop × AV} {θ : QSpec} : callK C st d args ok pv K none (some θ) = (ok ∧ (θ args st.H).1 ∧ ∀ r, (θ args st.H).2 r → putD C.N st d r K) := rfl
theorem callK_P {d : Option Tmp} {args : List AV} {ok : Prop} {pv : Prop × AV} : callK C st d args ok pv K none none = (pv.1 ∧ putD C.N st d pv.2 K) := rfl
end
theorem qT_ptr {J : List PV → Prop} {pre : List PV → Prop} {post : List PV → PV → Prop} {κ : Nat} {rest : List AV} {H : AHeap} : qT J pre post (.ptr κ 0 :: rest) H =
    (hget H κ = some (.obj J) ∧ AV.freeL rest = true ∧ frzAll H rest ∧ pre (frzL H rest), fun r => ∃ p, r = .pv p ∧ post (frzL H rest) p) := by
  rw [frzAll_eq, frzL_eq]; rfl
theorem all_pv {R : PV → Prop} {F : AV → Prop} : (∀ r, (∃ p, r = .pv p ∧ R p) → F r) = ∀ p, R p → F (.pv p) :=
  propext ⟨fun h p hp => h _ ⟨p, rfl, hp⟩, fun h r ⟨p, e, hp⟩ => by subst e; exact h p hp⟩
/-- Something of a kind: 'val x', for an x that is 'ok'. -/
def qV (J : List PV → Prop) (pre : List PV → Prop) {α : Type} (val : α → PV) (ok : List PV → α → Prop) : QSpec := qT J pre (fun args p => ∃ x, p = val x ∧ ok args x)
theorem qV_1 {J : List PV → Prop} {pre : List PV → Prop} {α : Type} {val : α → PV} {ok : List PV → α → Prop} {κ : Nat} {rest : List AV} {H : AHeap} : (qV J pre val ok (.ptr κ 0 :: rest) H).1 =
    (hget H κ = some (.obj J) ∧ AV.freeL rest = true ∧ frzAll H rest ∧ pre (frzL H rest)) := by
  unfold qV; rw [qT_ptr]
theorem all_qV {J : List PV → Prop} {pre : List PV → Prop} {α : Type} {val : α → PV} {ok : List PV → α → Prop} {κ : Nat} {rest : List AV} {H : AHeap} {F : AV → Prop} :
    (∀ r, (qV J pre val ok (.ptr κ 0 :: rest) H).2 r → F r) = ∀ x, ok (frzL H rest) x → F (.pv (val x)) := by
  unfold qV; rw [qT_ptr]
  exact propext ⟨fun h x hx => h _ ⟨_, rfl, x, rfl, hx⟩, fun h r ⟨p, e, x, e2, hx⟩ => by subst e; subst e2; exact h x hx⟩
theorem gt1 {p q : Prop} : (p → p ∧ q) = (p → q) := propext ⟨fun h hp => (h hp).2, fun h hp => ⟨hp, h hp⟩⟩
theorem gt2 {b : Bool} : (b = false → (!b) = true) = True := by cases b <;> simp
def killS (κ : Nat) : List (Nat × AV) → List (Nat × AV)
  | [] => []
  | (i, v) :: r => (i, v.kill κ) :: killS κ r
theorem killR_look {κ : Nat} {l : List (Nat × AV)} : killR κ (look l) = look (killS κ l) := by
  funext s
  induction l with
  | nil => rfl
  | cons x r ih =>
    obtain ⟨i, v⟩ := x
    show (look ((i, v) :: r) s).kill κ = look ((i, v.kill κ) :: killS κ r) s
    unfold look
    split
    · rfl
    · exact ih
/-- Here the tool stops. -/
def Later (p : Prop) : Prop := p
theorem Later_congr {p : Prop} : Later p = Later p := rfl
attribute [congr] Later_congr
theorem Later_eq {p : Prop} : Later p = p := rfl
theorem all_qVs {J : List PV → Prop} {pre : List PV → Prop} {α : Type} {val : α → PV} {ok : List PV → α → Prop} {κ : Nat} {rest : List AV} {H : AHeap} {F : AV → Prop} :
    (∀ r, (qV J pre val ok (.ptr κ 0 :: rest) H).2 r → F r) = ∀ x, ok (frzL H rest) x → Later (F (.pv (val x))) := all_qV
theorem QSound.of_wpcV {G : Glob} {C : Ctx} {f : FuncId} {fn : Func} {c : Code} {J : List PV → Prop} {pre : List PV → Prop} {α : Type} {val : α → PV} {ok : List PV → α → Prop} (κ0 : Nat)
    (hf : G.P.funcs[f]? = some fn) (hb : fn.body = some c) (hn : (fn.name == "runtime.NumGoroutine") = false) (hN : C.N = fn.ntmps) (hF : Fit G C) (hpins : C.pins = [κ0])
    (hin : ∀ args, pre args → ∃ x, ok args x)
    (h : ∀ args, pre args → args.length + 1 ≤ C.N ∧ AWp C c (FinQ C fn.results.toList κ0 J (fun p => ∃ x, p = val x ∧ ok args x)) ⟨look ((0, .ptr κ0 0) :: argL 1 args), [(κ0, .obj J)]⟩) (ho : C.outer = false := by rfl) : QSound G f (qV J pre val ok) :=
  QSound.of_wpc κ0 hf hb hn hN hF hpins (fun args h => let ⟨x, hx⟩ := hin args h; ⟨_, x, rfl, hx⟩) h ho
theorem psiNew_eq {J : List PV → Prop} {pre : List PV → Prop} {d : Nat} {args : List AV} {ρ : Nat → AV} {H : AHeap} {K : AV → ASt → Prop} : psiNew J pre d args ⟨ρ, H⟩ K =
    (AV.freeL args = true ∧ frzAll H args ∧ pre (frzL H args) ∧ hget H d = none ∧ K (.ptr d 0) ⟨ρ, hset H d (.obj J)⟩) := by
  rw [frzAll_eq, frzL_eq]; rfl
/-! ### Tables -/
def putΘ (Θ : FuncId → Option QSpec) (f : FuncId) (θ : QSpec) : FuncId → Option QSpec := fun g => if g = f then some θ else Θ g
def putΨ (Ψ : FuncId → Option ESpec) (f : FuncId) (ψ : ESpec) : FuncId → Option ESpec := fun g => if g = f then some ψ else Ψ g
def noΘ : FuncId → Option QSpec := fun _ => none
def noΨ : FuncId → Option ESpec := fun _ => none
def QTab (G : Glob) (Θ : FuncId → Option QSpec) : Prop := ∀ f θ, Θ f = some θ → QSound G f θ
def ETab (G : Glob) (Ψ : FuncId → Option ESpec) : Prop := ∀ f ψ, Ψ f = some ψ → ESound G f ψ ∧ ∀ d args st (K K' : AV → ASt → Prop), (∀ r s, K r s → K' r s) → ψ d args st K → ψ d args st K'
theorem QTab.nil {G : Glob} : QTab G noΘ := fun f θ h => by cases h
theorem ETab.nil {G : Glob} : ETab G noΨ := fun f θ h => by cases h
theorem QTab.put {G : Glob} {Θ : FuncId → Option QSpec} {f : FuncId} {θ : QSpec} (h : QTab G Θ) (hf : QSound G f θ) : QTab G (putΘ Θ f θ) := by
  intro g θ' hg
  unfold putΘ at hg
  split at hg
  · rename_i e; subst e; simp only [Option.some.injEq] at hg; subst hg; exact hf
  · exact h g θ' hg
theorem ETab.put {G : Glob} {Ψ : FuncId → Option ESpec} {f : FuncId} {ψ : ESpec} (h : ETab G Ψ) (hf : ESound G f ψ) (hm : ∀ d args st (K K' : AV → ASt → Prop), (∀ r s, K r s → K' r s) → ψ d args st K → ψ d args st K') : ETab G (putΨ Ψ f ψ) := by
  intro g ψ' hg
  unfold putΨ at hg
  split at hg
  · rename_i e; subst e; simp only [Option.some.injEq] at hg; subst hg; exact ⟨hf, hm⟩
  · exact h g ψ' hg
noncomputable def cxQ (P : Program) (Φ : FuncId → PSpec) (Θ : FuncId → Option QSpec) (Ψ : FuncId → Option ESpec) (rows pins : List Nat) (n : Nat) : Ctx := { P := P, N := n, Φ := Φ, Θ := Θ, Ψ := Ψ, rows := rows, pins := pins }
section
variable {P : Program} {Φ : FuncId → PSpec} {Θ : FuncId → Option QSpec} {Ψ : FuncId → Option ESpec} {rows pins : List Nat} {n : Nat}
theorem cxQ_P : (cxQ P Φ Θ Ψ rows pins n).P = P := rfl
theorem cxQ_N : (cxQ P Φ Θ Ψ rows pins n).N = n := rfl
theorem cxQ_Φ : (cxQ P Φ Θ Ψ rows pins n).Φ = Φ := rfl
theorem cxQ_Ψ : (cxQ P Φ Θ Ψ rows pins n).Ψ = Ψ := rfl
theorem cxQ_Θ : (cxQ P Φ Θ Ψ rows pins n).Θ = Θ := rfl
theorem cxQ_rows : (cxQ P Φ Θ Ψ rows pins n).rows = rows := rfl
theorem cxQ_pins : (cxQ P Φ Θ Ψ rows pins n).pins = pins := rfl
theorem Fit.all {G : Glob} (h : TabSound G Φ) (hq : QTab G Θ) (he : ETab G Ψ) (hm : G.P.follows .mixedOrders = true) (hpl : ∀ κ, κ ∈ pins → κ < 1000000 := by decide) : Fit G (cxQ G.P Φ Θ Ψ rows pins n) :=
  ⟨⟨⟨rfl, h, fun f ψ hf => (he f ψ hf).1, hpl⟩, hq⟩, (fun f ψ hf => (he f ψ hf).2), hm⟩
end
end Go.AM
