/-
  A part of a proof: see the last text of this claim for what is proved.
-/
import Derived.Test.YteapbfeojedjoaaGreatDoorAMw
namespace Go.AM
open Go
set_option linter.unusedSimpArgs false
set_option linter.unusedVariables false

/-! ### Functions -/
def loadC (C : Ctx) (st : ASt) (t : TypeId) : AV → Prop × AV
  | .ptr key off => loadA C.P st.H t (.ptr key off)
  | _ => (False, .top)
def res1 (C : Ctx) (st : ASt) : ResultVar → Prop × PV
  | .tmp t => (frzOk st.H 4 (st.ρ t), frz st.H 4 (st.ρ t))
  | .cell a ty => ((loadC C st ty (st.ρ a)).1 ∧ frzOk st.H 4 (loadC C st ty (st.ρ a)).2, frz st.H 4 (loadC C st ty (st.ρ a)).2)
def resC (C : Ctx) (st : ASt) : List ResultVar → Prop
  | [] => True
  | r :: rs => (res1 C st r).1 ∧ resC C st rs
def resV (C : Ctx) (st : ASt) : List ResultVar → List PV
  | [] => []
  | r :: rs => (res1 C st r).2 :: resV C st rs
def tupP : List PV → PV
  | [p] => p
  | ps => .tup ps
/-- The end of a function's walk. -/
def Fin (C : Ctx) (rs : List ResultVar) (p : PV) : AX → ASt → Prop
  | .normal, st => resC C st rs ∧ tupP (resV C st rs) = p
  | .ret, st => resC C st rs ∧ tupP (resV C st rs) = p
  | .exit _, _ => False
def argL : Nat → List PV → List (Nat × AV)
  | _, [] => []
  | i, p :: r => (i, .pv p) :: argL (i + 1) r

def resM (a : Array Value) : ResultVar → Sem Value
  | .tmp t => pure (a.getD t undef)
  | .cell x t => do loadVar t (← asAddr (a.getD x undef))
theorem results_eq (fn : Func) (a : Array Value) : results fn a = (do let vs ← fn.results.mapM (resM a); pure (if h : vs.size = 1 then vs[0] else .tuple vs)) := by
  unfold results
  have : (fun | .tmp t => (pure (a.getD t undef) : Sem Value) | .cell x t => do loadVar t (← asAddr (a.getD x undef)) : ResultVar → Sem Value) = resM a := by
    funext r; cases r <;> rfl
  rw [← this]
  rfl
section
variable {G : Glob} {E : Base} {N : Nat} {st : ASt} {a : Array Value} {w : World} {L : Locs} {C : Ctx} {T : Plan}

theorem res1_run {M : Nat → Prop} {S : (List PV → Prop × PV) → Value → Prop} (hP : C.P = G.P) (hB : ∀ key B, hget st.H key = some B → BRel w M L st.H S key B) (hE : ∀ s, AVRel w M L st.H S (st.ρ s) (a.getD s undef)) {M' : Nat → Prop} (hM : ∀ b, M' b → M b) (hown : ∀ key B b cap, hget st.H key = some B → L key = some (b, cap) → ¬ M' b) {r : ResultVar} (h : (res1 C st r).1) :
    ∃ v, (resM a r).run G.P w = .ok v w ∧ PVRel w M' (res1 C st r).2 v := by
  cases r with
  | tmp t => exact ⟨_, by simp only [resM, Sem.run_pure], frz_to hB hM hown 4 _ _ h (hE t)⟩
  | cell x t =>
    obtain ⟨h1, h2⟩ := h
    unfold loadC at h1
    have hx := hE x
    split at h1
    · rename_i key off hρ
      rw [hP] at h1
      rw [hρ] at hx
      unfold loadA at h1
      simp only at h1
      split at h1
      · rename_i cs hH
        obtain ⟨B2, b, cap, g1, gv, g2, g3⟩ := ptr_inv hx
        obtain ⟨b2, cap2, arr, et, e1, e2, e3, e4⟩ := hB key _ hH
        rw [g2] at e1
        simp only [Option.some.injEq, Prod.mk.injEq] at e1
        obtain ⟨rfl, rfl⟩ := e1
        obtain ⟨y, hy, hr⟩ := load_own (P := G.P) h1 e2 e3 e4
        refine ⟨y, ?_, ?_⟩
        · simp only [resM, g3, asAddr, Sem.run_bind, Sem.run_pure, Result.andThen_ok, hy]
        · have e : (loadC C st t (st.ρ x)).2 = (partC G.P t cs off).2 := by
            rw [hρ]; simp only [loadC, loadA, hH, hP]
          have h3 := h2
          simp only [res1]
          rw [e] at h3 ⊢
          exact frz_to hB hM hown 4 _ _ h3 hr
      · exact h1.elim
    · exact h1.elim

theorem resL_run {M : Nat → Prop} {S : (List PV → Prop × PV) → Value → Prop} (hP : C.P = G.P) (hB : ∀ key B, hget st.H key = some B → BRel w M L st.H S key B) (hE : ∀ s, AVRel w M L st.H S (st.ρ s) (a.getD s undef)) {M' : Nat → Prop} (hM : ∀ b, M' b → M b) (hown : ∀ key B b cap, hget st.H key = some B → L key = some (b, cap) → ¬ M' b) : ∀ (rs : List ResultVar), resC C st rs →
    ∃ vs : List Value, (rs.mapM (resM a)).run G.P w = .ok vs w ∧ vs.length = (resV C st rs).length ∧
      ∀ (i : Nat) p, (resV C st rs)[i]? = some p → PVRel w M' p (vs.toArray.getD i undef)
  | [], _ => ⟨[], by simp, rfl, fun i p h => by simp [resV] at h⟩
  | r :: rs, h => by
    obtain ⟨v, hv, hr⟩ := res1_run hP hB hE hM hown h.1
    obtain ⟨vs, hvs, hl, hrs⟩ := resL_run hP hB hE hM hown rs h.2
    refine ⟨v :: vs, ?_, by simp [resV, hl], fun i p hp => ?_⟩
    · simp only [List.mapM_cons, Sem.run_bind, Result.andThen_ok, hv, hvs, Sem.run_pure]
    · cases i with
      | zero => simp [resV] at hp; subst hp; simpa using hr
      | succ i =>
        have := hrs i p (by simpa [resV] using hp)
        simpa [Array.getD_eq_getD_getElem?] using this

theorem results_run {M : Nat → Prop} {S : (List PV → Prop × PV) → Value → Prop} (hP : C.P = G.P) (hB : ∀ key B, hget st.H key = some B → BRel w M L st.H S key B) (hE : ∀ s, AVRel w M L st.H S (st.ρ s) (a.getD s undef)) {M' : Nat → Prop} (hM : ∀ b, M' b → M b) (hown : ∀ key B b cap, hget st.H key = some B → L key = some (b, cap) → ¬ M' b) {fn : Func} (h : resC C st fn.results.toList) :
    ∃ v, (results fn a).run G.P w = .ok v w ∧ PVRel w M' (tupP (resV C st fn.results.toList)) v := by
  obtain ⟨vs, h1, h2, h3⟩ := resL_run hP hB hE hM hown _ h
  have e : (fn.results.mapM (resM a)).run G.P w = .ok vs.toArray w := by
    rw [Array.mapM_eq_mapM_toList]
    simp only [Sem.run_bind, Sem.run_map, h1, Result.andThen_ok]
  rw [results_eq]
  simp only [Sem.run_bind, e, Result.andThen_ok, Sem.run_pure]
  refine ⟨_, rfl, ?_⟩
  by_cases h1' : vs.length = 1
  · obtain ⟨v, rfl⟩ : ∃ v, vs = [v] := by
      match vs, h1' with
      | [v], _ => exact ⟨v, rfl⟩
    obtain ⟨p, hp⟩ : ∃ p, resV C st fn.results.toList = [p] := by
      match resV C st fn.results.toList, h2 with
      | [p], _ => exact ⟨p, rfl⟩
    have := h3 0 p (by rw [hp]; rfl)
    rw [hp]
    simpa [tupP] using this
  · rw [dif_neg (by simpa using h1')]
    have : tupP (resV C st fn.results.toList) = .tup (resV C st fn.results.toList) := by
      unfold tupP
      split
      · rename_i p hp; rw [hp] at h2; simp at h2; exact absurd h2 h1'
      · rfl
    rw [this]
    exact .tup _ _ (by simpa using h2) h3

theorem look_argL {w : World} {M : Nat → Prop} {L : Locs} {H : AHeap} {S : (List PV → Prop × PV) → Value → Prop} {vs : Array Value} {pad : Nat} : ∀ (args : List PV) (i : Nat),
    (∀ (j : Nat) p, args[j]? = some p → PVRel w M p (vs.getD (i + j) undef)) → i + args.length ≤ vs.size → ∀ s, AVRel w M L H S (look (argL i args) s) ((vs ++ Array.replicate pad undef).getD s undef)
  | [], i, _, _, s => .top _
  | p :: r, i, h, hl, s => by
    simp only [List.length_cons] at hl
    unfold argL look
    split
    · rename_i e
      subst e
      have h0 := h 0 p rfl
      rw [Nat.add_zero] at h0
      have hlt : s < vs.size := by omega
      have : (vs ++ Array.replicate pad undef).getD s undef = vs.getD s undef := by
        simp [Array.getD_eq_getD_getElem?, Array.getElem?_append_left hlt]
      rw [this]
      exact .pv _ _ h0
    · exact look_argL r (i + 1) (fun j q hq => by have := h (j + 1) q (by simpa using hq); rwa [show i + (j + 1) = i + 1 + j by omega] at this) (by omega) s

/-- A walk from plain data to plain data is a contract. -/
theorem PSound.of_wpc {f : FuncId} {φ : PSpec} {fn : Func} {c : Code} (hf : G.P.funcs[f]? = some fn) (hb : fn.body = some c) (hn : (fn.name == "runtime.NumGoroutine") = false) (hN : C.N = fn.ntmps) (hF : Fit G C)
    (h : ∀ args, (φ args).1 → args.length ≤ C.N ∧ wpc C T c (Fin C fn.results.toList (φ args).2) ⟨look (argL 0 args), []⟩) (ho : C.outer = false := by rfl) : PSound G f φ := by
  intro args hp
  obtain ⟨hlen, hw⟩ := h args hp
  refine ⟨⟨fn, hf, hn, by rw [hb]; rfl⟩, fun X w vs hI hG hX hA => ?_⟩
  refine calls_of_wp hf hb ?_
  have hsz := hA.1
  have hR : Rel G ⟨w, X, NoB, fun _ => none, []⟩ (OpqS G ⟨w, X, NoB, fun _ => none, []⟩) C.N ⟨look (argL 0 args), []⟩ (vs ++ Array.replicate (fn.ntmps - vs.size) undef) w (fun _ => none) := by
    refine ⟨?_, Ext.refl _ _, hI, hG, fun b hb => ⟨hX b hb, id⟩, fun b hb => hb.elim, (fun key B b cap hk => by cases hk), (fun k1 k2 B1 B2 b c1 c2 hk => by cases hk), (fun key B hk => by cases hk), fun s => ?_, (fun κ b c hl => by cases hl)⟩
    · simp; omega
    · refine look_argL args 0 (fun j p hp => ?_) (by omega) s
      rw [Nat.zero_add]
      refine (hA.2 j p hp).keep (fun b _ hn => ⟨rfl, fun hm => ?_⟩)
      rcases hm with hm | ⟨key, B, cap, hk, _⟩
      · exact hn hm
      · cases hk
  have hwp := wpIn_wide.1 <| wpc_sound c _ _ hw G ⟨w, X, NoB, fun _ => none, []⟩ none 0 (fun _ => rfl) hF (fun κ hk => by cases hk) { tmps := vs ++ Array.replicate (fn.ntmps - vs.size) undef, defers := [] } w (fun _ => none) hR rfl
  have fin : ∀ (a : Act) (w' : World), Beh G ⟨w, X, NoB, fun _ => none, []⟩ C.N (fun st => resC C st fn.results.toList ∧ tupP (resV C st fn.results.toList) = (φ args).2) a w' →
      a.defers = [] ∧ ∃ v, (results fn a.tmps).run G.P w' = .ok v w' ∧ ∃ v', Ending.returned v = .returned v' ∧ PVRel w' X (φ args).2 v' ∧ Ext NoB w w' := by
    rintro a w' ⟨st, L, ⟨h1, h2⟩, hR', hd⟩
    obtain ⟨v, hv, hr⟩ := results_run (M' := X) hF.tabs.base.prog hR'.blk hR'.env (fun b hb => .inl hb) (fun key B b cap hk hl => (hR'.own key B b cap hk hl).1) h1
    rw [h2] at hr
    exact ⟨hd, v, hv, v, rfl, hr, hR'.ext⟩
  refine wp_mono hwp (fun e a w' he => ?_)
  rw [ho] at he
  cases e with
  | normal => exact fin a w' (BehX.beh he)
  | ret => exact fin a w' (BehX.beh he)
  | exit i => obtain ⟨_, _, h, _⟩ := BehX.beh he; exact h.elim
  | goto l => exact he
  | panic c => exact he.elim
  | outgrown => exact he.elim
theorem PSound.none {f : FuncId} : PSound G f noSpec := fun args h => h.elim
end
end Go.AM
