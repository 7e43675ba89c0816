/-
  A part of a proof: see the last text of this claim for what is proved.
-/
import Derived.Test.YtdbnifmcikljdaaGreatDoorCD
import Derived.Test.YtdbnifmcikljdaaGreatDoorDM
namespace Go.AM
open Go
set_option linter.unusedSimpArgs false
set_option linter.unusedVariables false
def psiPut (k : Nat) (φ : List PV → List PV → Prop × List PV) : ESpec := fun d args st K =>
  match args with
  | .rs κ n :: rest => match hget st.H κ with
    | some (.row k' es) => k' = k ∧ n = es.length ∧ AV.freeL rest = true ∧ (∀ a, a ∈ rest → frzOk st.H 4 a) ∧ (φ es (rest.map (frz st.H 4))).1 ∧ (φ es (rest.map (frz st.H 4))).2.length = es.length ∧
        K (.pv (.tup [])) { st with H := hset st.H κ (.row k (φ es (rest.map (frz st.H 4))).2) }
    | _ => False
  | _ => False
theorem psiPut_mono {k : Nat} {φ : List PV → List PV → Prop × List PV} : ∀ d args st (K K' : AV → ASt → Prop), (∀ r s, K r s → K' r s) → psiPut k φ d args st K → psiPut k φ d args st K' := by
  intro d args st K K' hk h
  unfold psiPut at h ⊢
  split at h
  · split at h
    · exact ⟨h.1, h.2.1, h.2.2.1, h.2.2.2.1, h.2.2.2.2.1, h.2.2.2.2.2.1, hk _ _ h.2.2.2.2.2.2⟩
    · exact h.elim
  · exact h.elim
theorem psiPut_eq {k : Nat} {φ : List PV → List PV → Prop × List PV} {d κ n : Nat} {rest : List AV} {ρ : Nat → AV} {H : AHeap} {K : AV → ASt → Prop} : psiPut k φ d (.rs κ n :: rest) ⟨ρ, H⟩ K =
    (match hget H κ with
    | some (.row k' es) => k' = k ∧ n = es.length ∧ AV.freeL rest = true ∧ frzAll H rest ∧ (φ es (frzL H rest)).1 ∧ (φ es (frzL H rest)).2.length = es.length ∧
        K (.pv (.tup [])) ⟨ρ, hset H κ (.row k (φ es (frzL H rest)).2)⟩
    | _ => False) := by
  rw [frzAll_eq, frzL_eq]; rfl
def FinPut (k : Nat) (es : List PV) : AX → ASt → Prop
  | .normal, st => hget st.H 9001 = some (.row k es)
  | .ret, st => hget st.H 9001 = some (.row k es)
  | .exit _, _ => False
theorem FinPut_n {k : Nat} {es : List PV} {st : ASt} : FinPut k es .normal st = (hget st.H 9001 = some (.row k es)) := rfl
theorem FinPut_r {k : Nat} {es : List PV} {st : ASt} : FinPut k es .ret st = (hget st.H 9001 = some (.row k es)) := rfl
theorem ESound.of_put {G : Glob} {C : Ctx} {T : Plan} {f : FuncId} {fn : Func} {c : Code} {φ : List PV → List PV → Prop × List PV} {k : Nat}
    (hf : G.P.funcs[f]? = some fn) (hb : fn.body = some c) (hn : (fn.name == "runtime.NumGoroutine") = false) (hN : C.N = fn.ntmps) (hres : fn.results = #[]) (hpins : C.pins = [9001]) (hF : Fit G C)
    (h : ∀ es args, (φ es args).1 → (∀ e, e ∈ es → e.width = k) → args.length + 1 ≤ C.N ∧ wpc C T c (FinPut k (φ es args).2) ⟨look ((0, .rs 9001 es.length) :: argL 1 args), [(9001, .row k es)]⟩) (ho : C.outer = false := by rfl) : ESound G f (psiPut k φ) := by
  intro d args st K hψ
  unfold psiPut at hψ
  split at hψ
  case h_2 => exact hψ.elim
  rename_i κ n rest
  split at hψ
  case h_2 => exact hψ.elim
  rename_i k' es hH
  obtain ⟨rfl, rfl, p1, p2, p3, p4, p5⟩ := hψ
  refine ⟨⟨fn, hf, hn, by rw [hb]; rfl⟩, fun E N a w L xs hR hargs _ => ?_⟩
  cases hargs with
  | cons _ x0 _ xs' hx0 hrest =>
  have hblk0 := hR.blk κ _ hH
  have hwid : ∀ e, e ∈ es → e.width = k' := hblk0.2.1
  have hk0 : 0 < k' := hblk0.1
  obtain ⟨hlen, hw⟩ := h es _ p3 hwid
  obtain ⟨hxl, hpv⟩ := hrest.pvs p1 p2
  obtain ⟨es', he'⟩ : ∃ es', (φ es (rest.map (frz st.H 4))).2 = es' := ⟨_, rfl⟩
  rw [he'] at hw p4 p5
  let L0 : Locs := fun k => if k = 9001 then L κ else none
  let E' : Base := ⟨w, fun x => Mut E L st.H x ∧ ∀ c, L κ ≠ some (x, c), fun x => ∃ c, L κ = some (x, c), L0, []⟩
  have hmb : ∀ x c, L κ = some (x, c) → Mut E L st.H x := fun x c hl => .inr ⟨κ, _, c, hH, hl⟩
  have one : ∀ key B, hget [(9001, ABlk.row k' es)] key = some B → key = 9001 ∧ B = .row k' es := by
    intro key B hk
    unfold hget at hk
    split at hk
    · rename_i e; simp only [Option.some.injEq] at hk; exact ⟨e.symm, hk.symm⟩
    · cases hk
  have hMut0 : ∀ x, Mut E' L0 [(9001, .row k' es)] x → Mut E L st.H x := by
    rintro x (hx | ⟨key, B, c0, k1, k2⟩)
    · exact hx.1
    · obtain ⟨rfl, rfl⟩ := one key B k1
      simp only [L0, if_true] at k2
      exact hmb x c0 k2
  have hk00 : Keeps w (Mut E L st.H) w (Mut E' L0 [(9001, .row k' es)]) := fun x _ hn => ⟨rfl, fun hm => hn (hMut0 x hm)⟩
  have hR0 : Rel G E' (OpqS G E') C.N ⟨look ((0, .rs 9001 es.length) :: argL 1 (rest.map (frz st.H 4))), [(9001, .row k' es)]⟩ ((x0 :: xs').toArray ++ Array.replicate (fn.ntmps - (x0 :: xs').toArray.size) undef) w L0 := by
    refine ⟨?_, Ext.refl _ _, hR.inv, Nat.le_trans hR.glob hR.ext.size, fun x hx => ⟨hR.mut_lt hx.1, fun ⟨c, hc⟩ => hx.2 c hc⟩, fun x ⟨c, hc⟩ => (hR.own κ _ x c hH hc).2.1, ?_, ?_, ?_, fun s => ?_, ?_⟩
    · have := hlen
      simp only [List.length_map] at this
      simp [hxl]; omega
    · intro key B x c0 k1 k2
      obtain ⟨rfl, rfl⟩ := one key B k1
      simp only [L0, if_true] at k2
      exact ⟨fun hx => hx.2 c0 k2, (hR.own κ _ x c0 hH k2).2.1, .inl ⟨c0, k2⟩⟩
    · intro k1 k2 B1 B2 x c1 c2 m1 m2 _ _
      rw [(one k1 B1 m1).1, (one k2 B2 m2).1]
    · intro key B hk
      obtain ⟨rfl, rfl⟩ := one key B hk
      have e0 : L0 9001 = L κ := by simp [L0]
      simp only [BRel, e0] at hblk0 ⊢
      refine ⟨hk0, hwid, ?_⟩
      have h3 := hblk0.2.2
      cases hl : L κ with
      | none => rw [hl] at h3; exact h3
      | some bc =>
        obtain ⟨b, cap⟩ := bc
        rw [hl] at h3
        obtain ⟨arr, et, e1, e2, e3, e4, e5⟩ := h3
        exact ⟨arr, et, e1, e2, e3, e4, fun i e j c he hc => ⟨(e5 i e j c he hc).1, (e5 i e j c he hc).2.keep hk00⟩⟩
    · unfold look
      split
      · rename_i e; subst e
        have hg : ((x0 :: xs').toArray ++ Array.replicate (fn.ntmps - (x0 :: xs').toArray.size) undef).getD 0 undef = x0 := by
          simp [Array.getD_eq_getD_getElem?, Array.getElem?_append]
        rw [hg]
        rcases rs_inv hx0 with ⟨k2, g1, g2, g3, g4⟩ | ⟨k2, es2, b, cap, g1, g2, g3, g4⟩
        · rw [hH] at g1
          simp only [Option.some.injEq, ABlk.row.injEq] at g1
          obtain ⟨_, rfl⟩ := g1
          rw [g4]
          exact .rsN 9001 k' (by simp [hget]) (by simp [L0, g2])
        · rw [hH] at g1
          simp only [Option.some.injEq, ABlk.row.injEq] at g1
          obtain ⟨rfl, rfl⟩ := g1
          rw [g4]
          exact .rs 9001 es.length k' es b cap (by simp [hget]) (by simp [L0, g2]) (Nat.le_refl _)
      · refine look_argL (vs := (x0 :: xs').toArray) (rest.map (frz st.H 4)) 1 (fun j p hp => ?_) (by simp [hxl]; omega) s
        have := (hpv j p hp).keep hk00
        have e : (x0 :: xs').toArray.getD (1 + j) undef = xs'.toArray.getD j undef := by
          simp [Array.getD_eq_getD_getElem?, Nat.add_comm 1 j]
        rw [e]; exact this
    · intro k2 b0 c0 hl
      have hl' : (if k2 = 9001 then L κ else none) = some (b0, c0) := hl
      split at hl'
      · rename_i e; subst e
        exact ⟨hl, .row k' es, by simp [hget]⟩
      · cases hl'
  refine calls_of_wp hf hb ?_
  have hwp := wpIn_wide.1 <| wpc_sound c _ _ hw G E' none 0 (fun _ => rfl) hF (fun k2 hk => by
    rw [hpins]
    have hk' : ((if k2 = 9001 then L κ else none : Option (Nat × Nat))).isSome = true := hk
    split at hk'
    · rename_i e; rw [e]; simp
    · cases hk') { tmps := (x0 :: xs').toArray ++ Array.replicate (fn.ntmps - (x0 :: xs').toArray.size) undef, defers := [] } w L0 hR0 rfl
  have fin : ∀ (a' : Act) (w' : World), Beh G E' C.N (fun s => hget s.H 9001 = some (.row k' es')) a' w' →
      a'.defers = [] ∧ ∃ v, (results fn a'.tmps).run G.P w' = .ok v w' ∧ ∃ v' r st' L', Ending.returned v = .returned v' ∧ K r st' ∧ Rel G E (OpqS G E) N st' a w' L' ∧ AVRel w' (Mut E L' st'.H) L' st'.H (OpqS G E) r v' := by
    rintro a' w' ⟨s, L', q, hR', hd⟩
    have hrun : (results fn a'.tmps).run G.P w' = .ok (.tuple #[]) w' := by
      rw [results_eq, hres]
      simp
    refine ⟨hd, _, hrun, _, _, _, L, rfl, p5, ?_, .pv _ _ (.tup [] #[] rfl (fun i c hc => by simp at hc))⟩
    have hext : Ext E'.M0 w w' := hR'.ext
    have hlk : ∀ b c, L κ = some (b, c) → L' 9001 = some (b, c) := fun b c hl => (hR'.fix 9001 b c (by simp [E', L0, hl])).1
    have hnil : L κ = none → es = [] ∧ es' = [] := by
      intro hl
      simp only [BRel, hl] at hblk0
      have e1 : es = [] := hblk0.2.2
      exact ⟨e1, List.eq_nil_of_length_eq_zero (by rw [p4, e1]; rfl)⟩
    have hmut : ∀ x, Mut E L st.H x → Mut E' L' s.H x := by
      intro x hx
      by_cases e : ∃ c, L κ = some (x, c)
      · obtain ⟨c, hc⟩ := e
        exact .inr ⟨9001, _, c, q, hlk x c hc⟩
      · exact .inl ⟨hx, fun c hc => e ⟨c, hc⟩⟩
    have hMut : ∀ x, Mut E L (hset st.H κ (.row k' es')) x → Mut E L st.H x := by
      intro x hx
      rcases hx with hx | ⟨key, B0, c0, h1, h2⟩
      · exact .inl hx
      · by_cases e : key = κ
        · subst e; exact hmb x c0 h2
        · rw [hget_hset_ne _ _ (Ne.symm e)] at h1; exact .inr ⟨key, B0, c0, h1, h2⟩
    have hk : Keeps w (Mut E L st.H) w' (Mut E L (hset st.H κ (.row k' es'))) := fun x hx hn => ⟨hext.block x hx (fun ⟨c, hc⟩ => hn (hmb x c hc)), fun hm => hn (hMut x hm)⟩
    have hc : ∀ key B0, hget st.H key = some B0 → ∃ B1, hget (hset st.H κ (.row k' es')) key = some B1 ∧ B0.le B1 ∧ L key = L key ∧ (L key = none → B0 = B1) := by
      intro key B0 hb0
      by_cases e : key = κ
      · subst e
        rw [hH] at hb0
        simp only [Option.some.injEq] at hb0
        subst hb0
        exact ⟨_, hget_hset_same _ _ _, ⟨rfl, by omega⟩, rfl, fun hl => by obtain ⟨e1, e2⟩ := hnil hl; rw [e1, e2]⟩
      · exact ⟨B0, by rw [hget_hset_ne _ _ (Ne.symm e)]; exact hb0, ABlk.le_refl _, rfl, fun _ => rfl⟩
    refine ⟨hR.size, hR.ext.trans' hext (fun x hx => ?_), hR'.inv, hR.glob, hR.old, hR.m0, ?_, ?_, fun key B hb => ?_, fun t => (hR.env t).keep hk (fun _ _ h => h) hc, ?_⟩
    · obtain ⟨c, hx⟩ := hx
      exact (hR.own κ _ x c hH hx).2.2
    · intro key B0 x c0 h1 h2
      by_cases e : key = κ
      · subst e; exact hR.own key _ x c0 hH h2
      · rw [hget_hset_ne _ _ (Ne.symm e)] at h1; exact hR.own key B0 x c0 h1 h2
    · intro k1 k2 B1 B2 x c1 c2 h1 h2 h3 h4
      have get : ∀ k B0, hget (hset st.H κ (.row k' es')) k = some B0 → ∃ B1, hget st.H k = some B1 := fun k B0 hg => by
        by_cases e : k = κ
        · subst e; exact ⟨_, hH⟩
        · rw [hget_hset_ne _ _ (Ne.symm e)] at hg; exact ⟨B0, hg⟩
      obtain ⟨B1', h1'⟩ := get k1 B1 h1
      obtain ⟨B2', h2'⟩ := get k2 B2 h2
      exact hR.inj k1 k2 B1' B2' x c1 c2 h1' h2' h3 h4
    · by_cases e : key = κ
      · subst e
        simp only [hget_hset_same, Option.some.injEq] at hb
        subst hb
        have hf9 := hR'.blk 9001 _ q
        simp only [BRel] at hf9 ⊢
        cases hl : L key with
        | none =>
          refine ⟨hk0, fun e he => ?_, (hnil hl).2⟩
          rw [(hnil hl).2] at he; cases he
        | some bc =>
          obtain ⟨b, cap⟩ := bc
          rw [hlk b cap hl] at hf9
          obtain ⟨_, hwid', arr, et, e1, e2, e3, e4, e5⟩ := hf9
          refine ⟨hk0, hwid', arr, et, e1, e2, e3, e4, fun i e j c he hc' => ⟨(e5 i e j c he hc').1, (e5 i e j c he hc').2.keep (fun x _ hn => ⟨rfl, fun hm => hn (hmut x (hMut x hm))⟩)⟩⟩
      · rw [hget_hset_ne _ _ (Ne.symm e)] at hb
        refine (hR.blk key B hb).keepAll hk hc (fun b' cap' hl => hext.block b' (hR.mut_lt (.inr ⟨key, B, cap', hb, hl⟩)) (fun ⟨c, hc'⟩ => ?_)) rfl
        exact e (hR.inj key κ B _ b' cap' c hb hH hl hc')
    · intro k2 b0 c0 hl0
      obtain ⟨h1, B0, h2⟩ := hR.fix k2 b0 c0 hl0
      obtain ⟨B1, h4, _⟩ := hc k2 B0 h2
      exact ⟨h1, B1, h4⟩
  refine wp_mono hwp (fun e a' w' he => ?_)
  rw [ho] at he
  cases e with
  | normal => exact fin a' w' (BehX.beh he)
  | ret => exact fin a' w' (BehX.beh he)
  | exit i => obtain ⟨_, _, h, _⟩ := BehX.beh he; exact h.elim
  | goto l => exact he
  | panic c => exact he.elim
  | outgrown => exact he.elim
end Go.AM
namespace Go.AM
open Go
set_option linter.unusedSimpArgs false
set_option linter.unusedVariables false
def callTGK (C : Ctx) (v : AV) (y x : Prop) : Prop :=
  match v with
  | .pv (.fn g _) => match C.Θ g with
    | none => y
    | _ => x
  | .clo g _ => match C.Θ g with
    | none => y
    | _ => x
  | _ => x
section
variable {C : Ctx} {dr : Bool} {H0 : AHeap} {ops : Array Oper} {st : ASt} {K : ASt → Prop}
theorem ev_callTG_main {d : Option Tmp} {t : Tmp} {args : Array Operand} {ts : Array TypeId} {ty : TypeId} {pos : String} {af : Array Edge} {j : Nat} {b : Bool} {g : FuncId} {caps : List AV} (hv : calleeA (ox st.ρ (.tmp t)) = some (g, caps)) (hθ : C.Θ g = none) :
    stepX C true H0 ops ⟨d, .call { callee := .value (.tmp t), args := args, argTypes := ts }, ty, pos, af, some (j, b)⟩ st K =
      gK C.N st d (gAt ops j st.ρ) b (aopP C st.ρ st.H (.call { callee := .value (.tmp t), args := args, argTypes := ts })) (aopP C st.ρ H0 (.call { callee := .value (.tmp t), args := args, argTypes := ts })).2 K := by
  have hq : qop C st.ρ st.H ⟨d, .call { callee := .value (.tmp t), args := args, argTypes := ts }, ty, pos, af, some (j, b)⟩ =
      ((aopP C st.ρ st.H (.call { callee := .value (.tmp t), args := args, argTypes := ts })).1, fun r => r = (aopP C st.ρ st.H (.call { callee := .value (.tmp t), args := args, argTypes := ts })).2) := by
    simp only [qop, hv, hθ]
  have main : ∀ c : Bool, stepQ C H0 ⟨d, .call { callee := .value (.tmp t), args := args, argTypes := ts }, ty, pos, af, some (j, b)⟩ c st K =
      pureGK C.N st d c (aopP C st.ρ st.H (.call { callee := .value (.tmp t), args := args, argTypes := ts })) (aopP C st.ρ H0 (.call { callee := .value (.tmp t), args := args, argTypes := ts })).2 K := by
    intro c
    simp only [stepQ, hq, pureGK, selK]
  unfold stepX stepG
  simp only [cls, guardC, if_true, gK, gAt, cond_true]
  cases hj : (ops[j]?).bind (·.dst) with
  | none => rfl
  | some g' =>
    simp only
    cases hv' : st.ρ g' with
    | pv p => cases p <;> simp only <;> exact main _
    | whn c v => cases v <;> try rfl
                 rename_i p; cases p <;> first | rfl | exact main _
    | _ => rfl
theorem ev_callTG {d : Option Tmp} {t : Tmp} {args : Array Operand} {ts : Array TypeId} {ty : TypeId} {pos : String} {af : Array Edge} {j : Nat} {b : Bool} :
    stepX C true H0 ops ⟨d, .call { callee := .value (.tmp t), args := args, argTypes := ts }, ty, pos, af, some (j, b)⟩ st K =
      callTGK C (ox st.ρ (.tmp t)) (gK C.N st d (gAt ops j st.ρ) b (aopP C st.ρ st.H (.call { callee := .value (.tmp t), args := args, argTypes := ts })) (aopP C st.ρ H0 (.call { callee := .value (.tmp t), args := args, argTypes := ts })).2 K)
        (stepH C true H0 ops ⟨d, .call { callee := .value (.tmp t), args := args, argTypes := ts }, ty, pos, af, some (j, b)⟩ st K) := by
  unfold callTGK
  split
  · rename_i g caps hv
    split
    · rename_i hθ
      exact ev_callTG_main (by rw [hv]; rfl) hθ
    · rfl
  · rename_i g caps hv
    split
    · rename_i hθ
      exact ev_callTG_main (by rw [hv]; rfl) hθ
    · rfl
  · rfl
theorem eqIn_sn {P : Program} {w : World} (d : Nat) {t e : TypeId} {n c : Nat} (h : P.underlying t = some (.slice e)) : (Op.equalIn (d + 1) t (.slice none n c) (.slice none 0 0)).run P w = .ok true w := by
  simp only [Op.equalIn, Sem.run_bind, run_underlying h, Result.andThen_ok]; rfl
theorem eqIn_ss {P : Program} {w : World} (d : Nat) {t e : TypeId} {n c : Nat} {a : Addr} (h : P.underlying t = some (.slice e)) : (Op.equalIn (d + 1) t (.slice (some a) n c) (.slice none 0 0)).run P w = .ok false w := by
  simp only [Op.equalIn, Sem.run_bind, run_underlying h, Result.andThen_ok]; rfl
theorem loadC_eq {C : Ctx} {ρ : Nat → AV} {H : AHeap} {t κ o : Nat} : loadC C ⟨ρ, H⟩ t (.ptr κ o) = loadA C.P H t (.ptr κ o) := rfl
theorem AWp.nilq {id s d1 d2 : Nat} {t e t2 ty1 ty2 : TypeId} {p1 p2 : String} {a1 a2 : Array Edge} {rest : Code} {Q : AX → ASt → Prop} {st : ASt} {es : List PV}
    (hs : st.ρ s = .pv (.sl es)) (ht : C.P.underlying t = some (.slice e)) (hd1 : d1 < C.N) (hd2 : d2 < C.N)
    (h : ∀ b : Bool, (b = true → es = []) → AWp C rest Q ⟨upd (upd st.ρ d1 (.pv (.sl es))) d2 (.pv (.bool b)), st.H⟩) :
    AWp C (.seq (.region id #[⟨some d1, .move (.tmp s), ty1, p1, a1, none⟩, ⟨some d2, .binOp .eql t (.tmp d1) (.const (.slice none 0 0)) t2, ty2, p2, a2, none⟩] false) rest) Q st := by
  intro G E r n hr hF hP0 a w L hR hd
  refine wpIn_seq ?_
  suffices hreg : wpOps G.P #[⟨some d1, .move (.tmp s), ty1, p1, a1, none⟩, ⟨some d2, .binOp .eql t (.tmp d1) (.const (.slice none 0 0)) t2, ty2, p2, a2, none⟩] (QR G E C.N (fun st' => ∃ b : Bool, (b = true → es = []) ∧ st' = ⟨upd (upd st.ρ d1 (.pv (.sl es))) d2 (.pv (.bool b)), st.H⟩)) [0, 1] a w by
    refine wpIn_mono (wpIn_region (wpOps_in (k := E.ds.length) r n ?_ ?_ ?_ _ a w ?_ hreg)) (fun e a w he => ?_)
    · rintro a w ⟨st, L, _, _, hd⟩; rw [hd]; exact Nat.le_refl _
    · exact fun ch a w h => h
    · rintro ⟨a, w, h⟩; exact h
    · rw [hd]; exact Nat.le_refl _
    · cases e with
      | normal =>
        obtain ⟨st2, L2, ⟨b, hb, rfl⟩, h2, h3⟩ := he
        exact h b hb G E r n hr hF hP0 a w L2 h2 h3
      | _ => exact he.elim
  have hx := hR.env s
  rw [hs] at hx
  have hpx := pv_inv hx
  have hP : C.P = G.P := hF.tabs.base.prog
  rw [hP] at ht
  have o1 : OpYields G.P ⟨some d1, .move (.tmp s), ty1, p1, a1, none⟩ a w (fun v w' => w = w' ∧ v = a.tmps.getD s undef) :=
    .of_run (v := a.tmps.getD s undef) (by simp only [execOp]; rfl) ⟨rfl, rfl⟩
  unfold wpOps
  simp only [List.getElem?_toArray, List.getElem?_cons_zero]
  rw [if_pos (show Region.wanted _ _ = true from rfl)]
  refine .inl (o1.wp (fun v w' ⟨hw, hv⟩ => ?_))
  subst hw; subst hv
  have hb1 := putD_beh (K := fun st' => st' = ⟨upd st.ρ d1 (.pv (.sl es)), st.H⟩) (d := some d1) (v := .pv (.sl es)) ⟨by rw [← show C.N = C.N from rfl]; exact hd1, rfl⟩ hR hx hd
  obtain ⟨st1, L1, hst1, hR1, hdf1⟩ := hb1
  subst hst1
  have hx1 := hR1.env d1
  have he1 : (upd st.ρ d1 (.pv (.sl es))) d1 = .pv (.sl es) := by simp [upd]
  rw [show (ASt.mk (upd st.ρ d1 (.pv (.sl es))) st.H).ρ d1 = .pv (.sl es) from he1] at hx1
  have hp1 := pv_inv hx1
  generalize hgv : ((a.put (some d1) (a.tmps.getD s undef)).tmps.getD d1 undef) = v1 at hp1
  obtain ⟨b, hb, hrun⟩ : ∃ b : Bool, (b = true → es = []) ∧ (execOp (a.put (some d1) (a.tmps.getD s undef)).eval ⟨some d2, .binOp .eql t (.tmp d1) (.const (.slice none 0 0)) t2, ty2, p2, a2, none⟩).run G.P w = .ok (.value (.bool b)) w := by
    cases hp1 with
    | sl _ a0 cap k bb o val c1 c2 c3 c4 c5 c6 =>
      refine ⟨a0.isNone, fun hn => ?_, ?_⟩
      · cases es with
        | nil => rfl
        | cons x r => have := c4 (by simp); rw [this] at hn; cases hn
      · have ev1 : (a.put (some d1) (a.tmps.getD s undef)).eval (.tmp d1) = .slice a0 es.length cap := hgv
        have ev2 : (a.put (some d1) (a.tmps.getD s undef)).eval (.const (.slice none 0 0)) = .slice none 0 0 := rfl
        have heq : (Op.equal t (.slice a0 es.length cap) (.slice none 0 0)).run G.P w = .ok a0.isNone w := by
          cases a0 with
          | none => exact eqIn_sn 9999 ht
          | some ad => exact eqIn_ss 9999 ht
        have hg : (eqGuard .eql t (.tmp d1) (.const (.slice none 0 0)) (.slice a0 es.length cap) (.slice none 0 0)).run G.P w = .ok () w := by
          unfold eqGuard; simp
        have hbo : Go.binOp .eql t (.slice a0 es.length cap) (.slice none 0 0) = (do pure (.bool (← Op.equal t (.slice a0 es.length cap) (.slice none 0 0)))) := rfl
        simp only [execOp, ev1, ev2, Sem.run_bind, hg, hbo, heq, Result.andThen_ok, Sem.run_pure]
  have hgo : ([⟨some d1, Op.move (.tmp s), ty1, p1, a1, none⟩, ⟨some d2, Op.binOp .eql t (.tmp d1) (.const (.slice none 0 0)) t2, ty2, p2, a2, none⟩] : List Oper)[1]? = some ⟨some d2, Op.binOp .eql t (.tmp d1) (.const (.slice none 0 0)) t2, ty2, p2, a2, none⟩ := rfl
  unfold wpOps
  simp only [List.getElem?_toArray, hgo]
  rw [if_pos (show Region.wanted _ _ = true from rfl)]
  have o2 : OpYields G.P ⟨some d2, .binOp .eql t (.tmp d1) (.const (.slice none 0 0)) t2, ty2, p2, a2, none⟩ (a.put (some d1) (a.tmps.getD s undef)) w (fun v w' => w = w' ∧ v = .bool b) := .of_run hrun ⟨rfl, rfl⟩
  refine .inl (o2.wp (fun v w' ⟨hw, hv⟩ => ?_))
  subst hw; subst hv
  obtain ⟨st2, L2, hst2, hR2, hdf2⟩ := putD_beh (K := fun st' => st' = ⟨upd (upd st.ρ d1 (.pv (.sl es))) d2 (.pv (.bool b)), st.H⟩) (d := some d2) (v := .pv (.bool b)) (x := .bool b) (N := C.N) (E := E) (G := G) (L := L1) ⟨hd2, rfl⟩ hR1 (.pv _ _ (.bool _)) hdf1
  subst hst2
  unfold wpOps
  exact ⟨_, L2, ⟨b, hb, rfl⟩, hR2, hdf2⟩
end
end Go.AM
namespace Go.AM
section
variable {α : Type} (lt : α → α → Bool)
def rins (x : α) : List α → List α
  | [] => [x]
  | y :: r => bif lt x y then y :: rins x r else x :: y :: r
def rsort (l : List α) : List α := l.foldl (fun rp x => rins lt x rp) []
def isort (l : List α) : List α := (rsort lt l).reverse
theorem rins_perm (x : α) : ∀ l : List α, (rins lt x l).Perm (x :: l)
  | [] => List.Perm.refl _
  | y :: r => by
    unfold rins
    cases lt x y with
    | true => exact ((rins_perm x r).cons y).trans (List.Perm.swap x y r)
    | false => exact List.Perm.refl _
theorem rsort_snoc (l : List α) (x : α) : rsort lt (l ++ [x]) = rins lt x (rsort lt l) := by
  unfold rsort; rw [List.foldl_append]; rfl
theorem rsort_perm (l : List α) : (rsort lt l).Perm l := by
  have key : ∀ (l : List α) (acc : List α), (l.foldl (fun rp x => rins lt x rp) acc).Perm (acc ++ l) := by
    intro l
    induction l with
    | nil => intro acc; simp
    | cons x r ih =>
      intro acc
      refine (ih (rins lt x acc)).trans ?_
      refine ((rins_perm lt x acc).append_right r).trans ?_
      exact (List.perm_middle (a := x) (l₁ := acc) (l₂ := r)).symm
  have := key l []
  rwa [List.nil_append] at this
theorem isort_perm (l : List α) : (isort lt l).Perm l := (List.reverse_perm _).trans (rsort_perm lt l)
theorem rsort_length (l : List α) : (rsort lt l).length = l.length := (rsort_perm lt l).length_eq
theorem isort_length (l : List α) : (isort lt l).length = l.length := (isort_perm lt l).length_eq
theorem mem_isort {l : List α} {x : α} : x ∈ isort lt l ↔ x ∈ l := (isort_perm lt l).mem_iff
variable {lt}
theorem rins_sorted {S : α → Prop} (ht : ∀ a b c, S a → S b → S c → lt b a = false → lt c b = false → lt c a = false) (ha : ∀ a b, S a → S b → lt a b = true → lt b a = false) {x : α} (hx : S x) :
    ∀ {l : List α}, (∀ y, y ∈ l → S y) → l.Pairwise (fun a b => lt a b = false) → (rins lt x l).Pairwise (fun a b => lt a b = false)
  | [], _, _ => by simp [rins]
  | y :: r, hS, hp => by
    rw [List.pairwise_cons] at hp
    unfold rins
    have hy := hS y List.mem_cons_self
    have hr : ∀ z, z ∈ r → S z := fun z hz => hS z (List.mem_cons_of_mem _ hz)
    cases h : lt x y with
    | true =>
      rw [cond_true, List.pairwise_cons]
      refine ⟨fun z hz => ?_, rins_sorted ht ha hx hr hp.2⟩
      rcases List.mem_cons.1 ((rins_perm lt x r).mem_iff.1 hz) with rfl | hz
      · exact ha _ _ hx hy h
      · exact hp.1 z hz
    | false =>
      rw [cond_false, List.pairwise_cons]
      refine ⟨fun z hz => ?_, by rw [List.pairwise_cons]; exact hp⟩
      rcases List.mem_cons.1 hz with rfl | hz
      · exact h
      · exact ht z y x (hr z hz) hy hx (hp.1 z hz) h
theorem isort_sorted {S : α → Prop} (ht : ∀ a b c, S a → S b → S c → lt b a = false → lt c b = false → lt c a = false) (ha : ∀ a b, S a → S b → lt a b = true → lt b a = false) {l : List α} (hl : ∀ y, y ∈ l → S y) :
    (isort lt l).Pairwise (fun a b => lt b a = false) := by
  unfold isort
  rw [List.pairwise_reverse]
  have key : ∀ (l acc : List α), (∀ y, y ∈ l → S y) → (∀ y, y ∈ acc → S y) → acc.Pairwise (fun a b => lt a b = false) → (l.foldl (fun rp x => rins lt x rp) acc).Pairwise (fun a b => lt a b = false) := by
    intro l
    induction l with
    | nil => intro acc _ _ h; exact h
    | cons x r ih =>
      intro acc h1 h2 h3
      refine ih _ (fun y hy => h1 y (List.mem_cons_of_mem _ hy)) (fun y hy => ?_) (rins_sorted ht ha (h1 x List.mem_cons_self) h2 h3)
      rcases List.mem_cons.1 ((rins_perm lt x acc).mem_iff.1 hy) with rfl | hy
      · exact h1 _ List.mem_cons_self
      · exact h2 y hy
  exact key l [] hl (fun y hy => by cases hy) List.Pairwise.nil
end
section
variable {α β : Type} (f : α → β) {lt : α → α → Bool} {lt' : β → β → Bool}
theorem rins_map (h : ∀ a b, lt' (f a) (f b) = lt a b) (x : α) : ∀ l : List α, rins lt' (f x) (l.map f) = (rins lt x l).map f
  | [] => rfl
  | y :: r => by
    simp only [List.map_cons, rins, h]
    cases lt x y with
    | true => simp only [cond_true, List.map_cons]; rw [rins_map h x r]
    | false => rfl
theorem isort_map (h : ∀ a b, lt' (f a) (f b) = lt a b) (l : List α) : isort lt' (l.map f) = (isort lt l).map f := by
  unfold isort rsort
  rw [List.map_reverse]
  congr 1
  have key : ∀ (l acc : List α), (l.map f).foldl (fun rp x => rins lt' x rp) (acc.map f) = (l.foldl (fun rp x => rins lt x rp) acc).map f := by
    intro l
    induction l with
    | nil => intro acc; rfl
    | cons x r ih => intro acc; simp only [List.map_cons, List.foldl_cons, rins_map f h]; exact ih _
  exact key l []
end
end Go.AM
