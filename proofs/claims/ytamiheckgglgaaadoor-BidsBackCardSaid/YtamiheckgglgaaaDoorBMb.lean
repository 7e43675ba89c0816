/-
  A part of a proof: see the last text of this claim for what is proved.
-/
import Derived.Test.YtamiheckgglgaaaDoorBMa
namespace Go.AM
open Go
set_option linter.unusedSimpArgs false
set_option linter.unusedVariables false

/-! ### A function that hands out a new variable -/
def FinN (t : Nat) (J : List PV → Prop) : AX → ASt → Prop
  | .normal, st => match st.ρ t with
    | .ptr κ 0 => tapeOk J (hget st.H κ)
    | _ => False
  | .ret, st => match st.ρ t with
    | .ptr κ 0 => tapeOk J (hget st.H κ)
    | _ => False
  | .exit _, _ => False
/-- A call that hands out a new variable with 'J'. -/
def psiNew (J : List PV → Prop) (pre : List PV → Prop) : ESpec := fun d args st K =>
  AV.freeL args = true ∧ (∀ a, a ∈ args → frzOk st.H 4 a) ∧ pre (args.map (frz st.H 4)) ∧ hget st.H d = none ∧ K (.ptr d 0) { st with H := hset st.H d (.obj J) }
theorem psiNew_mono {J : List PV → Prop} {pre : List PV → Prop} : ∀ d args st (K K' : AV → ASt → Prop), (∀ r s, K r s → K' r s) → psiNew J pre d args st K → psiNew J pre d args st K' :=
  fun d args st K K' hk h => ⟨h.1, h.2.1, h.2.2.1, h.2.2.2.1, hk _ _ h.2.2.2.2⟩

theorem ESound.of_new {G : Glob} {C : Ctx} {T : Plan} {f : FuncId} {fn : Func} {c : Code} {J : List PV → Prop} {pre : List PV → Prop} {t : Nat}
    (hf : G.P.funcs[f]? = some fn) (hb : fn.body = some c) (hn : (fn.name == "runtime.NumGoroutine") = false) (hN : C.N = fn.ntmps) (hres : fn.results = #[.tmp t]) (hF : Fit G C)
    (h : ∀ args, pre args → args.length ≤ C.N ∧ wpc C T c (FinN t J) ⟨look (argL 0 args), []⟩) (ho : C.outer = false := by rfl) : ESound G f (psiNew J pre) := by
  intro d args st K hψ
  obtain ⟨p1, p2, p3, p4, p5⟩ := hψ
  refine ⟨⟨fn, hf, hn, by rw [hb]; rfl⟩, fun E N a w L xs hR hargs _ => ?_⟩
  obtain ⟨hlen, hw⟩ := h _ p3
  obtain ⟨hxl, hpv⟩ := hargs.pvs p1 p2
  let E' : Base := ⟨w, Mut E L st.H, NoB, fun _ => none, []⟩
  have hR0 : Rel G E' (OpqS G E') C.N ⟨look (argL 0 (args.map (frz st.H 4))), []⟩ (xs.toArray ++ Array.replicate (fn.ntmps - xs.toArray.size) undef) w (fun _ => none) := by
    refine ⟨?_, Ext.refl _ _, hR.inv, Nat.le_trans hR.glob hR.ext.size, fun b hb => ⟨hR.mut_lt hb, id⟩, fun b hb => hb.elim, (fun key B b cap hk => by cases hk), (fun k1 k2 B1 B2 b c1 c2 hk => by cases hk), (fun key B hk => by cases hk), fun s => ?_, (fun κ b c hl => by cases hl)⟩
    · have := hlen
      simp only [List.length_map] at this
      simp [hxl]; omega
    · refine look_argL (vs := xs.toArray) (args.map (frz st.H 4)) 0 (fun j p hp => ?_) (by simp [hxl]) s
      rw [Nat.zero_add]
      refine (hpv j p hp).keep (fun b _ hn => ⟨rfl, fun hm => ?_⟩)
      rcases hm with hm | ⟨key, B, cap, hk, _⟩
      · exact hn hm
      · cases hk
  refine calls_of_wp hf hb ?_
  have hwp := wpIn_wide.1 <| wpc_sound c _ _ hw G E' none 0 (fun _ => rfl) hF (fun κ hk => by cases hk) { tmps := xs.toArray ++ Array.replicate (fn.ntmps - xs.toArray.size) undef, defers := [] } w (fun _ => none) hR0 rfl
  have fin : ∀ (a' : Act) (w' : World), Beh G E' C.N (fun s => match s.ρ t with | .ptr κ 0 => tapeOk J (hget s.H κ) | _ => False) a' w' →
      a'.defers = [] ∧ ∃ v, (results fn a'.tmps).run G.P w' = .ok v w' ∧ ∃ v' r st' L', Ending.returned v = .returned v' ∧ K r st' ∧ Rel G E (OpqS G E) N st' a w' L' ∧ AVRel w' (Mut E L' st'.H) L' st'.H (OpqS G E) r v' := by
    rintro a' w' ⟨s, L', q, hR', hd⟩
    split at q
    · rename_i κ hκ
      have hx := hR'.env t
      rw [hκ] at hx
      obtain ⟨B1, b, cap, f2, f3, f1, hv⟩ := ptr_inv hx
      rw [f2] at q
      obtain ⟨cs, b2, cap2, arr, et, e1, e2, e3, e4, e5, e6⟩ := tapeOk_rel q (hR'.blk κ B1 f2)
      rw [f1] at e3
      simp only [Option.some.injEq, Prod.mk.injEq] at e3
      obtain ⟨rfl, rfl⟩ := e3
      have hbge : w.heap.size ≤ b := (hR'.own κ B1 b cap f2 f1).2.2.elim (fun h => h.elim) id
      refine ⟨hd, a'.tmps.getD t undef, ?_, _, .ptr d 0, _, locSet L d (some (b, cap)), rfl, p5, hR.newBlockAt p4 hR'.ext hbge (fun M' L2 H2 hM hl => ?_), ?_⟩
      · rw [results_eq, hres]
        simp [resM]
      · exact ⟨cs, b, cap, arr, et, e1, e2, hl, e4, e5, fun j c hc => (e6 j c hc).keep (fun x _ hn => ⟨rfl, fun hm => hn ((hM x hm).elim (fun h => .inl h) (fun e => .inr ⟨κ, B1, cap, f2, by rw [e]; exact f1⟩))⟩)⟩
      · rw [hv]
        exact .ptr d 0 (.obj J) b cap (hget_hset_same _ _ _) rfl (by simp [locSet])
    · exact q.elim
  refine wp_mono hwp (fun e a' w' he => ?_)
  rw [ho] at he
  cases e with
  | normal => exact fin a' w' (BehX.beh he)
  | ret => exact fin a' w' (BehX.beh he)
  | exit i => obtain ⟨_, _, h, _⟩ := BehX.beh he; exact h.elim
  | goto l => exact he
  | panic c => exact he.elim
  | outgrown => exact he.elim
end Go.AM
